/-
  Den, Base, Sim0, Clone, LaysS, Str, Lays, Sorts, Sim3, put together.
  Conditions: none; each part tells its own.
-/
import Derived.Test.YtnkmpgldbddnkaaDoorK1
import Derived.Test.YtnkmpgldbddnkaaDoorProg
import Derived.KernelRfl
import Derived.Shelf.Strconv.AppendIntPublic10
import Derived.Lib.ItoaLen
import Derived.Shelf.Sort.Plain
import Derived.Shelf.SlSortCmp.NoneTotal
import Derived.Shelf.Slices.CompactI
import Derived.Shelf.Small.Wraps
import Derived.Shelf.Slices.In.SortNone
namespace Go.Proofs.YtnkmpgldbddnkaaDoor
open Go Go.Eng
set_option linter.unusedVariables false
set_option maxRecDepth 100000
noncomputable def Ce (small_0:Int×Int×(Option Addr×Nat×Nat)×(Option Addr×Nat×Nat)×(Option Addr×Nat×Nat)×(Option Addr×Nat×Nat)×(Option Addr×Nat×Nat)×Unit) (more_1:Int):T:=
 T.new (.cells #[(.int .u8 small_0.1),(.int .u8 small_0.2.1),(.slice small_0.2.2.1.1 small_0.2.2.1.2.1 small_0.2.2.1.2.2),(.slice small_0.2.2.2.1.1 small_0.2.2.2.1.2.1 small_0.2.2.2.1.2.2),(.slice small_0.2.2.2.2.1.1 small_0.2.2.2.2.1.2.1 small_0.2.2.2.2.1.2.2),(.slice small_0.2.2.2.2.2.1.1 small_0.2.2.2.2.2.1.2.1 small_0.2.2.2.2.2.1.2.2),(.slice small_0.2.2.2.2.2.2.1.1 small_0.2.2.2.2.2.2.1.2.1 small_0.2.2.2.2.2.2.1.2.2)] 25 (0,0)) fun r1=>
 T.call 8 [] (.one (.atom .bool)) fun (t2:Bool)=>
 T.load (.int .u8) ⟨r1,0,none⟩ fun (t3:Int)=>
 T.load (.int .u8) ⟨r1,1,none⟩ fun (t4:Int)=>
 T.load .slice ⟨r1,2,none⟩ fun (t5:Option Addr×Nat×Nat)=>
 T.load .slice ⟨r1,3,none⟩ fun (t6:Option Addr×Nat×Nat)=>
 T.load .slice ⟨r1,4,none⟩ fun (t7:Option Addr×Nat×Nat)=>
 T.load .slice ⟨r1,5,none⟩ fun (t8:Option Addr×Nat×Nat)=>
 T.load .slice ⟨r1,6,none⟩ fun (t9:Option Addr×Nat×Nat)=>
 T.call 9 [(.agg #[(.int .u8 t3),(.int .u8 t4),(.slice t5.1 t5.2.1 t5.2.2),(.slice t6.1 t6.2.1 t6.2.2),(.slice t7.1 t7.2.1 t7.2.2),(.slice t8.1 t8.2.1 t8.2.2),(.slice t9.1 t9.2.1 t9.2.2)]),(.int .i64 (12:Int)),(.int .i64 (5:Int))] (.one (.atom .bool)) fun (t10:Bool)=>
 cond (!t10)
 (T.ret (.bool t2))
 (T.load (.int .u8) ⟨r1,0,none⟩ fun (t11:Int)=>
 T.load (.int .u8) ⟨r1,1,none⟩ fun (t12:Int)=>
 T.load .slice ⟨r1,2,none⟩ fun (t13:Option Addr×Nat×Nat)=>
 T.load .slice ⟨r1,3,none⟩ fun (t14:Option Addr×Nat×Nat)=>
 T.load .slice ⟨r1,4,none⟩ fun (t15:Option Addr×Nat×Nat)=>
 T.load .slice ⟨r1,5,none⟩ fun (t16:Option Addr×Nat×Nat)=>
 T.load .slice ⟨r1,6,none⟩ fun (t17:Option Addr×Nat×Nat)=>
 T.call 10 [(.agg #[(.int .u8 t11),(.int .u8 t12),(.slice t13.1 t13.2.1 t13.2.2),(.slice t14.1 t14.2.1 t14.2.2),(.slice t15.1 t15.2.1 t15.2.2),(.slice t16.1 t16.2.1 t16.2.2),(.slice t17.1 t17.2.1 t17.2.2)])] (.one (.agg [.slice, .slice, .slice, .slice, .slice, .slice])) fun (t18:(Option Addr×Nat×Nat)×(Option Addr×Nat×Nat)×(Option Addr×Nat×Nat)×(Option Addr×Nat×Nat)×(Option Addr×Nat×Nat)×(Option Addr×Nat×Nat)×Unit)=>
 T.new (.cells #[(.slice none 0 0),(.slice none 0 0),(.slice none 0 0),(.slice none 0 0),(.slice none 0 0),(.slice none 0 0)] 32 (0,0)) fun r19=>
 T.store ⟨r19,0,none⟩ (.slice t18.1.1 t18.1.2.1 t18.1.2.2) <|
 T.store ⟨r19,1,none⟩ (.slice t18.2.1.1 t18.2.1.2.1 t18.2.1.2.2) <|
 T.store ⟨r19,2,none⟩ (.slice t18.2.2.1.1 t18.2.2.1.2.1 t18.2.2.1.2.2) <|
 T.store ⟨r19,3,none⟩ (.slice t18.2.2.2.1.1 t18.2.2.2.1.2.1 t18.2.2.2.1.2.2) <|
 T.store ⟨r19,4,none⟩ (.slice t18.2.2.2.2.1.1 t18.2.2.2.2.1.2.1 t18.2.2.2.2.1.2.2) <|
 T.store ⟨r19,5,none⟩ (.slice t18.2.2.2.2.2.1.1 t18.2.2.2.2.2.1.2.1 t18.2.2.2.2.2.1.2.2) <|
 T.load .slice ⟨r19,0,none⟩ fun (t20:Option Addr×Nat×Nat)=>
 T.load .slice ⟨r19,1,none⟩ fun (t21:Option Addr×Nat×Nat)=>
 T.load .slice ⟨r19,2,none⟩ fun (t22:Option Addr×Nat×Nat)=>
 T.load .slice ⟨r19,3,none⟩ fun (t23:Option Addr×Nat×Nat)=>
 T.load .slice ⟨r19,4,none⟩ fun (t24:Option Addr×Nat×Nat)=>
 T.load .slice ⟨r19,5,none⟩ fun (t25:Option Addr×Nat×Nat)=>
 T.call 11 [(.agg #[(.slice t20.1 t20.2.1 t20.2.2),(.slice t21.1 t21.2.1 t21.2.2),(.slice t22.1 t22.2.1 t22.2.2),(.slice t23.1 t23.2.1 t23.2.2),(.slice t24.1 t24.2.1 t24.2.2),(.slice t25.1 t25.2.1 t25.2.2)]),(.int .i64 (2000:Int)),(.int .i64 (40000:Int))] (.tuple [(.atom .pointer),(.atom (.int .i64))]) fun (t26:(Option Addr)×Int×Unit)=>
 cond (Option.isNone t26.1)
 (T.join [(.atom .bool)]
 (cond t2
 (T.out [(.bool (t26.2.1==(5:Int)))])
 (T.out [(.bool false)])) fun (z27:Bool×Unit)=>
 T.ret (.bool z27.1))
 (T.call 12 [(.pointer t26.1)] (.one (.atom (.int .i64))) fun (t28:Int)=>
 T.call 13 [(.pointer t26.1)] (.one (.atom (.int .i64))) fun (t29:Int)=>
 T.load .slice ⟨r19,0,none⟩ fun (t30:Option Addr×Nat×Nat)=>
 T.load .slice ⟨r19,1,none⟩ fun (t31:Option Addr×Nat×Nat)=>
 T.load .slice ⟨r19,2,none⟩ fun (t32:Option Addr×Nat×Nat)=>
 T.load .slice ⟨r19,3,none⟩ fun (t33:Option Addr×Nat×Nat)=>
 T.load .slice ⟨r19,4,none⟩ fun (t34:Option Addr×Nat×Nat)=>
 T.load .slice ⟨r19,5,none⟩ fun (t35:Option Addr×Nat×Nat)=>
 T.call 11 [(.agg #[(.slice t30.1 t30.2.1 t30.2.2),(.slice t31.1 t31.2.1 t31.2.2),(.slice t32.1 t32.2.1 t32.2.2),(.slice t33.1 t33.2.1 t33.2.2),(.slice t34.1 t34.2.1 t34.2.2),(.slice t35.1 t35.2.1 t35.2.2)]),(.int .i64 t28),(.int .i64 t29)] (.tuple [(.atom .pointer),(.atom (.int .i64))]) fun (t36:(Option Addr)×Int×Unit)=>
 T.load .slice ⟨r19,0,none⟩ fun (t37:Option Addr×Nat×Nat)=>
 T.load .slice ⟨r19,1,none⟩ fun (t38:Option Addr×Nat×Nat)=>
 T.load .slice ⟨r19,2,none⟩ fun (t39:Option Addr×Nat×Nat)=>
 T.load .slice ⟨r19,3,none⟩ fun (t40:Option Addr×Nat×Nat)=>
 T.load .slice ⟨r19,4,none⟩ fun (t41:Option Addr×Nat×Nat)=>
 T.load .slice ⟨r19,5,none⟩ fun (t42:Option Addr×Nat×Nat)=>
 T.call 11 [(.agg #[(.slice t37.1 t37.2.1 t37.2.2),(.slice t38.1 t38.2.1 t38.2.2),(.slice t39.1 t39.2.1 t39.2.2),(.slice t40.1 t40.2.1 t40.2.2),(.slice t41.1 t41.2.1 t41.2.2),(.slice t42.1 t42.2.1 t42.2.2)]),(.int .i64 (IntKind.wrap .i64 (t28 - (1:Int)))),(.int .i64 t29)] (.tuple [(.atom .pointer),(.atom (.int .i64))]) fun (t43:(Option Addr)×Int×Unit)=>
 T.load .slice ⟨r19,0,none⟩ fun (t44:Option Addr×Nat×Nat)=>
 T.load .slice ⟨r19,1,none⟩ fun (t45:Option Addr×Nat×Nat)=>
 T.load .slice ⟨r19,2,none⟩ fun (t46:Option Addr×Nat×Nat)=>
 T.load .slice ⟨r19,3,none⟩ fun (t47:Option Addr×Nat×Nat)=>
 T.load .slice ⟨r19,4,none⟩ fun (t48:Option Addr×Nat×Nat)=>
 T.load .slice ⟨r19,5,none⟩ fun (t49:Option Addr×Nat×Nat)=>
 T.call 11 [(.agg #[(.slice t44.1 t44.2.1 t44.2.2),(.slice t45.1 t45.2.1 t45.2.2),(.slice t46.1 t46.2.1 t46.2.2),(.slice t47.1 t47.2.1 t47.2.2),(.slice t48.1 t48.2.1 t48.2.2),(.slice t49.1 t49.2.1 t49.2.2)]),(.int .i64 t28),(.int .i64 (IntKind.wrap .i64 (t29 - (1:Int))))] (.tuple [(.atom .pointer),(.atom (.int .i64))]) fun (t50:(Option Addr)×Int×Unit)=>
 T.load .slice ⟨r19,0,none⟩ fun (t51:Option Addr×Nat×Nat)=>
 T.load .slice ⟨r19,1,none⟩ fun (t52:Option Addr×Nat×Nat)=>
 T.load .slice ⟨r19,2,none⟩ fun (t53:Option Addr×Nat×Nat)=>
 T.load .slice ⟨r19,3,none⟩ fun (t54:Option Addr×Nat×Nat)=>
 T.load .slice ⟨r19,4,none⟩ fun (t55:Option Addr×Nat×Nat)=>
 T.load .slice ⟨r19,5,none⟩ fun (t56:Option Addr×Nat×Nat)=>
 T.call 11 [(.agg #[(.slice t51.1 t51.2.1 t51.2.2),(.slice t52.1 t52.2.1 t52.2.2),(.slice t53.1 t53.2.1 t53.2.2),(.slice t54.1 t54.2.1 t54.2.2),(.slice t55.1 t55.2.1 t55.2.2),(.slice t56.1 t56.2.1 t56.2.2)]),(.int .i64 (IntKind.wrap .i64 (t28+(IntKind.wrap .i64 more_1)))),(.int .i64 (IntKind.wrap .i64 (t29+(IntKind.wrap .i64 more_1))))] (.tuple [(.atom .pointer),(.atom (.int .i64))]) fun (t57:(Option Addr)×Int×Unit)=>
 T.join [(.atom .bool)]
 (cond (Option.isNone t36.1)
 (T.out [(.bool true)])
 (T.out [(.bool (Option.isNone t57.1))])) fun (z58:Bool×Unit)=>
 cond z58.1
 (T.ret (.bool false))
 (T.join [(.atom .bool)]
 (cond t2
 (cond (t26.2.1==(0:Int))
 (cond (t36.2.1==(0:Int))
 (cond (t43.2.1==(5:Int))
 (cond (t50.2.1==(5:Int))
 (cond (t57.2.1==(0:Int))
 (T.call 12 [(.pointer t36.1)] (.one (.atom (.int .i64))) fun (t60:Int)=>
 cond (t60==t28)
 (T.call 12 [(.pointer t57.1)] (.one (.atom (.int .i64))) fun (t61:Int)=>
 cond (t61==t28)
 (T.call 13 [(.pointer t36.1)] (.one (.atom (.int .i64))) fun (t62:Int)=>
 cond (t62==t29)
 (T.call 13 [(.pointer t57.1)] (.one (.atom (.int .i64))) fun (t63:Int)=>
 T.out [(.bool (t63==t29))])
 (T.out [(.bool false)]))
 (T.out [(.bool false)]))
 (T.out [(.bool false)]))
 (T.out [(.bool false)]))
 (T.out [(.bool false)]))
 (T.out [(.bool false)]))
 (T.out [(.bool false)]))
 (T.out [(.bool false)]))
 (T.out [(.bool false)])) fun (z59:Bool×Unit)=>
 T.ret (.bool z59.1))))
theorem D5 (small_0:Int×Int×(Option Addr×Nat×Nat)×(Option Addr×Nat×Nat)×(Option Addr×Nat×Nat)×(Option Addr×Nat×Nat)×(Option Addr×Nat×Nat)×Unit) (more_1:Int):Am Tryd.prog Tryd.f3 [(.agg #[(.int .u8 small_0.1),(.int .u8 small_0.2.1),(.slice small_0.2.2.1.1 small_0.2.2.1.2.1 small_0.2.2.1.2.2),(.slice small_0.2.2.2.1.1 small_0.2.2.2.1.2.1 small_0.2.2.2.1.2.2),(.slice small_0.2.2.2.2.1.1 small_0.2.2.2.2.1.2.1 small_0.2.2.2.2.1.2.2),(.slice small_0.2.2.2.2.2.1.1 small_0.2.2.2.2.2.1.2.1 small_0.2.2.2.2.2.1.2.2),(.slice small_0.2.2.2.2.2.2.1.1 small_0.2.2.2.2.2.2.1.2.1 small_0.2.2.2.2.2.2.1.2.2)]),(.int .u8 more_1)] =Ce small_0 more_1:=by kernel_rfl
noncomputable def CZ (small_0:Int×Int×(Option Addr×Nat×Nat)×(Option Addr×Nat×Nat)×(Option Addr×Nat×Nat)×(Option Addr×Nat×Nat)×(Option Addr×Nat×Nat)×Unit):T:=
 T.new (.cells #[(.int .u8 small_0.1),(.int .u8 small_0.2.1),(.slice small_0.2.2.1.1 small_0.2.2.1.2.1 small_0.2.2.1.2.2),(.slice small_0.2.2.2.1.1 small_0.2.2.2.1.2.1 small_0.2.2.2.1.2.2),(.slice small_0.2.2.2.2.1.1 small_0.2.2.2.2.1.2.1 small_0.2.2.2.2.1.2.2),(.slice small_0.2.2.2.2.2.1.1 small_0.2.2.2.2.2.1.2.1 small_0.2.2.2.2.2.1.2.2),(.slice small_0.2.2.2.2.2.2.1.1 small_0.2.2.2.2.2.2.1.2.1 small_0.2.2.2.2.2.2.1.2.2)] 25 (0,0)) fun r1=>
 T.call 8 [] (.one (.atom .bool)) fun (t2:Bool)=>
 T.load (.int .u8) ⟨r1,0,none⟩ fun (t3:Int)=>
 T.load (.int .u8) ⟨r1,1,none⟩ fun (t4:Int)=>
 T.load .slice ⟨r1,2,none⟩ fun (t5:Option Addr×Nat×Nat)=>
 T.load .slice ⟨r1,3,none⟩ fun (t6:Option Addr×Nat×Nat)=>
 T.load .slice ⟨r1,4,none⟩ fun (t7:Option Addr×Nat×Nat)=>
 T.load .slice ⟨r1,5,none⟩ fun (t8:Option Addr×Nat×Nat)=>
 T.load .slice ⟨r1,6,none⟩ fun (t9:Option Addr×Nat×Nat)=>
 T.call 9 [(.agg #[(.int .u8 t3),(.int .u8 t4),(.slice t5.1 t5.2.1 t5.2.2),(.slice t6.1 t6.2.1 t6.2.2),(.slice t7.1 t7.2.1 t7.2.2),(.slice t8.1 t8.2.1 t8.2.2),(.slice t9.1 t9.2.1 t9.2.2)]),(.int .i64 (12:Int)),(.int .i64 (5:Int))] (.one (.atom .bool)) fun (t10:Bool)=>
 cond (!t10)
 (T.ret (.bool t2))
 (T.load (.int .u8) ⟨r1,0,none⟩ fun (t11:Int)=>
 T.load (.int .u8) ⟨r1,1,none⟩ fun (t12:Int)=>
 T.load .slice ⟨r1,2,none⟩ fun (t13:Option Addr×Nat×Nat)=>
 T.load .slice ⟨r1,3,none⟩ fun (t14:Option Addr×Nat×Nat)=>
 T.load .slice ⟨r1,4,none⟩ fun (t15:Option Addr×Nat×Nat)=>
 T.load .slice ⟨r1,5,none⟩ fun (t16:Option Addr×Nat×Nat)=>
 T.load .slice ⟨r1,6,none⟩ fun (t17:Option Addr×Nat×Nat)=>
 T.call 10 [(.agg #[(.int .u8 t11),(.int .u8 t12),(.slice t13.1 t13.2.1 t13.2.2),(.slice t14.1 t14.2.1 t14.2.2),(.slice t15.1 t15.2.1 t15.2.2),(.slice t16.1 t16.2.1 t16.2.2),(.slice t17.1 t17.2.1 t17.2.2)])] (.one (.agg [.slice, .slice, .slice, .slice, .slice, .slice])) fun (t18:(Option Addr×Nat×Nat)×(Option Addr×Nat×Nat)×(Option Addr×Nat×Nat)×(Option Addr×Nat×Nat)×(Option Addr×Nat×Nat)×(Option Addr×Nat×Nat)×Unit)=>
 T.new (.cells #[(.slice none 0 0),(.slice none 0 0),(.slice none 0 0),(.slice none 0 0),(.slice none 0 0),(.slice none 0 0)] 32 (0,0)) fun r19=>
 T.store ⟨r19,0,none⟩ (.slice t18.1.1 t18.1.2.1 t18.1.2.2) <|
 T.store ⟨r19,1,none⟩ (.slice t18.2.1.1 t18.2.1.2.1 t18.2.1.2.2) <|
 T.store ⟨r19,2,none⟩ (.slice t18.2.2.1.1 t18.2.2.1.2.1 t18.2.2.1.2.2) <|
 T.store ⟨r19,3,none⟩ (.slice t18.2.2.2.1.1 t18.2.2.2.1.2.1 t18.2.2.2.1.2.2) <|
 T.store ⟨r19,4,none⟩ (.slice t18.2.2.2.2.1.1 t18.2.2.2.2.1.2.1 t18.2.2.2.2.1.2.2) <|
 T.store ⟨r19,5,none⟩ (.slice t18.2.2.2.2.2.1.1 t18.2.2.2.2.2.1.2.1 t18.2.2.2.2.2.1.2.2) <|
 T.load .slice ⟨r19,0,none⟩ fun (t20:Option Addr×Nat×Nat)=>
 T.load .slice ⟨r19,1,none⟩ fun (t21:Option Addr×Nat×Nat)=>
 T.load .slice ⟨r19,2,none⟩ fun (t22:Option Addr×Nat×Nat)=>
 T.load .slice ⟨r19,3,none⟩ fun (t23:Option Addr×Nat×Nat)=>
 T.load .slice ⟨r19,4,none⟩ fun (t24:Option Addr×Nat×Nat)=>
 T.load .slice ⟨r19,5,none⟩ fun (t25:Option Addr×Nat×Nat)=>
 T.call 11 [(.agg #[(.slice t20.1 t20.2.1 t20.2.2),(.slice t21.1 t21.2.1 t21.2.2),(.slice t22.1 t22.2.1 t22.2.2),(.slice t23.1 t23.2.1 t23.2.2),(.slice t24.1 t24.2.1 t24.2.2),(.slice t25.1 t25.2.1 t25.2.2)]),(.int .i64 (2000:Int)),(.int .i64 (40000:Int))] (.tuple [(.atom .pointer),(.atom (.int .i64))]) fun (t26:(Option Addr)×Int×Unit)=>
 cond (Option.isNone t26.1)
 (T.join [(.atom .bool)]
 (cond t2
 (T.out [(.bool (t26.2.1==(5:Int)))])
 (T.out [(.bool false)])) fun (z27:Bool×Unit)=>
 T.ret (.bool z27.1))
 (T.block 0 [(.atom (.int .i64)),(.atom (.int .i64)),(.atom .bool)]
 (T.loop [(.atom (.int .i64)),(.atom (.int .i64)),(.atom .bool)] [(.int .i64 (0:Int)),(.int .i64 (0:Int)),(.bool false)] fun (z29:Int×Int×Bool×Unit)=>
 T.call 12 [(.pointer t26.1)] (.one (.atom (.int .i64))) fun (t30:Int)=>
 cond (decide (z29.1<t30))
 (T.call 14 [(.pointer t26.1),(.int .i64 z29.1)] (.one (.atom .slice)) fun (t31:Option Addr×Nat×Nat)=>
 T.call 15 [(.pointer t26.1),(.int .i64 z29.1)] (.one (.atom .slice)) fun (t32:Option Addr×Nat×Nat)=>
 T.block 2 [(.atom (.int .i64)),(.atom .slice),(.atom .bool)]
 (T.loop [(.atom (.int .i64)),(.atom .slice),(.atom .bool)] [(.int .i64 (0:Int)),(.slice none 0 0),(.bool z29.2.2.1)] fun (z34:Int×(Option Addr×Nat×Nat)×Bool×Unit)=>
 cond (decide (z34.1< ((t31.2.1:Nat):Int)))
 (T.load .slice ⟨r19,0,none⟩ fun (t35:Option Addr×Nat×Nat)=>
 T.load .slice ⟨r19,1,none⟩ fun (t36:Option Addr×Nat×Nat)=>
 T.load .slice ⟨r19,2,none⟩ fun (t37:Option Addr×Nat×Nat)=>
 T.load .slice ⟨r19,3,none⟩ fun (t38:Option Addr×Nat×Nat)=>
 T.load .slice ⟨r19,4,none⟩ fun (t39:Option Addr×Nat×Nat)=>
 T.load .slice ⟨r19,5,none⟩ fun (t40:Option Addr×Nat×Nat)=>
 AP t31.1 fun a41=>
 chk (0≤z34.1∧z34.1< (t31.2.1:Nat)) <|
 T.load (.int .i64) (a41.add (Int.toNat z34.1 * 2)) fun (t42:Int)=>
 T.load (.int .i64) ((a41.add (Int.toNat z34.1 * 2)).add 1) fun (t43:Int)=>
 T.call 16 [(.agg #[(.slice t35.1 t35.2.1 t35.2.2),(.slice t36.1 t36.2.1 t36.2.2),(.slice t37.1 t37.2.1 t37.2.2),(.slice t38.1 t38.2.1 t38.2.2),(.slice t39.1 t39.2.1 t39.2.2),(.slice t40.1 t40.2.1 t40.2.2)]),(.agg #[(.int .i64 t42),(.int .i64 t43)])] (.one (.atom (.int .i64))) fun (t44:Int)=>
 T.new (.cells #[(.int .i64 t44)] 3 (0,0)) fun r45=>
 T.sem (Builtin.append_ #[30,30] 30 #[(.slice z34.2.1.1 z34.2.1.2.1 z34.2.1.2.2),(.slice (some ⟨r45,0,none⟩) 1 1)]) (.one (.atom .slice)) fun (t46:Option Addr×Nat×Nat)=>
 T.join [(.atom .bool)]
 (cond (decide (z34.1>(0:Int)))
 (AP t31.1 fun a48=>
 chk (0≤(IntKind.wrap .i64 (z34.1 - (1:Int)))∧(IntKind.wrap .i64 (z34.1 - (1:Int))) < (t31.2.1:Nat)) <|
 T.load (.int .i64) (a48.add (Int.toNat (IntKind.wrap .i64 (z34.1 - (1:Int))) * 2)) fun (t49:Int)=>
 AP t31.1 fun a50=>
 chk (0≤z34.1∧z34.1< (t31.2.1:Nat)) <|
 T.load (.int .i64) (a50.add (Int.toNat z34.1 * 2)) fun (t51:Int)=>
 cond (decide (t49>t51))
 (T.out [(.bool true)])
 (AP t31.1 fun a52=>
 chk (0≤(IntKind.wrap .i64 (z34.1 - (1:Int)))∧(IntKind.wrap .i64 (z34.1 - (1:Int))) < (t31.2.1:Nat)) <|
 T.load (.int .i64) (a52.add (Int.toNat (IntKind.wrap .i64 (z34.1 - (1:Int))) * 2)) fun (t53:Int)=>
 AP t31.1 fun a54=>
 chk (0≤z34.1∧z34.1< (t31.2.1:Nat)) <|
 T.load (.int .i64) (a54.add (Int.toNat z34.1 * 2)) fun (t55:Int)=>
 cond (t53==t55)
 (AP t31.1 fun a56=>
 chk (0≤(IntKind.wrap .i64 (z34.1 - (1:Int)))∧(IntKind.wrap .i64 (z34.1 - (1:Int))) < (t31.2.1:Nat)) <|
 T.load (.int .i64) ((a56.add (Int.toNat (IntKind.wrap .i64 (z34.1 - (1:Int))) * 2)).add 1) fun (t57:Int)=>
 AP t31.1 fun a58=>
 chk (0≤z34.1∧z34.1< (t31.2.1:Nat)) <|
 T.load (.int .i64) ((a58.add (Int.toNat z34.1 * 2)).add 1) fun (t59:Int)=>
 T.out [(.bool (decide (t57≥t59)))])
 (T.out [(.bool false)])))
 (T.out [(.bool false)])) fun (z47:Bool×Unit)=>
 cond z47.1
 (T.ret (.bool false))
 (T.out [(.int .i64 (IntKind.wrap .i64 (z34.1+(1:Int)))),(.slice t46.1 t46.2.1 t46.2.2),(.bool z34.2.2.1)]))
 (T.brk 2 [(.int .i64 z34.1),(.slice z34.2.1.1 z34.2.1.2.1 z34.2.1.2.2),(.bool z34.2.2.1)])) fun (z33:Int×(Option Addr×Nat×Nat)×Bool×Unit)=>
 T.block 4 [(.atom (.int .i64)),(.atom .bool)]
 (T.loop [(.atom (.int .i64)),(.atom .bool)] [(.int .i64 (0:Int)),(.bool z33.2.2.1)] fun (z61:Int×Bool×Unit)=>
 T.load .slice ⟨r19,2,none⟩ fun (t62:Option Addr×Nat×Nat)=>
 cond (decide (z61.1< ((t62.2.1:Nat):Int)))
 (T.join [(.atom .bool)]
 (T.load .slice ⟨r19,2,none⟩ fun (t64:Option Addr×Nat×Nat)=>
 AP t64.1 fun a65=>
 chk (0≤z61.1∧z61.1< (t64.2.1:Nat)) <|
 T.load (.int .i64) (a65.add (Int.toNat z61.1 * 3)) fun (t66:Int)=>
 T.call 17 [(.slice z33.2.1.1 z33.2.1.2.1 z33.2.1.2.2),(.int .i64 t66)] (.one (.atom .bool)) fun (t67:Bool)=>
 cond t67
 (T.call 18 [(.slice t31.1 t31.2.1 t31.2.2),(.agg #[(.int .i64 z61.1),(.int .i64 (0:Int))])] (.one (.atom .bool)) fun (t68:Bool)=>
 T.out [(.bool (!t68))])
 (T.out [(.bool false)])) fun (z63:Bool×Unit)=>
 cond z63.1
 (T.ret (.bool false))
 (T.out [(.int .i64 (IntKind.wrap .i64 (z61.1+(1:Int)))),(.bool z61.2.1)]))
 (T.brk 4 [(.int .i64 z61.1),(.bool z61.2.1)])) fun (z60:Int×Bool×Unit)=>
 T.block 6 [(.atom (.int .i64)),(.atom .bool)]
 (T.loop [(.atom (.int .i64)),(.atom .bool)] [(.int .i64 (0:Int)),(.bool z60.2.1)] fun (z70:Int×Bool×Unit)=>
 cond (decide (z70.1< ((t31.2.1:Nat):Int)))
 (T.join [(.atom .bool)]
 (AP t31.1 fun a72=>
 chk (0≤z70.1∧z70.1< (t31.2.1:Nat)) <|
 T.load (.int .i64) (a72.add (Int.toNat z70.1 * 2)) fun (t73:Int)=>
 T.load (.int .i64) ((a72.add (Int.toNat z70.1 * 2)).add 1) fun (t74:Int)=>
 T.call 18 [(.slice t32.1 t32.2.1 t32.2.2),(.agg #[(.int .i64 t73),(.int .i64 t74)])] (.one (.atom .bool)) fun (t75:Bool)=>
 cond (!t75)
 (AP t31.1 fun a76=>
 chk (0≤z70.1∧z70.1< (t31.2.1:Nat)) <|
 T.load (.int .i64) ((a76.add (Int.toNat z70.1 * 2)).add 1) fun (t77:Int)=>
 cond (t77 !=(0:Int))
 (T.out [(.bool true)])
 (T.load .slice ⟨r19,2,none⟩ fun (t78:Option Addr×Nat×Nat)=>
 AP t31.1 fun a79=>
 chk (0≤z70.1∧z70.1< (t31.2.1:Nat)) <|
 T.load (.int .i64) (a79.add (Int.toNat z70.1 * 2)) fun (t80:Int)=>
 AP t78.1 fun a81=>
 chk (0≤t80∧t80< (t78.2.1:Nat)) <|
 T.load (.int .i64) (a81.add (Int.toNat t80 * 3)) fun (t82:Int)=>
 T.call 17 [(.slice z33.2.1.1 z33.2.1.2.1 z33.2.1.2.2),(.int .i64 t82)] (.one (.atom .bool)) fun (t83:Bool)=>
 T.out [(.bool (!t83))]))
 (T.out [(.bool false)])) fun (z71:Bool×Unit)=>
 cond z71.1
 (T.ret (.bool false))
 (T.out [(.int .i64 (IntKind.wrap .i64 (z70.1+(1:Int)))),(.bool z70.2.1)]))
 (T.brk 6 [(.int .i64 z70.1),(.bool z70.2.1)])) fun (z69:Int×Bool×Unit)=>
 T.block 8 [(.atom (.int .i64)),(.atom .bool)]
 (T.loop [(.atom (.int .i64)),(.atom .bool)] [(.int .i64 (0:Int)),(.bool z69.2.1)] fun (z85:Int×Bool×Unit)=>
 cond (decide (z85.1< ((t32.2.1:Nat):Int)))
 (AP t32.1 fun a86=>
 chk (0≤z85.1∧z85.1< (t32.2.1:Nat)) <|
 T.load (.int .i64) (a86.add (Int.toNat z85.1 * 2)) fun (t87:Int)=>
 T.load (.int .i64) ((a86.add (Int.toNat z85.1 * 2)).add 1) fun (t88:Int)=>
 T.call 18 [(.slice t31.1 t31.2.1 t31.2.2),(.agg #[(.int .i64 t87),(.int .i64 t88)])] (.one (.atom .bool)) fun (t89:Bool)=>
 cond (!t89)
 (T.ret (.bool false))
 (T.out [(.int .i64 (IntKind.wrap .i64 (z85.1+(1:Int)))),(.bool z85.2.1)]))
 (T.brk 8 [(.int .i64 z85.1),(.bool z85.2.1)])) fun (z84:Int×Bool×Unit)=>
 T.out [(.int .i64 (IntKind.wrap .i64 (z29.1+(1:Int)))),(.int .i64 (IntKind.wrap .i64 (z29.2.1+((t31.2.1:Nat):Int)))),(.bool z84.2.1)])
 (T.brk 0 [(.int .i64 z29.1),(.int .i64 z29.2.1),(.bool z29.2.2.1)])) fun (z28:Int×Int×Bool×Unit)=>
 T.join [(.atom .bool)]
 (cond t2
 (T.call 13 [(.pointer t26.1)] (.one (.atom (.int .i64))) fun (t91:Int)=>
 cond (z28.2.1==t91)
 (T.call 12 [(.pointer t26.1)] (.one (.atom (.int .i64))) fun (t92:Int)=>
 T.out [(.bool (decide (t92>(0:Int))))])
 (T.out [(.bool false)]))
 (T.out [(.bool false)])) fun (z90:Bool×Unit)=>
 T.ret (.bool z90.1)))
theorem Dp (small_0:Int×Int×(Option Addr×Nat×Nat)×(Option Addr×Nat×Nat)×(Option Addr×Nat×Nat)×(Option Addr×Nat×Nat)×(Option Addr×Nat×Nat)×Unit):Am Tryd.prog Tryd.f4 [(.agg #[(.int .u8 small_0.1),(.int .u8 small_0.2.1),(.slice small_0.2.2.1.1 small_0.2.2.1.2.1 small_0.2.2.1.2.2),(.slice small_0.2.2.2.1.1 small_0.2.2.2.1.2.1 small_0.2.2.2.1.2.2),(.slice small_0.2.2.2.2.1.1 small_0.2.2.2.2.1.2.1 small_0.2.2.2.2.1.2.2),(.slice small_0.2.2.2.2.2.1.1 small_0.2.2.2.2.2.1.2.1 small_0.2.2.2.2.2.1.2.2),(.slice small_0.2.2.2.2.2.2.1.1 small_0.2.2.2.2.2.2.1.2.1 small_0.2.2.2.2.2.2.1.2.2)])] =CZ small_0:=by kernel_rfl
noncomputable def Cf (small_0:Int×Int×(Option Addr×Nat×Nat)×(Option Addr×Nat×Nat)×(Option Addr×Nat×Nat)×(Option Addr×Nat×Nat)×(Option Addr×Nat×Nat)×Unit) (n_1:Int) (x_2_p:Option Addr) (x_2_n x_2_c:Nat) (y_3_p:Option Addr) (y_3_n y_3_c:Nat):T:=
 T.new (.cells #[(.int .u8 small_0.1),(.int .u8 small_0.2.1),(.slice small_0.2.2.1.1 small_0.2.2.1.2.1 small_0.2.2.1.2.2),(.slice small_0.2.2.2.1.1 small_0.2.2.2.1.2.1 small_0.2.2.2.1.2.2),(.slice small_0.2.2.2.2.1.1 small_0.2.2.2.2.1.2.1 small_0.2.2.2.2.1.2.2),(.slice small_0.2.2.2.2.2.1.1 small_0.2.2.2.2.2.1.2.1 small_0.2.2.2.2.2.1.2.2),(.slice small_0.2.2.2.2.2.2.1.1 small_0.2.2.2.2.2.2.1.2.1 small_0.2.2.2.2.2.2.1.2.2)] 25 (0,0)) fun r1=>
 T.call 8 [] (.one (.atom .bool)) fun (t2:Bool)=>
 T.load (.int .u8) ⟨r1,0,none⟩ fun (t3:Int)=>
 T.load (.int .u8) ⟨r1,1,none⟩ fun (t4:Int)=>
 T.load .slice ⟨r1,2,none⟩ fun (t5:Option Addr×Nat×Nat)=>
 T.load .slice ⟨r1,3,none⟩ fun (t6:Option Addr×Nat×Nat)=>
 T.load .slice ⟨r1,4,none⟩ fun (t7:Option Addr×Nat×Nat)=>
 T.load .slice ⟨r1,5,none⟩ fun (t8:Option Addr×Nat×Nat)=>
 T.load .slice ⟨r1,6,none⟩ fun (t9:Option Addr×Nat×Nat)=>
 T.call 9 [(.agg #[(.int .u8 t3),(.int .u8 t4),(.slice t5.1 t5.2.1 t5.2.2),(.slice t6.1 t6.2.1 t6.2.2),(.slice t7.1 t7.2.1 t7.2.2),(.slice t8.1 t8.2.1 t8.2.2),(.slice t9.1 t9.2.1 t9.2.2)]),(.int .i64 (12:Int)),(.int .i64 (5:Int))] (.one (.atom .bool)) fun (t10:Bool)=>
 T.join [(.atom .bool)]
 (cond (!t10)
 (T.out [(.bool true)])
 (cond (decide (((x_2_n:Nat):Int) >(8:Int)))
 (T.out [(.bool true)])
 (T.out [(.bool (decide (((y_3_n:Nat):Int) >(8:Int))))]))) fun (z11:Bool×Unit)=>
 cond z11.1
 (T.ret (.bool t2))
 (T.load (.int .u8) ⟨r1,0,none⟩ fun (t12:Int)=>
 T.load (.int .u8) ⟨r1,1,none⟩ fun (t13:Int)=>
 T.load .slice ⟨r1,2,none⟩ fun (t14:Option Addr×Nat×Nat)=>
 T.load .slice ⟨r1,3,none⟩ fun (t15:Option Addr×Nat×Nat)=>
 T.load .slice ⟨r1,4,none⟩ fun (t16:Option Addr×Nat×Nat)=>
 T.load .slice ⟨r1,5,none⟩ fun (t17:Option Addr×Nat×Nat)=>
 T.load .slice ⟨r1,6,none⟩ fun (t18:Option Addr×Nat×Nat)=>
 T.call 10 [(.agg #[(.int .u8 t12),(.int .u8 t13),(.slice t14.1 t14.2.1 t14.2.2),(.slice t15.1 t15.2.1 t15.2.2),(.slice t16.1 t16.2.1 t16.2.2),(.slice t17.1 t17.2.1 t17.2.2),(.slice t18.1 t18.2.1 t18.2.2)])] (.one (.agg [.slice, .slice, .slice, .slice, .slice, .slice])) fun (t19:(Option Addr×Nat×Nat)×(Option Addr×Nat×Nat)×(Option Addr×Nat×Nat)×(Option Addr×Nat×Nat)×(Option Addr×Nat×Nat)×(Option Addr×Nat×Nat)×Unit)=>
 T.new (.cells #[(.slice none 0 0),(.slice none 0 0),(.slice none 0 0),(.slice none 0 0),(.slice none 0 0),(.slice none 0 0)] 32 (0,0)) fun r20=>
 T.store ⟨r20,0,none⟩ (.slice t19.1.1 t19.1.2.1 t19.1.2.2) <|
 T.store ⟨r20,1,none⟩ (.slice t19.2.1.1 t19.2.1.2.1 t19.2.1.2.2) <|
 T.store ⟨r20,2,none⟩ (.slice t19.2.2.1.1 t19.2.2.1.2.1 t19.2.2.1.2.2) <|
 T.store ⟨r20,3,none⟩ (.slice t19.2.2.2.1.1 t19.2.2.2.1.2.1 t19.2.2.2.1.2.2) <|
 T.store ⟨r20,4,none⟩ (.slice t19.2.2.2.2.1.1 t19.2.2.2.2.1.2.1 t19.2.2.2.2.1.2.2) <|
 T.store ⟨r20,5,none⟩ (.slice t19.2.2.2.2.2.1.1 t19.2.2.2.2.2.1.2.1 t19.2.2.2.2.2.1.2.2) <|
 T.load .slice ⟨r20,0,none⟩ fun (t21:Option Addr×Nat×Nat)=>
 T.load .slice ⟨r20,1,none⟩ fun (t22:Option Addr×Nat×Nat)=>
 T.load .slice ⟨r20,2,none⟩ fun (t23:Option Addr×Nat×Nat)=>
 T.load .slice ⟨r20,3,none⟩ fun (t24:Option Addr×Nat×Nat)=>
 T.load .slice ⟨r20,4,none⟩ fun (t25:Option Addr×Nat×Nat)=>
 T.load .slice ⟨r20,5,none⟩ fun (t26:Option Addr×Nat×Nat)=>
 T.call 11 [(.agg #[(.slice t21.1 t21.2.1 t21.2.2),(.slice t22.1 t22.2.1 t22.2.2),(.slice t23.1 t23.2.1 t23.2.2),(.slice t24.1 t24.2.1 t24.2.2),(.slice t25.1 t25.2.1 t25.2.2),(.slice t26.1 t26.2.1 t26.2.2)]),(.int .i64 (2000:Int)),(.int .i64 (40000:Int))] (.tuple [(.atom .pointer),(.atom (.int .i64))]) fun (t27:(Option Addr)×Int×Unit)=>
 T.join [(.atom .bool)]
 (cond (Option.isNone t27.1)
 (T.out [(.bool true)])
 (T.call 12 [(.pointer t27.1)] (.one (.atom (.int .i64))) fun (t29:Int)=>
 T.out [(.bool (t29==(0:Int)))])) fun (z28:Bool×Unit)=>
 cond z28.1
 (T.join [(.atom .bool)]
 (cond t2
 (cond (Option.isNone t27.1)
 (T.out [(.bool (t27.2.1==(5:Int)))])
 (T.out [(.bool false)]))
 (T.out [(.bool false)])) fun (z30:Bool×Unit)=>
 T.ret (.bool z30.1))
 (T.load .slice ⟨r20,0,none⟩ fun (t31:Option Addr×Nat×Nat)=>
 T.load .slice ⟨r20,1,none⟩ fun (t32:Option Addr×Nat×Nat)=>
 T.block 0 [(.atom (.int .i64)),(.atom .slice)]
 (T.loop [(.atom (.int .i64)),(.atom .slice)] [(.int .i64 (0:Int)),(.slice none 0 0)] fun (z34:Int×(Option Addr×Nat×Nat)×Unit)=>
 cond (decide (z34.1< ((x_2_n:Nat):Int)))
 (AP x_2_p fun a35=>
 chk (0≤z34.1∧z34.1< (x_2_n:Nat)) <|
 T.load (.int .u8) (a35.add (Int.toNat z34.1 * 1)) fun (t36:Int)=>
 chk ((IntKind.wrap .i64 (((t31.2.1:Nat):Int) +((t32.2.1:Nat):Int))) ≠ 0) <|
 T.new (.cells #[(.int .i64 (Int.tmod (IntKind.wrap .i64 t36) (IntKind.wrap .i64 (((t31.2.1:Nat):Int) +((t32.2.1:Nat):Int)))))] 3 (0,0)) fun r37=>
 T.sem (Builtin.append_ #[30,30] 30 #[(.slice z34.2.1.1 z34.2.1.2.1 z34.2.1.2.2),(.slice (some ⟨r37,0,none⟩) 1 1)]) (.one (.atom .slice)) fun (t38:Option Addr×Nat×Nat)=>
 T.out [(.int .i64 (IntKind.wrap .i64 (z34.1+(1:Int)))),(.slice t38.1 t38.2.1 t38.2.2)])
 (T.brk 0 [(.int .i64 z34.1),(.slice z34.2.1.1 z34.2.1.2.1 z34.2.1.2.2)])) fun (z33:Int×(Option Addr×Nat×Nat)×Unit)=>
 T.block 2 [(.atom (.int .i64)),(.atom .slice)]
 (T.loop [(.atom (.int .i64)),(.atom .slice)] [(.int .i64 (0:Int)),(.slice none 0 0)] fun (z40:Int×(Option Addr×Nat×Nat)×Unit)=>
 cond (decide (z40.1< ((y_3_n:Nat):Int)))
 (AP y_3_p fun a41=>
 chk (0≤z40.1∧z40.1< (y_3_n:Nat)) <|
 T.load (.int .u8) (a41.add (Int.toNat z40.1 * 1)) fun (t42:Int)=>
 chk ((IntKind.wrap .i64 (((t31.2.1:Nat):Int) +((t32.2.1:Nat):Int))) ≠ 0) <|
 T.new (.cells #[(.int .i64 (Int.tmod (IntKind.wrap .i64 t42) (IntKind.wrap .i64 (((t31.2.1:Nat):Int) +((t32.2.1:Nat):Int)))))] 3 (0,0)) fun r43=>
 T.sem (Builtin.append_ #[30,30] 30 #[(.slice z40.2.1.1 z40.2.1.2.1 z40.2.1.2.2),(.slice (some ⟨r43,0,none⟩) 1 1)]) (.one (.atom .slice)) fun (t44:Option Addr×Nat×Nat)=>
 T.out [(.int .i64 (IntKind.wrap .i64 (z40.1+(1:Int)))),(.slice t44.1 t44.2.1 t44.2.2)])
 (T.brk 2 [(.int .i64 z40.1),(.slice z40.2.1.1 z40.2.1.2.1 z40.2.1.2.2)])) fun (z39:Int×(Option Addr×Nat×Nat)×Unit)=>
 T.call 12 [(.pointer t27.1)] (.one (.atom (.int .i64))) fun (t45:Int)=>
 chk (t45 ≠ 0) <|
 T.call 19 [(.pointer t27.1),(.int .i64 (Int.tmod (IntKind.wrap .i64 n_1) t45)),(.slice z33.2.1.1 z33.2.1.2.1 z33.2.1.2.2)] (.one (.atom (.int .i64))) fun (t46:Int)=>
 T.call 19 [(.pointer t27.1),(.int .i64 t46),(.slice z39.2.1.1 z39.2.1.2.1 z39.2.1.2.2)] (.one (.atom (.int .i64))) fun (t47:Int)=>
 T.join [(.atom .bool)]
 (cond t2
 (T.new (.cells #[] 3 (0,0)) fun r49=>
 T.sem (Builtin.append_ #[30,30] 30 #[(.slice (some ⟨r49,0,none⟩) 0 0),(.slice z33.2.1.1 z33.2.1.2.1 z33.2.1.2.2)]) (.one (.atom .slice)) fun (t50:Option Addr×Nat×Nat)=>
 T.sem (Builtin.append_ #[30,30] 30 #[(.slice t50.1 t50.2.1 t50.2.2),(.slice z39.2.1.1 z39.2.1.2.1 z39.2.1.2.2)]) (.one (.atom .slice)) fun (t51:Option Addr×Nat×Nat)=>
 T.call 19 [(.pointer t27.1),(.int .i64 (Int.tmod (IntKind.wrap .i64 n_1) t45)),(.slice t51.1 t51.2.1 t51.2.2)] (.one (.atom (.int .i64))) fun (t52:Int)=>
 cond (t52==t47)
 (T.call 19 [(.pointer t27.1),(.int .i64 (Int.tmod (IntKind.wrap .i64 n_1) t45)),(.slice none 0 0)] (.one (.atom (.int .i64))) fun (t53:Int)=>
 cond (t53==(Int.tmod (IntKind.wrap .i64 n_1) t45))
 (T.call 19 [(.pointer t27.1),(.int .i64 (-1:Int)),(.slice z39.2.1.1 z39.2.1.2.1 z39.2.1.2.2)] (.one (.atom (.int .i64))) fun (t54:Int)=>
 T.out [(.bool (t54==(-1:Int)))])
 (T.out [(.bool false)]))
 (T.out [(.bool false)]))
 (T.out [(.bool false)])) fun (z48:Bool×Unit)=>
 T.ret (.bool z48.1)))
theorem D6 (small_0:Int×Int×(Option Addr×Nat×Nat)×(Option Addr×Nat×Nat)×(Option Addr×Nat×Nat)×(Option Addr×Nat×Nat)×(Option Addr×Nat×Nat)×Unit) (n_1:Int) (x_2_p:Option Addr) (x_2_n x_2_c:Nat) (y_3_p:Option Addr) (y_3_n y_3_c:Nat):Am Tryd.prog Tryd.f5 [(.agg #[(.int .u8 small_0.1),(.int .u8 small_0.2.1),(.slice small_0.2.2.1.1 small_0.2.2.1.2.1 small_0.2.2.1.2.2),(.slice small_0.2.2.2.1.1 small_0.2.2.2.1.2.1 small_0.2.2.2.1.2.2),(.slice small_0.2.2.2.2.1.1 small_0.2.2.2.2.1.2.1 small_0.2.2.2.2.1.2.2),(.slice small_0.2.2.2.2.2.1.1 small_0.2.2.2.2.2.1.2.1 small_0.2.2.2.2.2.1.2.2),(.slice small_0.2.2.2.2.2.2.1.1 small_0.2.2.2.2.2.2.1.2.1 small_0.2.2.2.2.2.2.1.2.2)]),(.int .u8 n_1),(.slice x_2_p x_2_n x_2_c),(.slice y_3_p y_3_n y_3_c)] =Cf small_0 n_1 x_2_p x_2_n x_2_c y_3_p y_3_n y_3_c:=by kernel_rfl
noncomputable def Cg (small_0:Int×Int×(Option Addr×Nat×Nat)×(Option Addr×Nat×Nat)×(Option Addr×Nat×Nat)×(Option Addr×Nat×Nat)×(Option Addr×Nat×Nat)×Unit):T:=
 T.new (.cells #[(.int .u8 small_0.1),(.int .u8 small_0.2.1),(.slice small_0.2.2.1.1 small_0.2.2.1.2.1 small_0.2.2.1.2.2),(.slice small_0.2.2.2.1.1 small_0.2.2.2.1.2.1 small_0.2.2.2.1.2.2),(.slice small_0.2.2.2.2.1.1 small_0.2.2.2.2.1.2.1 small_0.2.2.2.2.1.2.2),(.slice small_0.2.2.2.2.2.1.1 small_0.2.2.2.2.2.1.2.1 small_0.2.2.2.2.2.1.2.2),(.slice small_0.2.2.2.2.2.2.1.1 small_0.2.2.2.2.2.2.1.2.1 small_0.2.2.2.2.2.2.1.2.2)] 25 (0,0)) fun r1=>
 T.call 8 [] (.one (.atom .bool)) fun (t2:Bool)=>
 T.load (.int .u8) ⟨r1,0,none⟩ fun (t3:Int)=>
 T.load (.int .u8) ⟨r1,1,none⟩ fun (t4:Int)=>
 T.load .slice ⟨r1,2,none⟩ fun (t5:Option Addr×Nat×Nat)=>
 T.load .slice ⟨r1,3,none⟩ fun (t6:Option Addr×Nat×Nat)=>
 T.load .slice ⟨r1,4,none⟩ fun (t7:Option Addr×Nat×Nat)=>
 T.load .slice ⟨r1,5,none⟩ fun (t8:Option Addr×Nat×Nat)=>
 T.load .slice ⟨r1,6,none⟩ fun (t9:Option Addr×Nat×Nat)=>
 T.call 9 [(.agg #[(.int .u8 t3),(.int .u8 t4),(.slice t5.1 t5.2.1 t5.2.2),(.slice t6.1 t6.2.1 t6.2.2),(.slice t7.1 t7.2.1 t7.2.2),(.slice t8.1 t8.2.1 t8.2.2),(.slice t9.1 t9.2.1 t9.2.2)]),(.int .i64 (12:Int)),(.int .i64 (5:Int))] (.one (.atom .bool)) fun (t10:Bool)=>
 cond (!t10)
 (T.ret (.bool t2))
 (T.load (.int .u8) ⟨r1,0,none⟩ fun (t11:Int)=>
 T.load (.int .u8) ⟨r1,1,none⟩ fun (t12:Int)=>
 T.load .slice ⟨r1,2,none⟩ fun (t13:Option Addr×Nat×Nat)=>
 T.load .slice ⟨r1,3,none⟩ fun (t14:Option Addr×Nat×Nat)=>
 T.load .slice ⟨r1,4,none⟩ fun (t15:Option Addr×Nat×Nat)=>
 T.load .slice ⟨r1,5,none⟩ fun (t16:Option Addr×Nat×Nat)=>
 T.load .slice ⟨r1,6,none⟩ fun (t17:Option Addr×Nat×Nat)=>
 T.call 10 [(.agg #[(.int .u8 t11),(.int .u8 t12),(.slice t13.1 t13.2.1 t13.2.2),(.slice t14.1 t14.2.1 t14.2.2),(.slice t15.1 t15.2.1 t15.2.2),(.slice t16.1 t16.2.1 t16.2.2),(.slice t17.1 t17.2.1 t17.2.2)])] (.one (.agg [.slice, .slice, .slice, .slice, .slice, .slice])) fun (t18:(Option Addr×Nat×Nat)×(Option Addr×Nat×Nat)×(Option Addr×Nat×Nat)×(Option Addr×Nat×Nat)×(Option Addr×Nat×Nat)×(Option Addr×Nat×Nat)×Unit)=>
 T.new (.cells #[(.slice none 0 0),(.slice none 0 0),(.slice none 0 0),(.slice none 0 0),(.slice none 0 0),(.slice none 0 0)] 32 (0,0)) fun r19=>
 T.store ⟨r19,0,none⟩ (.slice t18.1.1 t18.1.2.1 t18.1.2.2) <|
 T.store ⟨r19,1,none⟩ (.slice t18.2.1.1 t18.2.1.2.1 t18.2.1.2.2) <|
 T.store ⟨r19,2,none⟩ (.slice t18.2.2.1.1 t18.2.2.1.2.1 t18.2.2.1.2.2) <|
 T.store ⟨r19,3,none⟩ (.slice t18.2.2.2.1.1 t18.2.2.2.1.2.1 t18.2.2.2.1.2.2) <|
 T.store ⟨r19,4,none⟩ (.slice t18.2.2.2.2.1.1 t18.2.2.2.2.1.2.1 t18.2.2.2.2.1.2.2) <|
 T.store ⟨r19,5,none⟩ (.slice t18.2.2.2.2.2.1.1 t18.2.2.2.2.2.1.2.1 t18.2.2.2.2.2.1.2.2) <|
 T.load .slice ⟨r19,0,none⟩ fun (t20:Option Addr×Nat×Nat)=>
 T.load .slice ⟨r19,1,none⟩ fun (t21:Option Addr×Nat×Nat)=>
 T.load .slice ⟨r19,2,none⟩ fun (t22:Option Addr×Nat×Nat)=>
 T.load .slice ⟨r19,3,none⟩ fun (t23:Option Addr×Nat×Nat)=>
 T.load .slice ⟨r19,4,none⟩ fun (t24:Option Addr×Nat×Nat)=>
 T.load .slice ⟨r19,5,none⟩ fun (t25:Option Addr×Nat×Nat)=>
 T.call 11 [(.agg #[(.slice t20.1 t20.2.1 t20.2.2),(.slice t21.1 t21.2.1 t21.2.2),(.slice t22.1 t22.2.1 t22.2.2),(.slice t23.1 t23.2.1 t23.2.2),(.slice t24.1 t24.2.1 t24.2.2),(.slice t25.1 t25.2.1 t25.2.2)]),(.int .i64 (2000:Int)),(.int .i64 (40000:Int))] (.tuple [(.atom .pointer),(.atom (.int .i64))]) fun (t26:(Option Addr)×Int×Unit)=>
 cond (Option.isNone t26.1)
 (T.join [(.atom .bool)]
 (cond t2
 (T.out [(.bool (t26.2.1==(5:Int)))])
 (T.out [(.bool false)])) fun (z27:Bool×Unit)=>
 T.ret (.bool z27.1))
 (T.block 0 [(.atom (.int .i64)),(.atom .bool)]
 (T.loop [(.atom (.int .i64)),(.atom .bool)] [(.int .i64 (0:Int)),(.bool false)] fun (z29:Int×Bool×Unit)=>
 T.call 12 [(.pointer t26.1)] (.one (.atom (.int .i64))) fun (t30:Int)=>
 cond (decide (z29.1<t30))
 (T.call 14 [(.pointer t26.1),(.int .i64 z29.1)] (.one (.atom .slice)) fun (t31:Option Addr×Nat×Nat)=>
 T.block 2 [(.atom (.int .i64)),(.atom .bool)]
 (T.loop [(.atom (.int .i64)),(.atom .bool)] [(.int .i64 (0:Int)),(.bool z29.2.1)] fun (z33:Int×Bool×Unit)=>
 cond (decide (z33.1< ((t31.2.1:Nat):Int)))
 (T.join [(.atom .bool)]
 (AP t31.1 fun a35=>
 chk (0≤z33.1∧z33.1< (t31.2.1:Nat)) <|
 T.load (.int .i64) (a35.add (Int.toNat z33.1 * 2)) fun (t36:Int)=>
 cond (decide (t36< (0:Int)))
 (T.out [(.bool true)])
 (AP t31.1 fun a37=>
 chk (0≤z33.1∧z33.1< (t31.2.1:Nat)) <|
 T.load (.int .i64) (a37.add (Int.toNat z33.1 * 2)) fun (t38:Int)=>
 T.load .slice ⟨r19,2,none⟩ fun (t39:Option Addr×Nat×Nat)=>
 cond (decide (t38≥ ((t39.2.1:Nat):Int)))
 (T.out [(.bool true)])
 (AP t31.1 fun a40=>
 chk (0≤z33.1∧z33.1< (t31.2.1:Nat)) <|
 T.load (.int .i64) ((a40.add (Int.toNat z33.1 * 2)).add 1) fun (t41:Int)=>
 cond (decide (t41< (0:Int)))
 (T.out [(.bool true)])
 (AP t31.1 fun a42=>
 chk (0≤z33.1∧z33.1< (t31.2.1:Nat)) <|
 T.load (.int .i64) ((a42.add (Int.toNat z33.1 * 2)).add 1) fun (t43:Int)=>
 T.load .slice ⟨r19,2,none⟩ fun (t44:Option Addr×Nat×Nat)=>
 AP t31.1 fun a45=>
 chk (0≤z33.1∧z33.1< (t31.2.1:Nat)) <|
 T.load (.int .i64) (a45.add (Int.toNat z33.1 * 2)) fun (t46:Int)=>
 AP t44.1 fun a47=>
 chk (0≤t46∧t46< (t44.2.1:Nat)) <|
 T.load .slice ((a47.add (Int.toNat t46 * 3)).add 1) fun (t48:Option Addr×Nat×Nat)=>
 T.out [(.bool (decide (t43>((t48.2.1:Nat):Int))))])))) fun (z34:Bool×Unit)=>
 cond z34.1
 (T.ret (.bool false))
 (T.load .slice ⟨r19,2,none⟩ fun (t49:Option Addr×Nat×Nat)=>
 AP t31.1 fun a50=>
 chk (0≤z33.1∧z33.1< (t31.2.1:Nat)) <|
 T.load (.int .i64) (a50.add (Int.toNat z33.1 * 2)) fun (t51:Int)=>
 AP t49.1 fun a52=>
 chk (0≤t51∧t51< (t49.2.1:Nat)) <|
 T.load .slice ((a52.add (Int.toNat t51 * 3)).add 1) fun (t53:Option Addr×Nat×Nat)=>
 AP t31.1 fun a54=>
 chk (0≤z33.1∧z33.1< (t31.2.1:Nat)) <|
 T.load (.int .i64) ((a54.add (Int.toNat z33.1 * 2)).add 1) fun (t55:Int)=>
 chk (0≤t55∧t55≤((t53.2.1:Nat):Int)∧((t53.2.1:Nat):Int) ≤(t53.2.2:Nat)) <|
 T.call 19 [(.pointer t26.1),(.int .i64 z29.1),(.slice (if t53.2.2=Int.toNat t55 then t53.1 else Option.map (fun x=>Addr.add x (Int.toNat t55 * 1)) t53.1) (Int.toNat ((t53.2.1:Nat):Int) - Int.toNat t55) (t53.2.2 - Int.toNat t55))] (.one (.atom (.int .i64))) fun (t56:Int)=>
 T.join [(.atom .bool)]
 (cond (decide (t56< (0:Int)))
 (T.out [(.bool true)])
 (AP t31.1 fun a58=>
 chk (0≤z33.1∧z33.1< (t31.2.1:Nat)) <|
 T.load (.int .i64) (a58.add (Int.toNat z33.1 * 2)) fun (t59:Int)=>
 AP t31.1 fun a60=>
 chk (0≤z33.1∧z33.1< (t31.2.1:Nat)) <|
 T.load (.int .i64) ((a60.add (Int.toNat z33.1 * 2)).add 1) fun (t61:Int)=>
 T.call 14 [(.pointer t26.1),(.int .i64 t56)] (.one (.atom .slice)) fun (t62:Option Addr×Nat×Nat)=>
 T.still ((a60.add (Int.toNat z33.1 * 2)).add 1) (.int .i64 t61) <|
 T.still (a58.add (Int.toNat z33.1 * 2)) (.int .i64 t59) <|
 T.call 18 [(.slice t62.1 t62.2.1 t62.2.2),(.agg #[(.int .i64 t59),(.int .i64 (IntKind.wrap .i64 (t61+(((Int.toNat ((t53.2.1:Nat):Int) - Int.toNat t55):Nat):Int))))])] (.one (.atom .bool)) fun (t63:Bool)=>
 T.out [(.bool (!t63))])) fun (z57:Bool×Unit)=>
 cond z57.1
 (T.ret (.bool false))
 (T.out [(.int .i64 (IntKind.wrap .i64 (z33.1+(1:Int)))),(.bool z33.2.1)])))
 (T.brk 2 [(.int .i64 z33.1),(.bool z33.2.1)])) fun (z32:Int×Bool×Unit)=>
 T.out [(.int .i64 (IntKind.wrap .i64 (z29.1+(1:Int)))),(.bool z32.2.1)])
 (T.brk 0 [(.int .i64 z29.1),(.bool z29.2.1)])) fun (z28:Int×Bool×Unit)=>
 T.join [(.atom .bool)]
 (cond t2
 (T.call 12 [(.pointer t26.1)] (.one (.atom (.int .i64))) fun (t65:Int)=>
 T.out [(.bool (decide (t65>(0:Int))))])
 (T.out [(.bool false)])) fun (z64:Bool×Unit)=>
 T.ret (.bool z64.1)))
theorem D7 (small_0:Int×Int×(Option Addr×Nat×Nat)×(Option Addr×Nat×Nat)×(Option Addr×Nat×Nat)×(Option Addr×Nat×Nat)×(Option Addr×Nat×Nat)×Unit):Am Tryd.prog Tryd.f6 [(.agg #[(.int .u8 small_0.1),(.int .u8 small_0.2.1),(.slice small_0.2.2.1.1 small_0.2.2.1.2.1 small_0.2.2.1.2.2),(.slice small_0.2.2.2.1.1 small_0.2.2.2.1.2.1 small_0.2.2.2.1.2.2),(.slice small_0.2.2.2.2.1.1 small_0.2.2.2.2.1.2.1 small_0.2.2.2.2.1.2.2),(.slice small_0.2.2.2.2.2.1.1 small_0.2.2.2.2.2.1.2.1 small_0.2.2.2.2.2.1.2.2),(.slice small_0.2.2.2.2.2.2.1.1 small_0.2.2.2.2.2.2.1.2.1 small_0.2.2.2.2.2.2.1.2.2)])] =Cg small_0:=by kernel_rfl
noncomputable def Ch (small_0:Int×Int×(Option Addr×Nat×Nat)×(Option Addr×Nat×Nat)×(Option Addr×Nat×Nat)×(Option Addr×Nat×Nat)×(Option Addr×Nat×Nat)×Unit):T:=
 T.new (.cells #[(.int .u8 small_0.1),(.int .u8 small_0.2.1),(.slice small_0.2.2.1.1 small_0.2.2.1.2.1 small_0.2.2.1.2.2),(.slice small_0.2.2.2.1.1 small_0.2.2.2.1.2.1 small_0.2.2.2.1.2.2),(.slice small_0.2.2.2.2.1.1 small_0.2.2.2.2.1.2.1 small_0.2.2.2.2.1.2.2),(.slice small_0.2.2.2.2.2.1.1 small_0.2.2.2.2.2.1.2.1 small_0.2.2.2.2.2.1.2.2),(.slice small_0.2.2.2.2.2.2.1.1 small_0.2.2.2.2.2.2.1.2.1 small_0.2.2.2.2.2.2.1.2.2)] 25 (0,0)) fun r1=>
 T.call 8 [] (.one (.atom .bool)) fun (t2:Bool)=>
 T.load (.int .u8) ⟨r1,0,none⟩ fun (t3:Int)=>
 T.load (.int .u8) ⟨r1,1,none⟩ fun (t4:Int)=>
 T.load .slice ⟨r1,2,none⟩ fun (t5:Option Addr×Nat×Nat)=>
 T.load .slice ⟨r1,3,none⟩ fun (t6:Option Addr×Nat×Nat)=>
 T.load .slice ⟨r1,4,none⟩ fun (t7:Option Addr×Nat×Nat)=>
 T.load .slice ⟨r1,5,none⟩ fun (t8:Option Addr×Nat×Nat)=>
 T.load .slice ⟨r1,6,none⟩ fun (t9:Option Addr×Nat×Nat)=>
 T.call 9 [(.agg #[(.int .u8 t3),(.int .u8 t4),(.slice t5.1 t5.2.1 t5.2.2),(.slice t6.1 t6.2.1 t6.2.2),(.slice t7.1 t7.2.1 t7.2.2),(.slice t8.1 t8.2.1 t8.2.2),(.slice t9.1 t9.2.1 t9.2.2)]),(.int .i64 (12:Int)),(.int .i64 (5:Int))] (.one (.atom .bool)) fun (t10:Bool)=>
 cond (!t10)
 (T.ret (.bool t2))
 (T.load (.int .u8) ⟨r1,0,none⟩ fun (t11:Int)=>
 T.load (.int .u8) ⟨r1,1,none⟩ fun (t12:Int)=>
 T.load .slice ⟨r1,2,none⟩ fun (t13:Option Addr×Nat×Nat)=>
 T.load .slice ⟨r1,3,none⟩ fun (t14:Option Addr×Nat×Nat)=>
 T.load .slice ⟨r1,4,none⟩ fun (t15:Option Addr×Nat×Nat)=>
 T.load .slice ⟨r1,5,none⟩ fun (t16:Option Addr×Nat×Nat)=>
 T.load .slice ⟨r1,6,none⟩ fun (t17:Option Addr×Nat×Nat)=>
 T.call 10 [(.agg #[(.int .u8 t11),(.int .u8 t12),(.slice t13.1 t13.2.1 t13.2.2),(.slice t14.1 t14.2.1 t14.2.2),(.slice t15.1 t15.2.1 t15.2.2),(.slice t16.1 t16.2.1 t16.2.2),(.slice t17.1 t17.2.1 t17.2.2)])] (.one (.agg [.slice, .slice, .slice, .slice, .slice, .slice])) fun (t18:(Option Addr×Nat×Nat)×(Option Addr×Nat×Nat)×(Option Addr×Nat×Nat)×(Option Addr×Nat×Nat)×(Option Addr×Nat×Nat)×(Option Addr×Nat×Nat)×Unit)=>
 T.new (.cells #[(.slice none 0 0),(.slice none 0 0),(.slice none 0 0),(.slice none 0 0),(.slice none 0 0),(.slice none 0 0)] 32 (0,0)) fun r19=>
 T.store ⟨r19,0,none⟩ (.slice t18.1.1 t18.1.2.1 t18.1.2.2) <|
 T.store ⟨r19,1,none⟩ (.slice t18.2.1.1 t18.2.1.2.1 t18.2.1.2.2) <|
 T.store ⟨r19,2,none⟩ (.slice t18.2.2.1.1 t18.2.2.1.2.1 t18.2.2.1.2.2) <|
 T.store ⟨r19,3,none⟩ (.slice t18.2.2.2.1.1 t18.2.2.2.1.2.1 t18.2.2.2.1.2.2) <|
 T.store ⟨r19,4,none⟩ (.slice t18.2.2.2.2.1.1 t18.2.2.2.2.1.2.1 t18.2.2.2.2.1.2.2) <|
 T.store ⟨r19,5,none⟩ (.slice t18.2.2.2.2.2.1.1 t18.2.2.2.2.2.1.2.1 t18.2.2.2.2.2.1.2.2) <|
 T.load .slice ⟨r19,0,none⟩ fun (t20:Option Addr×Nat×Nat)=>
 T.load .slice ⟨r19,1,none⟩ fun (t21:Option Addr×Nat×Nat)=>
 T.load .slice ⟨r19,2,none⟩ fun (t22:Option Addr×Nat×Nat)=>
 T.load .slice ⟨r19,3,none⟩ fun (t23:Option Addr×Nat×Nat)=>
 T.load .slice ⟨r19,4,none⟩ fun (t24:Option Addr×Nat×Nat)=>
 T.load .slice ⟨r19,5,none⟩ fun (t25:Option Addr×Nat×Nat)=>
 T.call 11 [(.agg #[(.slice t20.1 t20.2.1 t20.2.2),(.slice t21.1 t21.2.1 t21.2.2),(.slice t22.1 t22.2.1 t22.2.2),(.slice t23.1 t23.2.1 t23.2.2),(.slice t24.1 t24.2.1 t24.2.2),(.slice t25.1 t25.2.1 t25.2.2)]),(.int .i64 (2000:Int)),(.int .i64 (40000:Int))] (.tuple [(.atom .pointer),(.atom (.int .i64))]) fun (t26:(Option Addr)×Int×Unit)=>
 cond (Option.isNone t26.1)
 (T.join [(.atom .bool)]
 (cond t2
 (T.out [(.bool (t26.2.1==(5:Int)))])
 (T.out [(.bool false)])) fun (z27:Bool×Unit)=>
 T.ret (.bool z27.1))
 (T.call 12 [(.pointer t26.1)] (.one (.atom (.int .i64))) fun (t28:Int)=>
 T.sem (Instr.makeSlice 30 (.int .i64 t28) (.int .i64 t28)) (.one (.atom .slice)) fun (t29:Option Addr×Nat×Nat)=>
 T.block 0 [(.atom (.int .i64)),(.atom .bool)]
 (T.loop [(.atom (.int .i64)),(.atom .bool)] [(.int .i64 (0:Int)),(.bool false)] fun (z31:Int×Bool×Unit)=>
 cond (decide (z31.1<t28))
 (T.call 15 [(.pointer t26.1),(.int .i64 z31.1)] (.one (.atom .slice)) fun (t32:Option Addr×Nat×Nat)=>
 T.block 2 [(.atom (.int .i64)),(.atom .bool)]
 (T.loop [(.atom (.int .i64)),(.atom .bool)] [(.int .i64 (0:Int)),(.bool z31.2.1)] fun (z34:Int×Bool×Unit)=>
 cond (decide (z34.1<z31.1))
 (T.call 15 [(.pointer t26.1),(.int .i64 z34.1)] (.one (.atom .slice)) fun (t35:Option Addr×Nat×Nat)=>
 T.call 20 [(.slice t35.1 t35.2.1 t35.2.2),(.slice t32.1 t32.2.1 t32.2.2)] (.one (.atom .bool)) fun (t36:Bool)=>
 cond t36
 (T.ret (.bool false))
 (T.out [(.int .i64 (IntKind.wrap .i64 (z34.1+(1:Int)))),(.bool z34.2.1)]))
 (T.brk 2 [(.int .i64 z34.1),(.bool z34.2.1)])) fun (z33:Int×Bool×Unit)=>
 T.join [(.atom .bool)]
 (cond (((t32.2.1:Nat):Int)==(0:Int))
 (T.out [(.bool true)])
 (T.call 21 [(.pointer t26.1),(.int .i64 z31.1)] (.one (.atom .slice)) fun (t38:Option Addr×Nat×Nat)=>
 T.call 19 [(.pointer t26.1),(.int .i64 (0:Int)),(.slice t38.1 t38.2.1 t38.2.2)] (.one (.atom (.int .i64))) fun (t39:Int)=>
 T.out [(.bool (t39 !=z31.1))])) fun (z37:Bool×Unit)=>
 cond z37.1
 (T.ret (.bool false))
 (T.call 22 [(.pointer t26.1),(.int .i64 z31.1)] (.one (.atom .slice)) fun (t40:Option Addr×Nat×Nat)=>
 T.block 4 [(.atom (.int .i64)),(.atom .bool)]
 (T.loop [(.atom (.int .i64)),(.atom .bool)] [(.int .i64 (0:Int)),(.bool z33.2.1)] fun (z42:Int×Bool×Unit)=>
 cond (decide (z42.1< ((t40.2.1:Nat):Int)))
 (T.join [(.atom .bool)]
 (AP t40.1 fun a44=>
 chk (0≤z42.1∧z42.1< (t40.2.1:Nat)) <|
 T.load (.int .i64) ((a44.add (Int.toNat z42.1 * 2)).add 1) fun (t45:Int)=>
 cond (decide (t45≤(0:Int)))
 (T.out [(.bool true)])
 (AP t40.1 fun a46=>
 chk (0≤z42.1∧z42.1< (t40.2.1:Nat)) <|
 T.load (.int .i64) ((a46.add (Int.toNat z42.1 * 2)).add 1) fun (t47:Int)=>
 cond (decide (t47≥t28))
 (T.out [(.bool true)])
 (cond (decide (z42.1>(0:Int)))
 (AP t40.1 fun a48=>
 chk (0≤(IntKind.wrap .i64 (z42.1 - (1:Int)))∧(IntKind.wrap .i64 (z42.1 - (1:Int))) < (t40.2.1:Nat)) <|
 T.load (.int .i64) (a48.add (Int.toNat (IntKind.wrap .i64 (z42.1 - (1:Int))) * 2)) fun (t49:Int)=>
 AP t40.1 fun a50=>
 chk (0≤z42.1∧z42.1< (t40.2.1:Nat)) <|
 T.load (.int .i64) (a50.add (Int.toNat z42.1 * 2)) fun (t51:Int)=>
 cond (decide (t49≥t51))
 (T.out [(.bool true)])
 (AP t40.1 fun a52=>
 chk (0≤z42.1∧z42.1< (t40.2.1:Nat)) <|
 T.load (.int .i64) (a52.add (Int.toNat z42.1 * 2)) fun (t53:Int)=>
 AP t40.1 fun a54=>
 chk (0≤z42.1∧z42.1< (t40.2.1:Nat)) <|
 T.load (.int .i64) ((a54.add (Int.toNat z42.1 * 2)).add 1) fun (t55:Int)=>
 T.call 23 [(.pointer t26.1),(.int .i64 z31.1),(.int .i64 t53)] (.one (.atom (.int .i64))) fun (t56:Int)=>
 T.still ((a54.add (Int.toNat z42.1 * 2)).add 1) (.int .i64 t55) <|
 T.out [(.bool (t56 !=t55))]))
 (AP t40.1 fun a57=>
 chk (0≤z42.1∧z42.1< (t40.2.1:Nat)) <|
 T.load (.int .i64) (a57.add (Int.toNat z42.1 * 2)) fun (t58:Int)=>
 AP t40.1 fun a59=>
 chk (0≤z42.1∧z42.1< (t40.2.1:Nat)) <|
 T.load (.int .i64) ((a59.add (Int.toNat z42.1 * 2)).add 1) fun (t60:Int)=>
 T.call 23 [(.pointer t26.1),(.int .i64 z31.1),(.int .i64 t58)] (.one (.atom (.int .i64))) fun (t61:Int)=>
 T.still ((a59.add (Int.toNat z42.1 * 2)).add 1) (.int .i64 t60) <|
 T.out [(.bool (t61 !=t60))])))) fun (z43:Bool×Unit)=>
 cond z43.1
 (T.ret (.bool false))
 (T.join [(.atom .bool)]
 (AP t40.1 fun a63=>
 chk (0≤z42.1∧z42.1< (t40.2.1:Nat)) <|
 T.load (.int .i64) ((a63.add (Int.toNat z42.1 * 2)).add 1) fun (t64:Int)=>
 AP t29.1 fun a65=>
 chk (0≤t64∧t64< (t29.2.1:Nat)) <|
 T.load (.int .i64) (a65.add (Int.toNat t64 * 1)) fun (t66:Int)=>
 cond (t66 !=(0:Int))
 (AP t40.1 fun a67=>
 chk (0≤z42.1∧z42.1< (t40.2.1:Nat)) <|
 T.load (.int .i64) ((a67.add (Int.toNat z42.1 * 2)).add 1) fun (t68:Int)=>
 AP t29.1 fun a69=>
 chk (0≤t68∧t68< (t29.2.1:Nat)) <|
 T.load (.int .i64) (a69.add (Int.toNat t68 * 1)) fun (t70:Int)=>
 AP t40.1 fun a71=>
 chk (0≤z42.1∧z42.1< (t40.2.1:Nat)) <|
 T.load (.int .i64) (a71.add (Int.toNat z42.1 * 2)) fun (t72:Int)=>
 T.out [(.bool (t70 !=t72))])
 (T.out [(.bool false)])) fun (z62:Bool×Unit)=>
 cond z62.1
 (T.ret (.bool false))
 (AP t40.1 fun a73=>
 chk (0≤z42.1∧z42.1< (t40.2.1:Nat)) <|
 T.load (.int .i64) ((a73.add (Int.toNat z42.1 * 2)).add 1) fun (t74:Int)=>
 AP t40.1 fun a75=>
 chk (0≤z42.1∧z42.1< (t40.2.1:Nat)) <|
 T.load (.int .i64) (a75.add (Int.toNat z42.1 * 2)) fun (t76:Int)=>
 AP t29.1 fun a77=>
 chk (0≤t74∧t74< (t29.2.1:Nat)) <|
 T.store (a77.add (Int.toNat t74 * 1)) (.int .i64 t76) <|
 T.out [(.int .i64 (IntKind.wrap .i64 (z42.1+(1:Int)))),(.bool z42.2.1)])))
 (T.brk 4 [(.int .i64 z42.1),(.bool z42.2.1)])) fun (z41:Int×Bool×Unit)=>
 T.out [(.int .i64 (IntKind.wrap .i64 (z31.1+(1:Int)))),(.bool z41.2.1)]))
 (T.brk 0 [(.int .i64 z31.1),(.bool z31.2.1)])) fun (z30:Int×Bool×Unit)=>
 T.join [(.atom .bool)]
 (cond t2
 (T.out [(.bool (decide (t28>(0:Int))))])
 (T.out [(.bool false)])) fun (z78:Bool×Unit)=>
 T.ret (.bool z78.1)))
theorem D8 (small_0:Int×Int×(Option Addr×Nat×Nat)×(Option Addr×Nat×Nat)×(Option Addr×Nat×Nat)×(Option Addr×Nat×Nat)×(Option Addr×Nat×Nat)×Unit):Am Tryd.prog Tryd.f7 [(.agg #[(.int .u8 small_0.1),(.int .u8 small_0.2.1),(.slice small_0.2.2.1.1 small_0.2.2.1.2.1 small_0.2.2.1.2.2),(.slice small_0.2.2.2.1.1 small_0.2.2.2.1.2.1 small_0.2.2.2.1.2.2),(.slice small_0.2.2.2.2.1.1 small_0.2.2.2.2.1.2.1 small_0.2.2.2.2.1.2.2),(.slice small_0.2.2.2.2.2.1.1 small_0.2.2.2.2.2.1.2.1 small_0.2.2.2.2.2.1.2.2),(.slice small_0.2.2.2.2.2.2.1.1 small_0.2.2.2.2.2.2.1.2.1 small_0.2.2.2.2.2.2.1.2.2)])] =Ch small_0:=by kernel_rfl
noncomputable def Dq:T:=
 T.new (.cells #[(.int .u8 (0:Int)),(.int .u8 (0:Int))] 5 (0,0)) fun r1=>
 T.new (.cells #[(.int .u8 (0:Int)),(.int .u8 (2:Int))] 5 (0,0)) fun r2=>
 T.new (.cells #[(.int .u8 (1:Int))] 5 (0,0)) fun r3=>
 T.new (.cells #[(.slice (some ⟨r2,0,none⟩) 2 2),(.slice (some ⟨r3,0,none⟩) 1 1)] 22 (0,0)) fun r4=>
 T.call 10 [(.agg #[(.int .u8 (1:Int)),(.int .u8 (0:Int)),(.slice (some ⟨r1,0,none⟩) 2 2),(.slice (some ⟨r4,0,none⟩) 2 2),(.slice none 0 0),(.slice none 0 0),(.slice none 0 0)])] (.one (.agg [.slice, .slice, .slice, .slice, .slice, .slice])) fun (t5:(Option Addr×Nat×Nat)×(Option Addr×Nat×Nat)×(Option Addr×Nat×Nat)×(Option Addr×Nat×Nat)×(Option Addr×Nat×Nat)×(Option Addr×Nat×Nat)×Unit)=>
 T.new (.cells #[(.slice none 0 0),(.slice none 0 0),(.slice none 0 0),(.slice none 0 0),(.slice none 0 0),(.slice none 0 0)] 32 (0,0)) fun r6=>
 T.store ⟨r6,0,none⟩ (.slice t5.1.1 t5.1.2.1 t5.1.2.2) <|
 T.store ⟨r6,1,none⟩ (.slice t5.2.1.1 t5.2.1.2.1 t5.2.1.2.2) <|
 T.store ⟨r6,2,none⟩ (.slice t5.2.2.1.1 t5.2.2.1.2.1 t5.2.2.1.2.2) <|
 T.store ⟨r6,3,none⟩ (.slice t5.2.2.2.1.1 t5.2.2.2.1.2.1 t5.2.2.2.1.2.2) <|
 T.store ⟨r6,4,none⟩ (.slice t5.2.2.2.2.1.1 t5.2.2.2.2.1.2.1 t5.2.2.2.2.1.2.2) <|
 T.store ⟨r6,5,none⟩ (.slice t5.2.2.2.2.2.1.1 t5.2.2.2.2.2.1.2.1 t5.2.2.2.2.2.1.2.2) <|
 T.load .slice ⟨r6,0,none⟩ fun (t7:Option Addr×Nat×Nat)=>
 T.load .slice ⟨r6,1,none⟩ fun (t8:Option Addr×Nat×Nat)=>
 T.load .slice ⟨r6,2,none⟩ fun (t9:Option Addr×Nat×Nat)=>
 T.load .slice ⟨r6,3,none⟩ fun (t10:Option Addr×Nat×Nat)=>
 T.load .slice ⟨r6,4,none⟩ fun (t11:Option Addr×Nat×Nat)=>
 T.load .slice ⟨r6,5,none⟩ fun (t12:Option Addr×Nat×Nat)=>
 T.call 11 [(.agg #[(.slice t7.1 t7.2.1 t7.2.2),(.slice t8.1 t8.2.1 t8.2.2),(.slice t9.1 t9.2.1 t9.2.2),(.slice t10.1 t10.2.1 t10.2.2),(.slice t11.1 t11.2.1 t11.2.2),(.slice t12.1 t12.2.1 t12.2.2)]),(.int .i64 (5:Int)),(.int .i64 (100:Int))] (.tuple [(.atom .pointer),(.atom (.int .i64))]) fun (t13:(Option Addr)×Int×Unit)=>
 T.load .slice ⟨r6,0,none⟩ fun (t14:Option Addr×Nat×Nat)=>
 T.load .slice ⟨r6,1,none⟩ fun (t15:Option Addr×Nat×Nat)=>
 T.load .slice ⟨r6,2,none⟩ fun (t16:Option Addr×Nat×Nat)=>
 T.load .slice ⟨r6,3,none⟩ fun (t17:Option Addr×Nat×Nat)=>
 T.load .slice ⟨r6,4,none⟩ fun (t18:Option Addr×Nat×Nat)=>
 T.load .slice ⟨r6,5,none⟩ fun (t19:Option Addr×Nat×Nat)=>
 T.call 11 [(.agg #[(.slice t14.1 t14.2.1 t14.2.2),(.slice t15.1 t15.2.1 t15.2.2),(.slice t16.1 t16.2.1 t16.2.2),(.slice t17.1 t17.2.1 t17.2.2),(.slice t18.1 t18.2.1 t18.2.2),(.slice t19.1 t19.2.1 t19.2.2)]),(.int .i64 (4:Int)),(.int .i64 (100:Int))] (.tuple [(.atom .pointer),(.atom (.int .i64))]) fun (t20:(Option Addr)×Int×Unit)=>
 cond (Option.isNone t13.1)
 (T.ret (.bool false))
 (T.join [(.atom .bool)]
 (cond (t13.2.1==(0:Int))
 (T.call 12 [(.pointer t13.1)] (.one (.atom (.int .i64))) fun (t22:Int)=>
 cond (t22==(5:Int))
 (T.call 15 [(.pointer t13.1),(.int .i64 (4:Int))] (.one (.atom .slice)) fun (t23:Option Addr×Nat×Nat)=>
 T.new (.cells #[(.int .i64 (1:Int)),(.int .i64 (2:Int))] 44 (0,0)) fun r24=>
 T.call 20 [(.slice t23.1 t23.2.1 t23.2.2),(.slice (some ⟨r24,0,none⟩) 1 1)] (.one (.atom .bool)) fun (t25:Bool)=>
 cond t25
 (T.call 23 [(.pointer t13.1),(.int .i64 (1:Int)),(.int .i64 (3:Int))] (.one (.atom (.int .i64))) fun (t26:Int)=>
 cond (t26==(4:Int))
 (T.call 23 [(.pointer t13.1),(.int .i64 (2:Int)),(.int .i64 (3:Int))] (.one (.atom (.int .i64))) fun (t27:Int)=>
 cond (t27==(-1:Int))
 (cond (Option.isNone t20.1)
 (T.out [(.bool (t20.2.1==(5:Int)))])
 (T.out [(.bool false)]))
 (T.out [(.bool false)]))
 (T.out [(.bool false)]))
 (T.out [(.bool false)]))
 (T.out [(.bool false)]))
 (T.out [(.bool false)])) fun (z21:Bool×Unit)=>
 T.ret (.bool z21.1))
theorem FQ:Am Tryd.prog Tryd.f8 [] =Dq:=by kernel_rfl
noncomputable def C1 (s_0:Int×Int×(Option Addr×Nat×Nat)×(Option Addr×Nat×Nat)×(Option Addr×Nat×Nat)×(Option Addr×Nat×Nat)×(Option Addr×Nat×Nat)×Unit) (rules_1:Int) (right_2:Int):T:=
 T.new (.cells #[(.int .u8 s_0.1),(.int .u8 s_0.2.1),(.slice s_0.2.2.1.1 s_0.2.2.1.2.1 s_0.2.2.1.2.2),(.slice s_0.2.2.2.1.1 s_0.2.2.2.1.2.1 s_0.2.2.2.1.2.2),(.slice s_0.2.2.2.2.1.1 s_0.2.2.2.2.1.2.1 s_0.2.2.2.2.1.2.2),(.slice s_0.2.2.2.2.2.1.1 s_0.2.2.2.2.2.1.2.1 s_0.2.2.2.2.2.1.2.2),(.slice s_0.2.2.2.2.2.2.1.1 s_0.2.2.2.2.2.2.1.2.1 s_0.2.2.2.2.2.2.1.2.2)] 25 (0,0)) fun r1=>
 T.join [(.atom .bool)]
 (T.load .slice ⟨r1,2,none⟩ fun (t3:Option Addr×Nat×Nat)=>
 cond (decide (((t3.2.1:Nat):Int) >rules_1))
 (T.out [(.bool true)])
 (T.load .slice ⟨r1,5,none⟩ fun (t4:Option Addr×Nat×Nat)=>
 T.out [(.bool (decide (((t4.2.1:Nat):Int) >(5:Int))))])) fun (z2:Bool×Unit)=>
 cond z2.1
 (T.ret (.bool false))
 (T.block 0 [(.atom (.int .i64)),(.atom .bool)]
 (T.loop [(.atom (.int .i64)),(.atom .bool)] [(.int .i64 (0:Int)),(.bool false)] fun (z6:Int×Bool×Unit)=>
 T.load .slice ⟨r1,3,none⟩ fun (t7:Option Addr×Nat×Nat)=>
 cond (decide (z6.1< ((t7.2.1:Nat):Int)))
 (T.load .slice ⟨r1,3,none⟩ fun (t8:Option Addr×Nat×Nat)=>
 AP t8.1 fun a9=>
 chk (0≤z6.1∧z6.1< (t8.2.1:Nat)) <|
 T.load .slice (a9.add (Int.toNat z6.1 * 1)) fun (t10:Option Addr×Nat×Nat)=>
 cond (decide (((t10.2.1:Nat):Int) >right_2))
 (T.ret (.bool false))
 (T.out [(.int .i64 (IntKind.wrap .i64 (z6.1+(1:Int)))),(.bool z6.2.1)]))
 (T.brk 0 [(.int .i64 z6.1),(.bool z6.2.1)])) fun (z5:Int×Bool×Unit)=>
 T.ret (.bool true))
theorem EU (s_0:Int×Int×(Option Addr×Nat×Nat)×(Option Addr×Nat×Nat)×(Option Addr×Nat×Nat)×(Option Addr×Nat×Nat)×(Option Addr×Nat×Nat)×Unit) (rules_1:Int) (right_2:Int):Am Tryd.prog Tryd.f9 [(.agg #[(.int .u8 s_0.1),(.int .u8 s_0.2.1),(.slice s_0.2.2.1.1 s_0.2.2.1.2.1 s_0.2.2.1.2.2),(.slice s_0.2.2.2.1.1 s_0.2.2.2.1.2.1 s_0.2.2.2.1.2.2),(.slice s_0.2.2.2.2.1.1 s_0.2.2.2.2.1.2.1 s_0.2.2.2.2.1.2.2),(.slice s_0.2.2.2.2.2.1.1 s_0.2.2.2.2.2.1.2.1 s_0.2.2.2.2.2.1.2.2),(.slice s_0.2.2.2.2.2.2.1.1 s_0.2.2.2.2.2.2.1.2.1 s_0.2.2.2.2.2.2.1.2.2)]),(.int .i64 rules_1),(.int .i64 right_2)] =C1 s_0 rules_1 right_2:=by kernel_rfl
noncomputable def Cs (s_0:Int×Int×(Option Addr×Nat×Nat)×(Option Addr×Nat×Nat)×(Option Addr×Nat×Nat)×(Option Addr×Nat×Nat)×(Option Addr×Nat×Nat)×Unit):T:=
 T.new (.cells #[(.int .u8 s_0.1),(.int .u8 s_0.2.1),(.slice s_0.2.2.1.1 s_0.2.2.1.2.1 s_0.2.2.1.2.2),(.slice s_0.2.2.2.1.1 s_0.2.2.2.1.2.1 s_0.2.2.2.1.2.2),(.slice s_0.2.2.2.2.1.1 s_0.2.2.2.2.1.2.1 s_0.2.2.2.2.1.2.2),(.slice s_0.2.2.2.2.2.1.1 s_0.2.2.2.2.2.1.2.1 s_0.2.2.2.2.2.1.2.2),(.slice s_0.2.2.2.2.2.2.1.1 s_0.2.2.2.2.2.2.1.2.1 s_0.2.2.2.2.2.2.1.2.2)] 25 (0,0)) fun r1=>
 T.new (.cells #[(.slice none 0 0),(.slice none 0 0),(.slice none 0 0),(.slice none 0 0),(.slice none 0 0),(.slice none 0 0)] 32 (0,0)) fun r2=>
 T.load (.int .u8) ⟨r1,0,none⟩ fun (t3:Int)=>
 T.load (.int .u8) ⟨r1,1,none⟩ fun (t4:Int)=>
 T.load .slice ⟨r1,2,none⟩ fun (t5:Option Addr×Nat×Nat)=>
 T.load .slice ⟨r1,3,none⟩ fun (t6:Option Addr×Nat×Nat)=>
 T.load .slice ⟨r1,4,none⟩ fun (t7:Option Addr×Nat×Nat)=>
 T.load .slice ⟨r1,5,none⟩ fun (t8:Option Addr×Nat×Nat)=>
 T.load .slice ⟨r1,6,none⟩ fun (t9:Option Addr×Nat×Nat)=>
 T.call 25 [(.agg #[(.int .u8 t3),(.int .u8 t4),(.slice t5.1 t5.2.1 t5.2.2),(.slice t6.1 t6.2.1 t6.2.2),(.slice t7.1 t7.2.1 t7.2.2),(.slice t8.1 t8.2.1 t8.2.2),(.slice t9.1 t9.2.1 t9.2.2)])] (.one (.agg [.slice, .slice, .slice, .string, .slice])) fun (t10:(Option Addr×Nat×Nat)×(Option Addr×Nat×Nat)×(Option Addr×Nat×Nat)×ByteArray×(Option Addr×Nat×Nat)×Unit)=>
 T.call 24 [(.agg #[(.slice t10.1.1 t10.1.2.1 t10.1.2.2),(.slice t10.2.1.1 t10.2.1.2.1 t10.2.1.2.2),(.slice t10.2.2.1.1 t10.2.2.1.2.1 t10.2.2.1.2.2),(.string t10.2.2.2.1),(.slice t10.2.2.2.2.1.1 t10.2.2.2.2.1.2.1 t10.2.2.2.2.1.2.2)])] (.tuple [(.agg [.slice, .slice, .slice, .slice, .slice, .slice]),(.atom (.int .i64)),(.atom .string)]) fun (t11:((Option Addr×Nat×Nat)×(Option Addr×Nat×Nat)×(Option Addr×Nat×Nat)×(Option Addr×Nat×Nat)×(Option Addr×Nat×Nat)×(Option Addr×Nat×Nat)×Unit)×Int×ByteArray×Unit)=>
 T.new (.cells #[(.slice none 0 0),(.slice none 0 0),(.slice none 0 0),(.slice none 0 0),(.slice none 0 0),(.slice none 0 0)] 32 (0,0)) fun r12=>
 T.store ⟨r12,0,none⟩ (.slice t11.1.1.1 t11.1.1.2.1 t11.1.1.2.2) <|
 T.store ⟨r12,1,none⟩ (.slice t11.1.2.1.1 t11.1.2.1.2.1 t11.1.2.1.2.2) <|
 T.store ⟨r12,2,none⟩ (.slice t11.1.2.2.1.1 t11.1.2.2.1.2.1 t11.1.2.2.1.2.2) <|
 T.store ⟨r12,3,none⟩ (.slice t11.1.2.2.2.1.1 t11.1.2.2.2.1.2.1 t11.1.2.2.2.1.2.2) <|
 T.store ⟨r12,4,none⟩ (.slice t11.1.2.2.2.2.1.1 t11.1.2.2.2.2.1.2.1 t11.1.2.2.2.2.1.2.2) <|
 T.store ⟨r12,5,none⟩ (.slice t11.1.2.2.2.2.2.1.1 t11.1.2.2.2.2.2.1.2.1 t11.1.2.2.2.2.2.1.2.2) <|
 T.load .slice ⟨r12,0,none⟩ fun (t13:Option Addr×Nat×Nat)=>
 T.load .slice ⟨r12,1,none⟩ fun (t14:Option Addr×Nat×Nat)=>
 T.load .slice ⟨r12,2,none⟩ fun (t15:Option Addr×Nat×Nat)=>
 T.load .slice ⟨r12,3,none⟩ fun (t16:Option Addr×Nat×Nat)=>
 T.load .slice ⟨r12,4,none⟩ fun (t17:Option Addr×Nat×Nat)=>
 T.load .slice ⟨r12,5,none⟩ fun (t18:Option Addr×Nat×Nat)=>
 T.store ⟨r2,0,none⟩ (.slice t13.1 t13.2.1 t13.2.2) <|
 T.store ⟨r2,1,none⟩ (.slice t14.1 t14.2.1 t14.2.2) <|
 T.store ⟨r2,2,none⟩ (.slice t15.1 t15.2.1 t15.2.2) <|
 T.store ⟨r2,3,none⟩ (.slice t16.1 t16.2.1 t16.2.2) <|
 T.store ⟨r2,4,none⟩ (.slice t17.1 t17.2.1 t17.2.2) <|
 T.store ⟨r2,5,none⟩ (.slice t18.1 t18.2.1 t18.2.2) <|
 T.load .slice ⟨r2,0,none⟩ fun (res19:Option Addr×Nat×Nat)=>
 T.load .slice ⟨r2,1,none⟩ fun (res20:Option Addr×Nat×Nat)=>
 T.load .slice ⟨r2,2,none⟩ fun (res21:Option Addr×Nat×Nat)=>
 T.load .slice ⟨r2,3,none⟩ fun (res22:Option Addr×Nat×Nat)=>
 T.load .slice ⟨r2,4,none⟩ fun (res23:Option Addr×Nat×Nat)=>
 T.load .slice ⟨r2,5,none⟩ fun (res24:Option Addr×Nat×Nat)=>
 T.ret (.agg #[(.slice res19.1 res19.2.1 res19.2.2),(.slice res20.1 res20.2.1 res20.2.2),(.slice res21.1 res21.2.1 res21.2.2),(.slice res22.1 res22.2.1 res22.2.2),(.slice res23.1 res23.2.1 res23.2.2),(.slice res24.1 res24.2.1 res24.2.2)])
theorem EQ (s_0:Int×Int×(Option Addr×Nat×Nat)×(Option Addr×Nat×Nat)×(Option Addr×Nat×Nat)×(Option Addr×Nat×Nat)×(Option Addr×Nat×Nat)×Unit):Am Tryd.prog Tryd.f10 [(.agg #[(.int .u8 s_0.1),(.int .u8 s_0.2.1),(.slice s_0.2.2.1.1 s_0.2.2.1.2.1 s_0.2.2.1.2.2),(.slice s_0.2.2.2.1.1 s_0.2.2.2.1.2.1 s_0.2.2.2.1.2.2),(.slice s_0.2.2.2.2.1.1 s_0.2.2.2.2.1.2.1 s_0.2.2.2.2.1.2.2),(.slice s_0.2.2.2.2.2.1.1 s_0.2.2.2.2.2.1.2.1 s_0.2.2.2.2.2.1.2.2),(.slice s_0.2.2.2.2.2.2.1.1 s_0.2.2.2.2.2.2.1.2.1 s_0.2.2.2.2.2.2.1.2.2)])] =Cs s_0:=by kernel_rfl
noncomputable def F0 (p_0:(Option Addr×Nat×Nat)×(Option Addr×Nat×Nat)×(Option Addr×Nat×Nat)×(Option Addr×Nat×Nat)×(Option Addr×Nat×Nat)×(Option Addr×Nat×Nat)×Unit) (states_1:Int) (items_2:Int):T:=
 T.new (.cells #[(.slice p_0.1.1 p_0.1.2.1 p_0.1.2.2),(.slice p_0.2.1.1 p_0.2.1.2.1 p_0.2.1.2.2),(.slice p_0.2.2.1.1 p_0.2.2.1.2.1 p_0.2.2.1.2.2),(.slice p_0.2.2.2.1.1 p_0.2.2.2.1.2.1 p_0.2.2.2.1.2.2),(.slice p_0.2.2.2.2.1.1 p_0.2.2.2.2.1.2.1 p_0.2.2.2.2.1.2.2),(.slice p_0.2.2.2.2.2.1.1 p_0.2.2.2.2.2.1.2.1 p_0.2.2.2.2.2.1.2.2)] 32 (0,0)) fun r1=>
 T.load .slice ⟨r1,0,none⟩ fun (t2:Option Addr×Nat×Nat)=>
 T.load .slice ⟨r1,1,none⟩ fun (t3:Option Addr×Nat×Nat)=>
 T.load .slice ⟨r1,2,none⟩ fun (t4:Option Addr×Nat×Nat)=>
 T.load .slice ⟨r1,3,none⟩ fun (t5:Option Addr×Nat×Nat)=>
 T.load .slice ⟨r1,4,none⟩ fun (t6:Option Addr×Nat×Nat)=>
 T.load .slice ⟨r1,5,none⟩ fun (t7:Option Addr×Nat×Nat)=>
 T.new (.cells #[(.slice t2.1 t2.2.1 t2.2.2),(.slice t3.1 t3.2.1 t3.2.2),(.slice t4.1 t4.2.1 t4.2.2),(.slice t5.1 t5.2.1 t5.2.2),(.slice t6.1 t6.2.1 t6.2.2),(.slice t7.1 t7.2.1 t7.2.2),(.slice none 0 0),(.int .i64 (0:Int))] 70 (0,0)) fun r8=>
 T.new (.cells #[(.pointer none)] 34 (0,0)) fun r9=>
 T.store ⟨r9,0,none⟩ (.pointer (some ⟨r8,0,none⟩)) <|
 T.call 26 [(.int .i64 states_1)] (.one (.atom .pointer)) fun (t10:Option Addr)=>
 T.call 26 [(.int .i64 items_2)] (.one (.atom .pointer)) fun (t11:Option Addr)=>
 T.new (.cells #[(.pointer none)] 71 (0,0)) fun r12=>
 T.new (.cells #[(.pointer none)] 71 (0,0)) fun r13=>
 T.store ⟨r12,0,none⟩ (.pointer t10) <|
 T.store ⟨r13,0,none⟩ (.pointer t11) <|
 T.new (.map #[] 0) fun r14=>
 T.new (.cells #[(.map none)] 73 (0,0)) fun r15=>
 T.store ⟨r15,0,none⟩ (.map (some r14)) <|
 T.new (.cells #[(.int .i64 (0:Int)),(.int .i64 (0:Int))] 44 (0,0)) fun r16=>
 T.call 27 [(.slice (some ⟨r16,0,none⟩) 1 1),(.int .i64 (-1:Int)),(.int .i64 (-1:Int)),(.pointer (some ⟨r15,0,none⟩)),(.pointer (some ⟨r9,0,none⟩)),(.pointer (some ⟨r12,0,none⟩)),(.pointer (some ⟨r13,0,none⟩))] (.tuple [(.atom (.int .i64)),(.atom (.int .i64))]) fun (t17:Int×Int×Unit)=>
 cond (t17.2.1 !=(0:Int))
 (T.ret (.tuple #[(.pointer none),(.int .i64 t17.2.1)]))
 (T.block 0 [(.atom (.int .i64)),(.atom (.int .i64)),(.atom .pointer)]
 (T.loop [(.atom (.int .i64)),(.atom (.int .i64)),(.atom .pointer)] [(.int .i64 (0:Int)),(.int .i64 (0:Int)),(.pointer none)] fun (z19:Int×Int×(Option Addr)×Unit)=>
 T.load .pointer ⟨r9,0,none⟩ fun (t20:Option Addr)=>
 AP t20 fun a21=>
 T.load .slice (a21.add 6) fun (t22:Option Addr×Nat×Nat)=>
 cond (decide (z19.1< ((t22.2.1:Nat):Int)))
 (T.load .pointer ⟨r9,0,none⟩ fun (t23:Option Addr)=>
 AP t23 fun a24=>
 T.load .slice (a24.add 6) fun (t25:Option Addr×Nat×Nat)=>
 AP t25.1 fun a26=>
 chk (0≤z19.1∧z19.1< (t25.2.1:Nat)) <|
 T.load .slice ((a26.add (Int.toNat z19.1 * 5)).add 1) fun (t27:Option Addr×Nat×Nat)=>
 T.load .pointer ⟨r9,0,none⟩ fun (t28:Option Addr)=>
 T.call 31 [(.pointer t28),(.slice t27.1 t27.2.1 t27.2.2)] (.one (.atom .slice)) fun (t29:Option Addr×Nat×Nat)=>
 T.block 2 [(.atom (.int .i64)),(.atom (.int .i64)),(.atom .pointer)]
 (T.loop [(.atom (.int .i64)),(.atom (.int .i64)),(.atom .pointer)] [(.int .i64 (0:Int)),(.int .i64 z19.2.1),(.pointer z19.2.2.1)] fun (z31:Int×Int×(Option Addr)×Unit)=>
 cond (decide (z31.1< ((t29.2.1:Nat):Int)))
 (AP t29.1 fun a32=>
 chk (0≤z31.1∧z31.1< (t29.2.1:Nat)) <|
 T.load (.int .i64) (a32.add (Int.toNat z31.1 * 1)) fun (t33:Int)=>
 T.load .pointer ⟨r9,0,none⟩ fun (t34:Option Addr)=>
 T.call 32 [(.pointer t34),(.slice t27.1 t27.2.1 t27.2.2),(.int .i64 t33)] (.one (.atom .slice)) fun (t35:Option Addr×Nat×Nat)=>
 T.call 27 [(.slice t35.1 t35.2.1 t35.2.2),(.int .i64 z19.1),(.int .i64 t33),(.pointer (some ⟨r15,0,none⟩)),(.pointer (some ⟨r9,0,none⟩)),(.pointer (some ⟨r12,0,none⟩)),(.pointer (some ⟨r13,0,none⟩))] (.tuple [(.atom (.int .i64)),(.atom (.int .i64))]) fun (t36:Int×Int×Unit)=>
 cond (t36.2.1 !=(0:Int))
 (T.ret (.tuple #[(.pointer none),(.int .i64 t36.2.1)]))
 (T.load .pointer ⟨r9,0,none⟩ fun (t37:Option Addr)=>
 AP t37 fun a38=>
 T.load .slice (a38.add 6) fun (t39:Option Addr×Nat×Nat)=>
 T.load .pointer ⟨r9,0,none⟩ fun (t40:Option Addr)=>
 AP t40 fun a41=>
 T.load .slice (a41.add 6) fun (t42:Option Addr×Nat×Nat)=>
 AP t42.1 fun a43=>
 chk (0≤z19.1∧z19.1< (t42.2.1:Nat)) <|
 T.load .slice ((a43.add (Int.toNat z19.1 * 5)).add 2) fun (t44:Option Addr×Nat×Nat)=>
 T.new (.cells #[(.int .i64 t33),(.int .i64 t36.1)] 57 (0,0)) fun r45=>
 T.still ((a43.add (Int.toNat z19.1 * 5)).add 2) (.slice t44.1 t44.2.1 t44.2.2) <|
 T.still (a41.add 6) (.slice t42.1 t42.2.1 t42.2.2) <|
 T.still ⟨r9,0,none⟩ (.pointer t40) <|
 T.still (a38.add 6) (.slice t39.1 t39.2.1 t39.2.2) <|
 T.still ⟨r9,0,none⟩ (.pointer t37) <|
 T.sem (Builtin.append_ #[54,54] 54 #[(.slice t44.1 t44.2.1 t44.2.2),(.slice (some ⟨r45,0,none⟩) 1 1)]) (.one (.atom .slice)) fun (t46:Option Addr×Nat×Nat)=>
 T.still (a38.add 6) (.slice t39.1 t39.2.1 t39.2.2) <|
 T.still ⟨r9,0,none⟩ (.pointer t37) <|
 AP t39.1 fun a47=>
 chk (0≤z19.1∧z19.1< (t39.2.1:Nat)) <|
 T.store ((a47.add (Int.toNat z19.1 * 5)).add 2) (.slice t46.1 t46.2.1 t46.2.2) <|
 T.out [(.int .i64 (IntKind.wrap .i64 (z31.1+(1:Int)))),(.int .i64 z31.2.1),(.pointer z31.2.2.1)]))
 (T.brk 2 [(.int .i64 z31.1),(.int .i64 z31.2.1),(.pointer z31.2.2.1)])) fun (z30:Int×Int×(Option Addr)×Unit)=>
 T.out [(.int .i64 (IntKind.wrap .i64 (z19.1+(1:Int)))),(.int .i64 z30.2.1),(.pointer z30.2.2.1)])
 (T.brk 0 [(.int .i64 z19.1),(.int .i64 z19.2.1),(.pointer z19.2.2.1)])) fun (z18:Int×Int×(Option Addr)×Unit)=>
 T.load .pointer ⟨r9,0,none⟩ fun (t48:Option Addr)=>
 T.load .pointer ⟨r13,0,none⟩ fun (t49:Option Addr)=>
 T.call 33 [(.pointer t49)] (.one (.atom (.int .i64))) fun (t50:Int)=>
 T.still ⟨r9,0,none⟩ (.pointer t48) <|
 AP t48 fun a51=>
 T.store (a51.add 7) (.int .i64 t50) <|
 T.load .pointer ⟨r9,0,none⟩ fun (t52:Option Addr)=>
 T.ret (.tuple #[(.pointer t52),(.int .i64 (0:Int))]))
theorem HU (p_0:(Option Addr×Nat×Nat)×(Option Addr×Nat×Nat)×(Option Addr×Nat×Nat)×(Option Addr×Nat×Nat)×(Option Addr×Nat×Nat)×(Option Addr×Nat×Nat)×Unit) (states_1:Int) (items_2:Int):Am Tryd.prog Tryd.f11 [(.agg #[(.slice p_0.1.1 p_0.1.2.1 p_0.1.2.2),(.slice p_0.2.1.1 p_0.2.1.2.1 p_0.2.1.2.2),(.slice p_0.2.2.1.1 p_0.2.2.1.2.1 p_0.2.2.1.2.2),(.slice p_0.2.2.2.1.1 p_0.2.2.2.1.2.1 p_0.2.2.2.1.2.2),(.slice p_0.2.2.2.2.1.1 p_0.2.2.2.2.1.2.1 p_0.2.2.2.2.1.2.2),(.slice p_0.2.2.2.2.2.1.1 p_0.2.2.2.2.2.1.2.1 p_0.2.2.2.2.2.1.2.2)]),(.int .i64 states_1),(.int .i64 items_2)] =F0 p_0 states_1 items_2:=by kernel_rfl
noncomputable def El (a_0:Option Addr):T:=
 AP a_0 fun a1=>
 T.load .slice (a1.add 6) fun (t2:Option Addr×Nat×Nat)=>
 T.ret (.int .i64 ((t2.2.1:Nat):Int))
theorem GZ (a_0:Option Addr):Am Tryd.prog Tryd.f12 [(.pointer a_0)] =El a_0:=by kernel_rfl
noncomputable def EE (a_0:Option Addr):T:=
 AP a_0 fun a1=>
 T.load (.int .i64) (a1.add 7) fun (t2:Int)=>
 T.ret (.int .i64 t2)
theorem Fg (a_0:Option Addr):Am Tryd.prog Tryd.f13 [(.pointer a_0)] =EE a_0:=by kernel_rfl
noncomputable def EF (a_0:Option Addr) (n_1:Int):T:=
 T.call 35 [(.pointer a_0),(.int .i64 n_1)] (.one (.agg [.slice, .slice, .slice,(.int .i64),(.int .i64)])) fun (t1:(Option Addr×Nat×Nat)×(Option Addr×Nat×Nat)×(Option Addr×Nat×Nat)×Int×Int×Unit)=>
 T.call 34 [(.slice t1.2.1.1 t1.2.1.2.1 t1.2.1.2.2)] (.one (.atom .slice)) fun (t2:Option Addr×Nat×Nat)=>
 T.ret (.slice t2.1 t2.2.1 t2.2.2)
theorem Fh (a_0:Option Addr) (n_1:Int):Am Tryd.prog Tryd.f14 [(.pointer a_0),(.int .i64 n_1)] =EF a_0 n_1:=by kernel_rfl
noncomputable def Dr (a_0:Option Addr) (n_1:Int):T:=
 T.call 35 [(.pointer a_0),(.int .i64 n_1)] (.one (.agg [.slice, .slice, .slice,(.int .i64),(.int .i64)])) fun (t1:(Option Addr×Nat×Nat)×(Option Addr×Nat×Nat)×(Option Addr×Nat×Nat)×Int×Int×Unit)=>
 T.call 34 [(.slice t1.1.1 t1.1.2.1 t1.1.2.2)] (.one (.atom .slice)) fun (t2:Option Addr×Nat×Nat)=>
 T.ret (.slice t2.1 t2.2.1 t2.2.2)
theorem FR (a_0:Option Addr) (n_1:Int):Am Tryd.prog Tryd.f15 [(.pointer a_0),(.int .i64 n_1)] =Dr a_0 n_1:=by kernel_rfl
noncomputable def DX (p_0:(Option Addr×Nat×Nat)×(Option Addr×Nat×Nat)×(Option Addr×Nat×Nat)×(Option Addr×Nat×Nat)×(Option Addr×Nat×Nat)×(Option Addr×Nat×Nat)×Unit) (x_1:Int×Int×Unit):T:=
 T.new (.cells #[(.slice p_0.1.1 p_0.1.2.1 p_0.1.2.2),(.slice p_0.2.1.1 p_0.2.1.2.1 p_0.2.1.2.2),(.slice p_0.2.2.1.1 p_0.2.2.1.2.1 p_0.2.2.1.2.2),(.slice p_0.2.2.2.1.1 p_0.2.2.2.1.2.1 p_0.2.2.2.1.2.2),(.slice p_0.2.2.2.2.1.1 p_0.2.2.2.2.1.2.1 p_0.2.2.2.2.1.2.2),(.slice p_0.2.2.2.2.2.1.1 p_0.2.2.2.2.2.1.2.1 p_0.2.2.2.2.2.1.2.2)] 32 (0,0)) fun r1=>
 T.new (.cells #[(.int .i64 x_1.1),(.int .i64 x_1.2.1)] 44 (0,0)) fun r2=>
 T.load (.int .i64) ⟨r2,1,none⟩ fun (t3:Int)=>
 T.load .slice ⟨r1,2,none⟩ fun (t4:Option Addr×Nat×Nat)=>
 T.load (.int .i64) ⟨r2,0,none⟩ fun (t5:Int)=>
 AP t4.1 fun a6=>
 chk (0≤t5∧t5< (t4.2.1:Nat)) <|
 T.load .slice ((a6.add (Int.toNat t5 * 3)).add 1) fun (t7:Option Addr×Nat×Nat)=>
 cond (decide (t3< ((t7.2.1:Nat):Int)))
 (T.load .slice ⟨r1,2,none⟩ fun (t8:Option Addr×Nat×Nat)=>
 T.load (.int .i64) ⟨r2,0,none⟩ fun (t9:Int)=>
 AP t8.1 fun a10=>
 chk (0≤t9∧t9< (t8.2.1:Nat)) <|
 T.load .slice ((a10.add (Int.toNat t9 * 3)).add 1) fun (t11:Option Addr×Nat×Nat)=>
 T.load (.int .i64) ⟨r2,1,none⟩ fun (t12:Int)=>
 AP t11.1 fun a13=>
 chk (0≤t12∧t12< (t11.2.1:Nat)) <|
 T.load (.int .i64) (a13.add (Int.toNat t12 * 1)) fun (t14:Int)=>
 T.ret (.int .i64 t14))
 (T.ret (.int .i64 (-1:Int)))
theorem E0 (p_0:(Option Addr×Nat×Nat)×(Option Addr×Nat×Nat)×(Option Addr×Nat×Nat)×(Option Addr×Nat×Nat)×(Option Addr×Nat×Nat)×(Option Addr×Nat×Nat)×Unit) (x_1:Int×Int×Unit):Am Tryd.prog Tryd.f16 [(.agg #[(.slice p_0.1.1 p_0.1.2.1 p_0.1.2.2),(.slice p_0.2.1.1 p_0.2.1.2.1 p_0.2.1.2.2),(.slice p_0.2.2.1.1 p_0.2.2.1.2.1 p_0.2.2.1.2.2),(.slice p_0.2.2.2.1.1 p_0.2.2.2.1.2.1 p_0.2.2.2.1.2.2),(.slice p_0.2.2.2.2.1.1 p_0.2.2.2.2.1.2.1 p_0.2.2.2.2.1.2.2),(.slice p_0.2.2.2.2.2.1.1 p_0.2.2.2.2.2.1.2.1 p_0.2.2.2.2.2.1.2.2)]),(.agg #[(.int .i64 x_1.1),(.int .i64 x_1.2.1)])] =DX p_0 x_1:=by kernel_rfl
noncomputable def Em (l_0_p:Option Addr) (l_0_n l_0_c:Nat) (x_1:Int):T:=
 T.block 0 [(.atom (.int .i64)),(.atom .bool)]
 (T.loop [(.atom (.int .i64)),(.atom .bool)] [(.int .i64 (0:Int)),(.bool false)] fun (z2:Int×Bool×Unit)=>
 cond (decide (z2.1< ((l_0_n:Nat):Int)))
 (AP l_0_p fun a3=>
 chk (0≤z2.1∧z2.1< (l_0_n:Nat)) <|
 T.load (.int .i64) (a3.add (Int.toNat z2.1 * 1)) fun (t4:Int)=>
 cond (t4==x_1)
 (T.ret (.bool true))
 (T.out [(.int .i64 (IntKind.wrap .i64 (z2.1+(1:Int)))),(.bool z2.2.1)]))
 (T.brk 0 [(.int .i64 z2.1),(.bool z2.2.1)])) fun (z1:Int×Bool×Unit)=>
 T.ret (.bool false)
theorem Ga (l_0_p:Option Addr) (l_0_n l_0_c:Nat) (x_1:Int):Am Tryd.prog Tryd.f17 [(.slice l_0_p l_0_n l_0_c),(.int .i64 x_1)] =Em l_0_p l_0_n l_0_c x_1:=by kernel_rfl
noncomputable def EV (l_0_p:Option Addr) (l_0_n l_0_c:Nat) (x_1:Int×Int×Unit):T:=
 T.new (.cells #[(.int .i64 x_1.1),(.int .i64 x_1.2.1)] 44 (0,0)) fun r1=>
 T.block 0 [(.atom (.int .i64)),(.atom .bool)]
 (T.loop [(.atom (.int .i64)),(.atom .bool)] [(.int .i64 (0:Int)),(.bool false)] fun (z3:Int×Bool×Unit)=>
 cond (decide (z3.1< ((l_0_n:Nat):Int)))
 (AP l_0_p fun a4=>
 chk (0≤z3.1∧z3.1< (l_0_n:Nat)) <|
 T.load (.int .i64) (a4.add (Int.toNat z3.1 * 2)) fun (t5:Int)=>
 T.load (.int .i64) ((a4.add (Int.toNat z3.1 * 2)).add 1) fun (t6:Int)=>
 T.load (.int .i64) ⟨r1,0,none⟩ fun (t7:Int)=>
 T.load (.int .i64) ⟨r1,1,none⟩ fun (t8:Int)=>
 cond ((t5==t7) && ((t6==t8) && true))
 (T.ret (.bool true))
 (T.out [(.int .i64 (IntKind.wrap .i64 (z3.1+(1:Int)))),(.bool z3.2.1)]))
 (T.brk 0 [(.int .i64 z3.1),(.bool z3.2.1)])) fun (z2:Int×Bool×Unit)=>
 T.ret (.bool false)
theorem F1 (l_0_p:Option Addr) (l_0_n l_0_c:Nat) (x_1:Int×Int×Unit):Am Tryd.prog Tryd.f18 [(.slice l_0_p l_0_n l_0_c),(.agg #[(.int .i64 x_1.1),(.int .i64 x_1.2.1)])] =EV l_0_p l_0_n l_0_c x_1:=by kernel_rfl
noncomputable def EW (a_0:Option Addr) (n_1:Int) (seq_2_p:Option Addr) (seq_2_n seq_2_c:Nat):T:=
 T.join [(.atom .bool)]
 (cond (decide (n_1< (0:Int)))
 (T.out [(.bool true)])
 (AP a_0 fun a2=>
 T.load .slice (a2.add 6) fun (t3:Option Addr×Nat×Nat)=>
 T.out [(.bool (decide (n_1≥ ((t3.2.1:Nat):Int))))])) fun (z1:Bool×Unit)=>
 cond z1.1
 (T.ret (.int .i64 (-1:Int)))
 (T.block 0 [(.atom (.int .i64)),(.atom (.int .i64))]
 (T.loop [(.atom (.int .i64)),(.atom (.int .i64))] [(.int .i64 (0:Int)),(.int .i64 n_1)] fun (z5:Int×Int×Unit)=>
 cond (decide (z5.1< ((seq_2_n:Nat):Int)))
 (AP seq_2_p fun a6=>
 chk (0≤z5.1∧z5.1< (seq_2_n:Nat)) <|
 T.load (.int .i64) (a6.add (Int.toNat z5.1 * 1)) fun (t7:Int)=>
 T.call 23 [(.pointer a_0),(.int .i64 z5.2.1),(.int .i64 t7)] (.one (.atom (.int .i64))) fun (t8:Int)=>
 cond (decide (t8< (0:Int)))
 (T.brk 0 [(.int .i64 z5.1),(.int .i64 t8)])
 (T.out [(.int .i64 (IntKind.wrap .i64 (z5.1+(1:Int)))),(.int .i64 t8)]))
 (T.brk 0 [(.int .i64 z5.1),(.int .i64 z5.2.1)])) fun (z4:Int×Int×Unit)=>
 T.ret (.int .i64 z4.2.1))
theorem F2 (a_0:Option Addr) (n_1:Int) (seq_2_p:Option Addr) (seq_2_n seq_2_c:Nat):Am Tryd.prog Tryd.f19 [(.pointer a_0),(.int .i64 n_1),(.slice seq_2_p seq_2_n seq_2_c)] =EW a_0 n_1 seq_2_p seq_2_n seq_2_c:=by kernel_rfl
noncomputable def Ds (a_0_p:Option Addr) (a_0_n a_0_c:Nat) (b_1_p:Option Addr) (b_1_n b_1_c:Nat):T:=
 cond (((a_0_n:Nat):Int) !=((b_1_n:Nat):Int))
 (T.ret (.bool false))
 (T.block 0 [(.atom (.int .i64)),(.atom .bool)]
 (T.loop [(.atom (.int .i64)),(.atom .bool)] [(.int .i64 (0:Int)),(.bool false)] fun (z2:Int×Bool×Unit)=>
 cond (decide (z2.1< ((a_0_n:Nat):Int)))
 (AP a_0_p fun a3=>
 chk (0≤z2.1∧z2.1< (a_0_n:Nat)) <|
 T.load (.int .i64) (a3.add (Int.toNat z2.1 * 2)) fun (t4:Int)=>
 T.load (.int .i64) ((a3.add (Int.toNat z2.1 * 2)).add 1) fun (t5:Int)=>
 AP b_1_p fun a6=>
 chk (0≤z2.1∧z2.1< (b_1_n:Nat)) <|
 T.load (.int .i64) (a6.add (Int.toNat z2.1 * 2)) fun (t7:Int)=>
 T.load (.int .i64) ((a6.add (Int.toNat z2.1 * 2)).add 1) fun (t8:Int)=>
 cond (!((t4==t7) && ((t5==t8) && true)))
 (T.ret (.bool false))
 (T.out [(.int .i64 (IntKind.wrap .i64 (z2.1+(1:Int)))),(.bool z2.2.1)]))
 (T.brk 0 [(.int .i64 z2.1),(.bool z2.2.1)])) fun (z1:Int×Bool×Unit)=>
 T.ret (.bool true))
theorem FS (a_0_p:Option Addr) (a_0_n a_0_c:Nat) (b_1_p:Option Addr) (b_1_n b_1_c:Nat):Am Tryd.prog Tryd.f20 [(.slice a_0_p a_0_n a_0_c),(.slice b_1_p b_1_n b_1_c)] =Ds a_0_p a_0_n a_0_c b_1_p b_1_n b_1_c:=by kernel_rfl
noncomputable def EX (a_0:Option Addr) (n_1:Int):T:=
 T.call 35 [(.pointer a_0),(.int .i64 n_1)] (.one (.agg [.slice, .slice, .slice,(.int .i64),(.int .i64)])) fun (t1:(Option Addr×Nat×Nat)×(Option Addr×Nat×Nat)×(Option Addr×Nat×Nat)×Int×Int×Unit)=>
 T.new (.cells #[(.slice none 0 0),(.slice none 0 0),(.slice none 0 0),(.int .i64 (0:Int)),(.int .i64 (0:Int))] 78 (0,0)) fun r2=>
 T.store ⟨r2,0,none⟩ (.slice t1.1.1 t1.1.2.1 t1.1.2.2) <|
 T.store ⟨r2,1,none⟩ (.slice t1.2.1.1 t1.2.1.2.1 t1.2.1.2.2) <|
 T.store ⟨r2,2,none⟩ (.slice t1.2.2.1.1 t1.2.2.1.2.1 t1.2.2.1.2.2) <|
 T.store ⟨r2,3,none⟩ (.int .i64 t1.2.2.2.1) <|
 T.store ⟨r2,4,none⟩ (.int .i64 t1.2.2.2.2.1) <|
 T.block 0 [(.atom .pointer),(.atom .slice),(.atom (.int .i64))]
 (T.loop [(.atom .pointer),(.atom .slice),(.atom (.int .i64))] [(.pointer (some ⟨r2,0,none⟩)),(.slice none 0 0),(.int .i64 n_1)] fun (z4:(Option Addr)×(Option Addr×Nat×Nat)×Int×Unit)=>
 T.join [(.atom .bool)]
 (cond (decide (z4.2.2.1>(0:Int)))
 (AP a_0 fun a6=>
 T.load .slice (a6.add 6) fun (t7:Option Addr×Nat×Nat)=>
 T.out [(.bool (decide (z4.2.2.1< ((t7.2.1:Nat):Int))))])
 (T.out [(.bool false)])) fun (z5:Bool×Unit)=>
 cond z5.1
 (AP z4.1 fun a8=>
 T.load (.int .i64) (a8.add 4) fun (t9:Int)=>
 T.new (.cells #[(.int .i64 t9)] 3 (0,0)) fun r10=>
 T.sem (Builtin.append_ #[30,30] 30 #[(.slice z4.2.1.1 z4.2.1.2.1 z4.2.1.2.2),(.slice (some ⟨r10,0,none⟩) 1 1)]) (.one (.atom .slice)) fun (t11:Option Addr×Nat×Nat)=>
 AP z4.1 fun a12=>
 T.load (.int .i64) (a12.add 3) fun (t13:Int)=>
 AP z4.1 fun a14=>
 T.load .slice a14 fun (t15:Option Addr×Nat×Nat)=>
 T.load .slice (a14.add 1) fun (t16:Option Addr×Nat×Nat)=>
 T.load .slice (a14.add 2) fun (t17:Option Addr×Nat×Nat)=>
 T.load (.int .i64) (a14.add 3) fun (t18:Int)=>
 T.load (.int .i64) (a14.add 4) fun (t19:Int)=>
 T.new (.cells #[(.slice none 0 0),(.slice none 0 0),(.slice none 0 0),(.int .i64 (0:Int)),(.int .i64 (0:Int))] 78 (0,0)) fun r20=>
 T.store ⟨r20,0,none⟩ (.slice t15.1 t15.2.1 t15.2.2) <|
 T.store ⟨r20,1,none⟩ (.slice t16.1 t16.2.1 t16.2.2) <|
 T.store ⟨r20,2,none⟩ (.slice t17.1 t17.2.1 t17.2.2) <|
 T.store ⟨r20,3,none⟩ (.int .i64 t18) <|
 T.store ⟨r20,4,none⟩ (.int .i64 t19) <|
 T.call 35 [(.pointer a_0),(.int .i64 t13)] (.one (.agg [.slice, .slice, .slice,(.int .i64),(.int .i64)])) fun (t21:(Option Addr×Nat×Nat)×(Option Addr×Nat×Nat)×(Option Addr×Nat×Nat)×Int×Int×Unit)=>
 T.store ⟨r20,0,none⟩ (.slice t21.1.1 t21.1.2.1 t21.1.2.2) <|
 T.store ⟨r20,1,none⟩ (.slice t21.2.1.1 t21.2.1.2.1 t21.2.1.2.2) <|
 T.store ⟨r20,2,none⟩ (.slice t21.2.2.1.1 t21.2.2.1.2.1 t21.2.2.1.2.2) <|
 T.store ⟨r20,3,none⟩ (.int .i64 t21.2.2.2.1) <|
 T.store ⟨r20,4,none⟩ (.int .i64 t21.2.2.2.2.1) <|
 T.out [(.pointer (some ⟨r20,0,none⟩)),(.slice t11.1 t11.2.1 t11.2.2),(.int .i64 t13)])
 (T.brk 0 [(.pointer z4.1),(.slice z4.2.1.1 z4.2.1.2.1 z4.2.1.2.2),(.int .i64 z4.2.2.1)])) fun (z3:(Option Addr)×(Option Addr×Nat×Nat)×Int×Unit)=>
 T.call 36 [(.slice z3.2.1.1 z3.2.1.2.1 z3.2.1.2.2)] (.tuple []) fun (t22:Unit)=>
 T.ret (.slice z3.2.1.1 z3.2.1.2.1 z3.2.1.2.2)
theorem F3 (a_0:Option Addr) (n_1:Int):Am Tryd.prog Tryd.f21 [(.pointer a_0),(.int .i64 n_1)] =EX a_0 n_1:=by kernel_rfl
noncomputable def EG (a_0:Option Addr) (n_1:Int):T:=
 T.call 35 [(.pointer a_0),(.int .i64 n_1)] (.one (.agg [.slice, .slice, .slice,(.int .i64),(.int .i64)])) fun (t1:(Option Addr×Nat×Nat)×(Option Addr×Nat×Nat)×(Option Addr×Nat×Nat)×Int×Int×Unit)=>
 T.call 37 [(.slice t1.2.2.1.1 t1.2.2.1.2.1 t1.2.2.1.2.2)] (.one (.atom .slice)) fun (t2:Option Addr×Nat×Nat)=>
 T.ret (.slice t2.1 t2.2.1 t2.2.2)
theorem Fi (a_0:Option Addr) (n_1:Int):Am Tryd.prog Tryd.f22 [(.pointer a_0),(.int .i64 n_1)] =EG a_0 n_1:=by kernel_rfl
noncomputable def E1 (a_0:Option Addr) (n_1:Int) (sym_2:Int):T:=
 T.call 35 [(.pointer a_0),(.int .i64 n_1)] (.one (.agg [.slice, .slice, .slice,(.int .i64),(.int .i64)])) fun (t1:(Option Addr×Nat×Nat)×(Option Addr×Nat×Nat)×(Option Addr×Nat×Nat)×Int×Int×Unit)=>
 T.block 0 [(.atom (.int .i64)),(.atom (.int .i64))]
 (T.loop [(.atom (.int .i64)),(.atom (.int .i64))] [(.int .i64 (0:Int)),(.int .i64 (0:Int))] fun (z3:Int×Int×Unit)=>
 cond (decide (z3.1< ((t1.2.2.1.2.1:Nat):Int)))
 (AP t1.2.2.1.1 fun a4=>
 chk (0≤z3.1∧z3.1< (t1.2.2.1.2.1:Nat)) <|
 T.load (.int .i64) (a4.add (Int.toNat z3.1 * 2)) fun (t5:Int)=>
 T.load (.int .i64) ((a4.add (Int.toNat z3.1 * 2)).add 1) fun (t6:Int)=>
 T.new (.cells #[(.int .i64 (0:Int)),(.int .i64 (0:Int))] 57 (0,0)) fun r7=>
 T.store ⟨r7,0,none⟩ (.int .i64 t5) <|
 T.store ⟨r7,1,none⟩ (.int .i64 t6) <|
 T.load (.int .i64) ⟨r7,0,none⟩ fun (t8:Int)=>
 cond (t8==sym_2)
 (T.load (.int .i64) ⟨r7,1,none⟩ fun (t9:Int)=>
 T.ret (.int .i64 t9))
 (T.out [(.int .i64 (IntKind.wrap .i64 (z3.1+(1:Int)))),(.int .i64 z3.2.1)]))
 (T.brk 0 [(.int .i64 z3.1),(.int .i64 z3.2.1)])) fun (z2:Int×Int×Unit)=>
 T.ret (.int .i64 (-1:Int))
theorem Gw (a_0:Option Addr) (n_1:Int) (sym_2:Int):Am Tryd.prog Tryd.f23 [(.pointer a_0),(.int .i64 n_1),(.int .i64 sym_2)] =E1 a_0 n_1 sym_2:=by kernel_rfl
noncomputable def En (g_0:(Option Addr×Nat×Nat)×(Option Addr×Nat×Nat)×(Option Addr×Nat×Nat)×ByteArray×(Option Addr×Nat×Nat)×Unit):T:=
 T.new (.cells #[(.slice g_0.1.1 g_0.1.2.1 g_0.1.2.2),(.slice g_0.2.1.1 g_0.2.1.2.1 g_0.2.1.2.2),(.slice g_0.2.2.1.1 g_0.2.2.1.2.1 g_0.2.2.1.2.2),(.string g_0.2.2.2.1),(.slice g_0.2.2.2.2.1.1 g_0.2.2.2.2.1.2.1 g_0.2.2.2.2.1.2.2)] 66 (0,0)) fun r1=>
 T.new (.cells #[(.slice none 0 0),(.slice none 0 0),(.slice none 0 0),(.slice none 0 0),(.slice none 0 0),(.slice none 0 0)] 32 (0,0)) fun r2=>
 T.load .slice ⟨r1,0,none⟩ fun (t3:Option Addr×Nat×Nat)=>
 T.load .slice ⟨r1,1,none⟩ fun (t4:Option Addr×Nat×Nat)=>
 T.load .slice ⟨r1,2,none⟩ fun (t5:Option Addr×Nat×Nat)=>
 T.load .string ⟨r1,3,none⟩ fun (t6:ByteArray)=>
 T.load .slice ⟨r1,4,none⟩ fun (t7:Option Addr×Nat×Nat)=>
 T.call 38 [(.agg #[(.slice t3.1 t3.2.1 t3.2.2),(.slice t4.1 t4.2.1 t4.2.2),(.slice t5.1 t5.2.1 t5.2.2),(.string t6),(.slice t7.1 t7.2.1 t7.2.2)])] (.one (.atom .bool)) fun (t8:Bool)=>
 cond (!t8)
 (T.store ⟨r2,0,none⟩ (.slice none 0 0) <|
 T.store ⟨r2,1,none⟩ (.slice none 0 0) <|
 T.store ⟨r2,2,none⟩ (.slice none 0 0) <|
 T.store ⟨r2,3,none⟩ (.slice none 0 0) <|
 T.store ⟨r2,4,none⟩ (.slice none 0 0) <|
 T.store ⟨r2,5,none⟩ (.slice none 0 0) <|
 T.load .slice ⟨r2,0,none⟩ fun (res9:Option Addr×Nat×Nat)=>
 T.load .slice ⟨r2,1,none⟩ fun (res10:Option Addr×Nat×Nat)=>
 T.load .slice ⟨r2,2,none⟩ fun (res11:Option Addr×Nat×Nat)=>
 T.load .slice ⟨r2,3,none⟩ fun (res12:Option Addr×Nat×Nat)=>
 T.load .slice ⟨r2,4,none⟩ fun (res13:Option Addr×Nat×Nat)=>
 T.load .slice ⟨r2,5,none⟩ fun (res14:Option Addr×Nat×Nat)=>
 T.ret (.tuple #[(.agg #[(.slice res9.1 res9.2.1 res9.2.2),(.slice res10.1 res10.2.1 res10.2.2),(.slice res11.1 res11.2.1 res11.2.2),(.slice res12.1 res12.2.1 res12.2.2),(.slice res13.1 res13.2.1 res13.2.2),(.slice res14.1 res14.2.1 res14.2.2)]),(.int .i64 (1:Int)),(.string {data:= #[] })]))
 (T.new (.cells #[(.string {data:= #[36,101,110,100] })] 9 (0,0)) fun r15=>
 T.new (.cells #[(.int .i64 (0:Int))] 3 (0,0)) fun r16=>
 T.new (.cells #[(.int .i64 (0:Int))] 3 (0,0)) fun r17=>
 T.new (.cells #[(.string {data:= #[] })] 9 (0,0)) fun r18=>
 T.new (.cells #[(.slice none 0 0),(.slice none 0 0),(.slice none 0 0),(.slice none 0 0),(.slice none 0 0),(.slice none 0 0)] 32 (0,0)) fun r19=>
 T.store ⟨r19,0,none⟩ (.slice (some ⟨r15,0,none⟩) 1 1) <|
 T.store ⟨r19,1,none⟩ (.slice none 0 0) <|
 T.store ⟨r19,2,none⟩ (.slice none 0 0) <|
 T.store ⟨r19,3,none⟩ (.slice (some ⟨r16,0,none⟩) 1 1) <|
 T.store ⟨r19,4,none⟩ (.slice (some ⟨r17,0,none⟩) 1 1) <|
 T.store ⟨r19,5,none⟩ (.slice (some ⟨r18,0,none⟩) 1 1) <|
 T.block 0 [(.atom (.int .i64))]
 (T.loop [(.atom (.int .i64))] [(.int .i64 (0:Int))] fun (z21:Int×Unit)=>
 T.load .slice ⟨r1,4,none⟩ fun (t22:Option Addr×Nat×Nat)=>
 cond (decide (z21.1< ((t22.2.1:Nat):Int)))
 (T.load .slice ⟨r19,1,none⟩ fun (t23:Option Addr×Nat×Nat)=>
 T.load .slice ⟨r1,4,none⟩ fun (t24:Option Addr×Nat×Nat)=>
 AP t24.1 fun a25=>
 chk (0≤z21.1∧z21.1< (t24.2.1:Nat)) <|
 T.load .string (a25.add (Int.toNat z21.1 * 4)) fun (t26:ByteArray)=>
 T.call 39 [(.slice t23.1 t23.2.1 t23.2.2),(.string t26)] (.one (.atom (.int .i64))) fun (t27:Int)=>
 T.join []
 (cond (decide (t27< (0:Int)))
 (T.load .slice ⟨r19,1,none⟩ fun (t29:Option Addr×Nat×Nat)=>
 T.load .slice ⟨r1,4,none⟩ fun (t30:Option Addr×Nat×Nat)=>
 AP t30.1 fun a31=>
 chk (0≤z21.1∧z21.1< (t30.2.1:Nat)) <|
 T.load .string (a31.add (Int.toNat z21.1 * 4)) fun (t32:ByteArray)=>
 T.new (.cells #[(.string t32)] 9 (0,0)) fun r33=>
 T.still ⟨r19,1,none⟩ (.slice t29.1 t29.2.1 t29.2.2) <|
 T.sem (Builtin.append_ #[28,28] 28 #[(.slice t29.1 t29.2.1 t29.2.2),(.slice (some ⟨r33,0,none⟩) 1 1)]) (.one (.atom .slice)) fun (t34:Option Addr×Nat×Nat)=>
 T.store ⟨r19,1,none⟩ (.slice t34.1 t34.2.1 t34.2.2) <|
 T.out [])
 (T.out [])) fun (z28:Unit)=>
 T.load .slice ⟨r19,5,none⟩ fun (t35:Option Addr×Nat×Nat)=>
 T.load .slice ⟨r1,4,none⟩ fun (t36:Option Addr×Nat×Nat)=>
 AP t36.1 fun a37=>
 chk (0≤z21.1∧z21.1< (t36.2.1:Nat)) <|
 T.load .string ((a37.add (Int.toNat z21.1 * 4)).add 3) fun (t38:ByteArray)=>
 T.new (.cells #[(.string t38)] 9 (0,0)) fun r39=>
 T.still ⟨r19,5,none⟩ (.slice t35.1 t35.2.1 t35.2.2) <|
 T.sem (Builtin.append_ #[28,28] 28 #[(.slice t35.1 t35.2.1 t35.2.2),(.slice (some ⟨r39,0,none⟩) 1 1)]) (.one (.atom .slice)) fun (t40:Option Addr×Nat×Nat)=>
 T.store ⟨r19,5,none⟩ (.slice t40.1 t40.2.1 t40.2.2) <|
 T.out [(.int .i64 (IntKind.wrap .i64 (z21.1+(1:Int))))])
 (T.brk 0 [(.int .i64 z21.1)])) fun (z20:Int×Unit)=>
 T.block 2 [(.atom (.int .i64)),(.atom .string),(.atom (.int .i64))]
 (T.loop [(.atom (.int .i64)),(.atom .string),(.atom (.int .i64))] [(.int .i64 (0:Int)),(.string {data:= #[] }),(.int .i64 (0:Int))] fun (z42:Int×ByteArray×Int×Unit)=>
 T.load .slice ⟨r1,0,none⟩ fun (t43:Option Addr×Nat×Nat)=>
 cond (decide (z42.1< ((t43.2.1:Nat):Int)))
 (T.load .slice ⟨r19,1,none⟩ fun (t44:Option Addr×Nat×Nat)=>
 T.load .slice ⟨r1,0,none⟩ fun (t45:Option Addr×Nat×Nat)=>
 AP t45.1 fun a46=>
 chk (0≤z42.1∧z42.1< (t45.2.1:Nat)) <|
 T.load .string (a46.add (Int.toNat z42.1 * 4)) fun (t47:ByteArray)=>
 T.call 39 [(.slice t44.1 t44.2.1 t44.2.2),(.string t47)] (.one (.atom (.int .i64))) fun (t48:Int)=>
 cond (decide (t48≥ (0:Int)))
 (T.load .slice ⟨r1,0,none⟩ fun (t49:Option Addr×Nat×Nat)=>
 AP t49.1 fun a50=>
 chk (0≤z42.1∧z42.1< (t49.2.1:Nat)) <|
 T.load .string (a50.add (Int.toNat z42.1 * 4)) fun (t51:ByteArray)=>
 T.store ⟨r2,0,none⟩ (.slice none 0 0) <|
 T.store ⟨r2,1,none⟩ (.slice none 0 0) <|
 T.store ⟨r2,2,none⟩ (.slice none 0 0) <|
 T.store ⟨r2,3,none⟩ (.slice none 0 0) <|
 T.store ⟨r2,4,none⟩ (.slice none 0 0) <|
 T.store ⟨r2,5,none⟩ (.slice none 0 0) <|
 T.still (a50.add (Int.toNat z42.1 * 4)) (.string t51) <|
 T.still ⟨r1,0,none⟩ (.slice t49.1 t49.2.1 t49.2.2) <|
 T.load .slice ⟨r2,0,none⟩ fun (res52:Option Addr×Nat×Nat)=>
 T.load .slice ⟨r2,1,none⟩ fun (res53:Option Addr×Nat×Nat)=>
 T.load .slice ⟨r2,2,none⟩ fun (res54:Option Addr×Nat×Nat)=>
 T.load .slice ⟨r2,3,none⟩ fun (res55:Option Addr×Nat×Nat)=>
 T.load .slice ⟨r2,4,none⟩ fun (res56:Option Addr×Nat×Nat)=>
 T.load .slice ⟨r2,5,none⟩ fun (res57:Option Addr×Nat×Nat)=>
 T.ret (.tuple #[(.agg #[(.slice res52.1 res52.2.1 res52.2.2),(.slice res53.1 res53.2.1 res53.2.2),(.slice res54.1 res54.2.1 res54.2.2),(.slice res55.1 res55.2.1 res55.2.2),(.slice res56.1 res56.2.1 res56.2.2),(.slice res57.1 res57.2.1 res57.2.2)]),(.int .i64 (15:Int)),(.string t51)]))
 (T.load .slice ⟨r19,0,none⟩ fun (t58:Option Addr×Nat×Nat)=>
 T.load .slice ⟨r1,0,none⟩ fun (t59:Option Addr×Nat×Nat)=>
 AP t59.1 fun a60=>
 chk (0≤z42.1∧z42.1< (t59.2.1:Nat)) <|
 T.load .string (a60.add (Int.toNat z42.1 * 4)) fun (t61:ByteArray)=>
 T.new (.cells #[(.string t61)] 9 (0,0)) fun r62=>
 T.still ⟨r19,0,none⟩ (.slice t58.1 t58.2.1 t58.2.2) <|
 T.sem (Builtin.append_ #[28,28] 28 #[(.slice t58.1 t58.2.1 t58.2.2),(.slice (some ⟨r62,0,none⟩) 1 1)]) (.one (.atom .slice)) fun (t63:Option Addr×Nat×Nat)=>
 T.store ⟨r19,0,none⟩ (.slice t63.1 t63.2.1 t63.2.2) <|
 T.load .slice ⟨r19,3,none⟩ fun (t64:Option Addr×Nat×Nat)=>
 T.load .slice ⟨r1,0,none⟩ fun (t65:Option Addr×Nat×Nat)=>
 T.load .slice ⟨r1,1,none⟩ fun (t66:Option Addr×Nat×Nat)=>
 T.load .slice ⟨r1,2,none⟩ fun (t67:Option Addr×Nat×Nat)=>
 T.load .string ⟨r1,3,none⟩ fun (t68:ByteArray)=>
 T.load .slice ⟨r1,4,none⟩ fun (t69:Option Addr×Nat×Nat)=>
 T.load .slice ⟨r1,0,none⟩ fun (t70:Option Addr×Nat×Nat)=>
 AP t70.1 fun a71=>
 chk (0≤z42.1∧z42.1< (t70.2.1:Nat)) <|
 T.load .string (a71.add (Int.toNat z42.1 * 4)) fun (t72:ByteArray)=>
 T.call 40 [(.agg #[(.slice t65.1 t65.2.1 t65.2.2),(.slice t66.1 t66.2.1 t66.2.2),(.slice t67.1 t67.2.1 t67.2.2),(.string t68),(.slice t69.1 t69.2.1 t69.2.2)]),(.string t72)] (.one (.atom (.int .i64))) fun (t73:Int)=>
 T.still ⟨r19,3,none⟩ (.slice t64.1 t64.2.1 t64.2.2) <|
 T.new (.cells #[(.int .i64 t73)] 3 (0,0)) fun r74=>
 T.still ⟨r19,3,none⟩ (.slice t64.1 t64.2.1 t64.2.2) <|
 T.sem (Builtin.append_ #[30,30] 30 #[(.slice t64.1 t64.2.1 t64.2.2),(.slice (some ⟨r74,0,none⟩) 1 1)]) (.one (.atom .slice)) fun (t75:Option Addr×Nat×Nat)=>
 T.store ⟨r19,3,none⟩ (.slice t75.1 t75.2.1 t75.2.2) <|
 T.out [(.int .i64 (IntKind.wrap .i64 (z42.1+(1:Int)))),(.string z42.2.1),(.int .i64 z42.2.2.1)]))
 (T.brk 2 [(.int .i64 z42.1),(.string z42.2.1),(.int .i64 z42.2.2.1)])) fun (z41:Int×ByteArray×Int×Unit)=>
 T.block 4 [(.atom (.int .i64))]
 (T.loop [(.atom (.int .i64))] [(.int .i64 (0:Int))] fun (z77:Int×Unit)=>
 T.load .slice ⟨r1,2,none⟩ fun (t78:Option Addr×Nat×Nat)=>
 cond (decide (z77.1< ((t78.2.1:Nat):Int)))
 (T.load .slice ⟨r19,4,none⟩ fun (t79:Option Addr×Nat×Nat)=>
 T.load .slice ⟨r1,2,none⟩ fun (t80:Option Addr×Nat×Nat)=>
 AP t80.1 fun a81=>
 chk (0≤z77.1∧z77.1< (t80.2.1:Nat)) <|
 T.load (.int .i64) (a81.add (Int.toNat z77.1 * 2)) fun (t82:Int)=>
 T.new (.cells #[(.int .i64 t82)] 3 (0,0)) fun r83=>
 T.still ⟨r19,4,none⟩ (.slice t79.1 t79.2.1 t79.2.2) <|
 T.sem (Builtin.append_ #[30,30] 30 #[(.slice t79.1 t79.2.1 t79.2.2),(.slice (some ⟨r83,0,none⟩) 1 1)]) (.one (.atom .slice)) fun (t84:Option Addr×Nat×Nat)=>
 T.store ⟨r19,4,none⟩ (.slice t84.1 t84.2.1 t84.2.2) <|
 T.out [(.int .i64 (IntKind.wrap .i64 (z77.1+(1:Int))))])
 (T.brk 4 [(.int .i64 z77.1)])) fun (z76:Int×Unit)=>
 T.load .slice ⟨r19,0,none⟩ fun (t85:Option Addr×Nat×Nat)=>
 T.load .slice ⟨r19,1,none⟩ fun (t86:Option Addr×Nat×Nat)=>
 T.load .slice ⟨r19,0,none⟩ fun (t87:Option Addr×Nat×Nat)=>
 T.load .slice ⟨r19,1,none⟩ fun (t88:Option Addr×Nat×Nat)=>
 T.load .slice ⟨r19,2,none⟩ fun (t89:Option Addr×Nat×Nat)=>
 T.load .slice ⟨r19,3,none⟩ fun (t90:Option Addr×Nat×Nat)=>
 T.load .slice ⟨r19,4,none⟩ fun (t91:Option Addr×Nat×Nat)=>
 T.load .slice ⟨r19,5,none⟩ fun (t92:Option Addr×Nat×Nat)=>
 T.load .string ⟨r1,3,none⟩ fun (t93:ByteArray)=>
 T.call 41 [(.agg #[(.slice t87.1 t87.2.1 t87.2.2),(.slice t88.1 t88.2.1 t88.2.2),(.slice t89.1 t89.2.1 t89.2.2),(.slice t90.1 t90.2.1 t90.2.2),(.slice t91.1 t91.2.1 t91.2.2),(.slice t92.1 t92.2.1 t92.2.2)]),(.string t93)] (.one (.atom (.int .i64))) fun (t94:Int)=>
 T.new (.cells #[(.int .i64 t94)] 3 (0,0)) fun r95=>
 T.new (.cells #[(.int .i64 (IntKind.wrap .i64 (((t85.2.1:Nat):Int) +((t86.2.1:Nat):Int)))),(.slice (some ⟨r95,0,none⟩) 1 1),(.int .i64 (0:Int))] 47 (0,0)) fun r96=>
 T.store ⟨r19,2,none⟩ (.slice (some ⟨r96,0,none⟩) 1 1) <|
 T.block 6 [(.atom (.int .i64)),(.atom .string),(.atom (.int .i64))]
 (T.loop [(.atom (.int .i64)),(.atom .string),(.atom (.int .i64))] [(.int .i64 (0:Int)),(.string z41.2.1),(.int .i64 z41.2.2.1)] fun (z98:Int×ByteArray×Int×Unit)=>
 T.load .slice ⟨r1,4,none⟩ fun (t99:Option Addr×Nat×Nat)=>
 cond (decide (z98.1< ((t99.2.1:Nat):Int)))
 (T.load .slice ⟨r1,4,none⟩ fun (t100:Option Addr×Nat×Nat)=>
 AP t100.1 fun a101=>
 chk (0≤z98.1∧z98.1< (t100.2.1:Nat)) <|
 T.load .string (a101.add (Int.toNat z98.1 * 4)) fun (t102:ByteArray)=>
 T.load .slice ((a101.add (Int.toNat z98.1 * 4)).add 1) fun (t103:Option Addr×Nat×Nat)=>
 T.load .string ((a101.add (Int.toNat z98.1 * 4)).add 2) fun (t104:ByteArray)=>
 T.load .string ((a101.add (Int.toNat z98.1 * 4)).add 3) fun (t105:ByteArray)=>
 T.new (.cells #[(.string {data:= #[] }),(.slice none 0 0),(.string {data:= #[] }),(.string {data:= #[] })] 90 (0,0)) fun r106=>
 T.store ⟨r106,0,none⟩ (.string t102) <|
 T.store ⟨r106,1,none⟩ (.slice t103.1 t103.2.1 t103.2.2) <|
 T.store ⟨r106,2,none⟩ (.string t104) <|
 T.store ⟨r106,3,none⟩ (.string t105) <|
 T.load .slice ⟨r19,0,none⟩ fun (t107:Option Addr×Nat×Nat)=>
 T.load .slice ⟨r19,1,none⟩ fun (t108:Option Addr×Nat×Nat)=>
 T.load .slice ⟨r19,2,none⟩ fun (t109:Option Addr×Nat×Nat)=>
 T.load .slice ⟨r19,3,none⟩ fun (t110:Option Addr×Nat×Nat)=>
 T.load .slice ⟨r19,4,none⟩ fun (t111:Option Addr×Nat×Nat)=>
 T.load .slice ⟨r19,5,none⟩ fun (t112:Option Addr×Nat×Nat)=>
 T.load .string ⟨r106,0,none⟩ fun (t113:ByteArray)=>
 T.call 41 [(.agg #[(.slice t107.1 t107.2.1 t107.2.2),(.slice t108.1 t108.2.1 t108.2.2),(.slice t109.1 t109.2.1 t109.2.2),(.slice t110.1 t110.2.1 t110.2.2),(.slice t111.1 t111.2.1 t111.2.2),(.slice t112.1 t112.2.1 t112.2.2)]),(.string t113)] (.one (.atom (.int .i64))) fun (t114:Int)=>
 T.new (.cells #[(.int .i64 (0:Int)),(.slice none 0 0),(.int .i64 (0:Int))] 47 (0,0)) fun r115=>
 T.store ⟨r115,0,none⟩ (.int .i64 t114) <|
 T.store ⟨r115,1,none⟩ (.slice none 0 0) <|
 T.store ⟨r115,2,none⟩ (.int .i64 (0:Int)) <|
 T.block 8 [(.atom (.int .i64)),(.atom .string),(.atom (.int .i64))]
 (T.loop [(.atom (.int .i64)),(.atom .string),(.atom (.int .i64))] [(.int .i64 (0:Int)),(.string z98.2.1),(.int .i64 z98.2.2.1)] fun (z117:Int×ByteArray×Int×Unit)=>
 T.load .slice ⟨r106,1,none⟩ fun (t118:Option Addr×Nat×Nat)=>
 cond (decide (z117.1< ((t118.2.1:Nat):Int)))
 (T.load .slice ⟨r19,0,none⟩ fun (t119:Option Addr×Nat×Nat)=>
 T.load .slice ⟨r19,1,none⟩ fun (t120:Option Addr×Nat×Nat)=>
 T.load .slice ⟨r19,2,none⟩ fun (t121:Option Addr×Nat×Nat)=>
 T.load .slice ⟨r19,3,none⟩ fun (t122:Option Addr×Nat×Nat)=>
 T.load .slice ⟨r19,4,none⟩ fun (t123:Option Addr×Nat×Nat)=>
 T.load .slice ⟨r19,5,none⟩ fun (t124:Option Addr×Nat×Nat)=>
 T.load .slice ⟨r106,1,none⟩ fun (t125:Option Addr×Nat×Nat)=>
 AP t125.1 fun a126=>
 chk (0≤z117.1∧z117.1< (t125.2.1:Nat)) <|
 T.load .string (a126.add (Int.toNat z117.1 * 1)) fun (t127:ByteArray)=>
 T.call 41 [(.agg #[(.slice t119.1 t119.2.1 t119.2.2),(.slice t120.1 t120.2.1 t120.2.2),(.slice t121.1 t121.2.1 t121.2.2),(.slice t122.1 t122.2.1 t122.2.2),(.slice t123.1 t123.2.1 t123.2.2),(.slice t124.1 t124.2.1 t124.2.2)]),(.string t127)] (.one (.atom (.int .i64))) fun (t128:Int)=>
 cond (decide (t128< (0:Int)))
 (T.load .slice ⟨r106,1,none⟩ fun (t129:Option Addr×Nat×Nat)=>
 AP t129.1 fun a130=>
 chk (0≤z117.1∧z117.1< (t129.2.1:Nat)) <|
 T.load .string (a130.add (Int.toNat z117.1 * 1)) fun (t131:ByteArray)=>
 T.store ⟨r2,0,none⟩ (.slice none 0 0) <|
 T.store ⟨r2,1,none⟩ (.slice none 0 0) <|
 T.store ⟨r2,2,none⟩ (.slice none 0 0) <|
 T.store ⟨r2,3,none⟩ (.slice none 0 0) <|
 T.store ⟨r2,4,none⟩ (.slice none 0 0) <|
 T.store ⟨r2,5,none⟩ (.slice none 0 0) <|
 T.still (a130.add (Int.toNat z117.1 * 1)) (.string t131) <|
 T.still ⟨r106,1,none⟩ (.slice t129.1 t129.2.1 t129.2.2) <|
 T.load .slice ⟨r2,0,none⟩ fun (res132:Option Addr×Nat×Nat)=>
 T.load .slice ⟨r2,1,none⟩ fun (res133:Option Addr×Nat×Nat)=>
 T.load .slice ⟨r2,2,none⟩ fun (res134:Option Addr×Nat×Nat)=>
 T.load .slice ⟨r2,3,none⟩ fun (res135:Option Addr×Nat×Nat)=>
 T.load .slice ⟨r2,4,none⟩ fun (res136:Option Addr×Nat×Nat)=>
 T.load .slice ⟨r2,5,none⟩ fun (res137:Option Addr×Nat×Nat)=>
 T.ret (.tuple #[(.agg #[(.slice res132.1 res132.2.1 res132.2.2),(.slice res133.1 res133.2.1 res133.2.2),(.slice res134.1 res134.2.1 res134.2.2),(.slice res135.1 res135.2.1 res135.2.2),(.slice res136.1 res136.2.1 res136.2.2),(.slice res137.1 res137.2.1 res137.2.2)]),(.int .i64 (16:Int)),(.string t131)]))
 (T.load .slice ⟨r115,1,none⟩ fun (t138:Option Addr×Nat×Nat)=>
 T.new (.cells #[(.int .i64 t128)] 3 (0,0)) fun r139=>
 T.sem (Builtin.append_ #[30,30] 30 #[(.slice t138.1 t138.2.1 t138.2.2),(.slice (some ⟨r139,0,none⟩) 1 1)]) (.one (.atom .slice)) fun (t140:Option Addr×Nat×Nat)=>
 T.store ⟨r115,1,none⟩ (.slice t140.1 t140.2.1 t140.2.2) <|
 T.load .slice ⟨r19,0,none⟩ fun (t141:Option Addr×Nat×Nat)=>
 T.join []
 (cond (decide (t128< ((t141.2.1:Nat):Int)))
 (T.load .slice ⟨r19,3,none⟩ fun (t143:Option Addr×Nat×Nat)=>
 AP t143.1 fun a144=>
 chk (0≤t128∧t128< (t143.2.1:Nat)) <|
 T.load (.int .i64) (a144.add (Int.toNat t128 * 1)) fun (t145:Int)=>
 T.store ⟨r115,2,none⟩ (.int .i64 t145) <|
 T.out [])
 (T.out [])) fun (z142:Unit)=>
 T.out [(.int .i64 (IntKind.wrap .i64 (z117.1+(1:Int)))),(.string z117.2.1),(.int .i64 z117.2.2.1)]))
 (T.brk 8 [(.int .i64 z117.1),(.string z117.2.1),(.int .i64 z117.2.2.1)])) fun (z116:Int×ByteArray×Int×Unit)=>
 T.load .string ⟨r106,2,none⟩ fun (t146:ByteArray)=>
 T.join [(.atom .string),(.atom (.int .i64))]
 (cond (!(ByteArray.toList t146==ByteArray.toList {data:= #[] }))
 (T.load .slice ⟨r1,0,none⟩ fun (t148:Option Addr×Nat×Nat)=>
 T.load .slice ⟨r1,1,none⟩ fun (t149:Option Addr×Nat×Nat)=>
 T.load .slice ⟨r1,2,none⟩ fun (t150:Option Addr×Nat×Nat)=>
 T.load .string ⟨r1,3,none⟩ fun (t151:ByteArray)=>
 T.load .slice ⟨r1,4,none⟩ fun (t152:Option Addr×Nat×Nat)=>
 T.load .string ⟨r106,2,none⟩ fun (t153:ByteArray)=>
 T.call 40 [(.agg #[(.slice t148.1 t148.2.1 t148.2.2),(.slice t149.1 t149.2.1 t149.2.2),(.slice t150.1 t150.2.1 t150.2.2),(.string t151),(.slice t152.1 t152.2.1 t152.2.2)]),(.string t153)] (.one (.atom (.int .i64))) fun (t154:Int)=>
 T.store ⟨r115,2,none⟩ (.int .i64 t154) <|
 T.load (.int .i64) ⟨r115,2,none⟩ fun (t155:Int)=>
 cond (t155==(0:Int))
 (T.load .string ⟨r106,2,none⟩ fun (t156:ByteArray)=>
 T.store ⟨r2,0,none⟩ (.slice none 0 0) <|
 T.store ⟨r2,1,none⟩ (.slice none 0 0) <|
 T.store ⟨r2,2,none⟩ (.slice none 0 0) <|
 T.store ⟨r2,3,none⟩ (.slice none 0 0) <|
 T.store ⟨r2,4,none⟩ (.slice none 0 0) <|
 T.store ⟨r2,5,none⟩ (.slice none 0 0) <|
 T.still ⟨r106,2,none⟩ (.string t156) <|
 T.load .slice ⟨r2,0,none⟩ fun (res157:Option Addr×Nat×Nat)=>
 T.load .slice ⟨r2,1,none⟩ fun (res158:Option Addr×Nat×Nat)=>
 T.load .slice ⟨r2,2,none⟩ fun (res159:Option Addr×Nat×Nat)=>
 T.load .slice ⟨r2,3,none⟩ fun (res160:Option Addr×Nat×Nat)=>
 T.load .slice ⟨r2,4,none⟩ fun (res161:Option Addr×Nat×Nat)=>
 T.load .slice ⟨r2,5,none⟩ fun (res162:Option Addr×Nat×Nat)=>
 T.ret (.tuple #[(.agg #[(.slice res157.1 res157.2.1 res157.2.2),(.slice res158.1 res158.2.1 res158.2.2),(.slice res159.1 res159.2.1 res159.2.2),(.slice res160.1 res160.2.1 res160.2.2),(.slice res161.1 res161.2.1 res161.2.2),(.slice res162.1 res162.2.1 res162.2.2)]),(.int .i64 (16:Int)),(.string t156)]))
 (T.out [(.string z116.2.1),(.int .i64 z116.2.2.1)]))
 (T.out [(.string z116.2.1),(.int .i64 z116.2.2.1)])) fun (z147:ByteArray×Int×Unit)=>
 T.load .slice ⟨r19,2,none⟩ fun (t163:Option Addr×Nat×Nat)=>
 T.load (.int .i64) ⟨r115,0,none⟩ fun (t164:Int)=>
 T.load .slice ⟨r115,1,none⟩ fun (t165:Option Addr×Nat×Nat)=>
 T.load (.int .i64) ⟨r115,2,none⟩ fun (t166:Int)=>
 T.new (.cells #[(.int .i64 t164),(.slice t165.1 t165.2.1 t165.2.2),(.int .i64 t166)] 47 (0,0)) fun r167=>
 T.sem (Builtin.append_ #[29,29] 29 #[(.slice t163.1 t163.2.1 t163.2.2),(.slice (some ⟨r167,0,none⟩) 1 1)]) (.one (.atom .slice)) fun (t168:Option Addr×Nat×Nat)=>
 T.store ⟨r19,2,none⟩ (.slice t168.1 t168.2.1 t168.2.2) <|
 T.out [(.int .i64 (IntKind.wrap .i64 (z98.1+(1:Int)))),(.string z147.1),(.int .i64 z147.2.1)])
 (T.brk 6 [(.int .i64 z98.1),(.string z98.2.1),(.int .i64 z98.2.2.1)])) fun (z97:Int×ByteArray×Int×Unit)=>
 T.load .slice ⟨r19,1,none⟩ fun (t169:Option Addr×Nat×Nat)=>
 T.load .string ⟨r1,3,none⟩ fun (t170:ByteArray)=>
 T.call 39 [(.slice t169.1 t169.2.1 t169.2.2),(.string t170)] (.one (.atom (.int .i64))) fun (t171:Int)=>
 cond (decide (t171< (0:Int)))
 (T.load .string ⟨r1,3,none⟩ fun (t172:ByteArray)=>
 T.store ⟨r2,0,none⟩ (.slice none 0 0) <|
 T.store ⟨r2,1,none⟩ (.slice none 0 0) <|
 T.store ⟨r2,2,none⟩ (.slice none 0 0) <|
 T.store ⟨r2,3,none⟩ (.slice none 0 0) <|
 T.store ⟨r2,4,none⟩ (.slice none 0 0) <|
 T.store ⟨r2,5,none⟩ (.slice none 0 0) <|
 T.still ⟨r1,3,none⟩ (.string t172) <|
 T.load .slice ⟨r2,0,none⟩ fun (res173:Option Addr×Nat×Nat)=>
 T.load .slice ⟨r2,1,none⟩ fun (res174:Option Addr×Nat×Nat)=>
 T.load .slice ⟨r2,2,none⟩ fun (res175:Option Addr×Nat×Nat)=>
 T.load .slice ⟨r2,3,none⟩ fun (res176:Option Addr×Nat×Nat)=>
 T.load .slice ⟨r2,4,none⟩ fun (res177:Option Addr×Nat×Nat)=>
 T.load .slice ⟨r2,5,none⟩ fun (res178:Option Addr×Nat×Nat)=>
 T.ret (.tuple #[(.agg #[(.slice res173.1 res173.2.1 res173.2.2),(.slice res174.1 res174.2.1 res174.2.2),(.slice res175.1 res175.2.1 res175.2.2),(.slice res176.1 res176.2.1 res176.2.2),(.slice res177.1 res177.2.1 res177.2.2),(.slice res178.1 res178.2.1 res178.2.2)]),(.int .i64 (16:Int)),(.string t172)]))
 (T.load .slice ⟨r19,0,none⟩ fun (t179:Option Addr×Nat×Nat)=>
 T.load .slice ⟨r19,1,none⟩ fun (t180:Option Addr×Nat×Nat)=>
 T.load .slice ⟨r19,2,none⟩ fun (t181:Option Addr×Nat×Nat)=>
 T.load .slice ⟨r19,3,none⟩ fun (t182:Option Addr×Nat×Nat)=>
 T.load .slice ⟨r19,4,none⟩ fun (t183:Option Addr×Nat×Nat)=>
 T.load .slice ⟨r19,5,none⟩ fun (t184:Option Addr×Nat×Nat)=>
 T.store ⟨r2,0,none⟩ (.slice t179.1 t179.2.1 t179.2.2) <|
 T.store ⟨r2,1,none⟩ (.slice t180.1 t180.2.1 t180.2.2) <|
 T.store ⟨r2,2,none⟩ (.slice t181.1 t181.2.1 t181.2.2) <|
 T.store ⟨r2,3,none⟩ (.slice t182.1 t182.2.1 t182.2.2) <|
 T.store ⟨r2,4,none⟩ (.slice t183.1 t183.2.1 t183.2.2) <|
 T.store ⟨r2,5,none⟩ (.slice t184.1 t184.2.1 t184.2.2) <|
 T.load .slice ⟨r2,0,none⟩ fun (res185:Option Addr×Nat×Nat)=>
 T.load .slice ⟨r2,1,none⟩ fun (res186:Option Addr×Nat×Nat)=>
 T.load .slice ⟨r2,2,none⟩ fun (res187:Option Addr×Nat×Nat)=>
 T.load .slice ⟨r2,3,none⟩ fun (res188:Option Addr×Nat×Nat)=>
 T.load .slice ⟨r2,4,none⟩ fun (res189:Option Addr×Nat×Nat)=>
 T.load .slice ⟨r2,5,none⟩ fun (res190:Option Addr×Nat×Nat)=>
 T.ret (.tuple #[(.agg #[(.slice res185.1 res185.2.1 res185.2.2),(.slice res186.1 res186.2.1 res186.2.2),(.slice res187.1 res187.2.1 res187.2.2),(.slice res188.1 res188.2.1 res188.2.2),(.slice res189.1 res189.2.1 res189.2.2),(.slice res190.1 res190.2.1 res190.2.2)]),(.int .i64 (0:Int)),(.string {data:= #[] })])))
theorem Gb (g_0:(Option Addr×Nat×Nat)×(Option Addr×Nat×Nat)×(Option Addr×Nat×Nat)×ByteArray×(Option Addr×Nat×Nat)×Unit):Am Tryd.prog Tryd.f24 [(.agg #[(.slice g_0.1.1 g_0.1.2.1 g_0.1.2.2),(.slice g_0.2.1.1 g_0.2.1.2.1 g_0.2.1.2.2),(.slice g_0.2.2.1.1 g_0.2.2.1.2.1 g_0.2.2.1.2.2),(.string g_0.2.2.2.1),(.slice g_0.2.2.2.2.1.1 g_0.2.2.2.2.1.2.1 g_0.2.2.2.2.1.2.2)])] =En g_0:=by kernel_rfl
noncomputable def CU (s_0:Int×Int×(Option Addr×Nat×Nat)×(Option Addr×Nat×Nat)×(Option Addr×Nat×Nat)×(Option Addr×Nat×Nat)×(Option Addr×Nat×Nat)×Unit):T:=
 T.new (.cells #[(.int .u8 s_0.1),(.int .u8 s_0.2.1),(.slice s_0.2.2.1.1 s_0.2.2.1.2.1 s_0.2.2.1.2.2),(.slice s_0.2.2.2.1.1 s_0.2.2.2.1.2.1 s_0.2.2.2.1.2.2),(.slice s_0.2.2.2.2.1.1 s_0.2.2.2.2.1.2.1 s_0.2.2.2.2.1.2.2),(.slice s_0.2.2.2.2.2.1.1 s_0.2.2.2.2.2.1.2.1 s_0.2.2.2.2.2.1.2.2),(.slice s_0.2.2.2.2.2.2.1.1 s_0.2.2.2.2.2.2.1.2.1 s_0.2.2.2.2.2.2.1.2.2)] 25 (0,0)) fun r1=>
 T.new (.cells #[(.slice none 0 0),(.slice none 0 0),(.slice none 0 0),(.string {data:= #[] }),(.slice none 0 0)] 66 (0,0)) fun r2=>
 T.load (.int .u8) ⟨r1,0,none⟩ fun (t3:Int)=>
 chk ((5:Int) ≠ 0) <|
 T.load (.int .u8) ⟨r1,1,none⟩ fun (t4:Int)=>
 chk ((4:Int) ≠ 0) <|
 T.new (.cells #[(.slice none 0 0),(.slice none 0 0),(.slice none 0 0),(.string {data:= #[] }),(.slice none 0 0)] 66 (0,0)) fun r5=>
 T.store ⟨r5,0,none⟩ (.slice none 0 0) <|
 T.store ⟨r5,1,none⟩ (.slice none 0 0) <|
 T.store ⟨r5,2,none⟩ (.slice none 0 0) <|
 T.store ⟨r5,3,none⟩ (.string {data:= #[83] }) <|
 T.store ⟨r5,4,none⟩ (.slice none 0 0) <|
 T.block 0 [(.atom (.int .i64))]
 (T.loop [(.atom (.int .i64))] [(.int .i64 (0:Int))] fun (z7:Int×Unit)=>
 T.load .slice ⟨r1,5,none⟩ fun (t8:Option Addr×Nat×Nat)=>
 cond (decide (z7.1< ((t8.2.1:Nat):Int)))
 (T.load .slice ⟨r5,2,none⟩ fun (t9:Option Addr×Nat×Nat)=>
 T.load .slice ⟨r1,5,none⟩ fun (t10:Option Addr×Nat×Nat)=>
 AP t10.1 fun a11=>
 chk (0≤z7.1∧z7.1< (t10.2.1:Nat)) <|
 T.load (.int .u8) (a11.add (Int.toNat z7.1 * 1)) fun (t12:Int)=>
 chk ((3:Int) ≠ 0) <|
 chk (0≤z7.1∧z7.1≤(IntKind.wrap .i64 (z7.1+(1:Int)))∧(IntKind.wrap .i64 (z7.1+(1:Int))) ≤(ByteArray.size {data:= #[112,113,114,115,116] } :Nat)) <|
 T.new (.cells #[(.string (ByteArray.extract {data:= #[112,113,114,115,116] } (Int.toNat z7.1) (Int.toNat (IntKind.wrap .i64 (z7.1+(1:Int))))))] 9 (0,0)) fun r13=>
 T.still (a11.add (Int.toNat z7.1 * 1)) (.int .u8 t12) <|
 T.still ⟨r1,5,none⟩ (.slice t10.1 t10.2.1 t10.2.2) <|
 T.still ⟨r5,2,none⟩ (.slice t9.1 t9.2.1 t9.2.2) <|
 T.new (.cells #[(.int .i64 (IntKind.wrap .i64 ((IntKind.wrap .i64 (Int.tmod t12 (3:Int))) +(1:Int)))),(.slice (some ⟨r13,0,none⟩) 1 1)] 97 (0,0)) fun r14=>
 T.still ⟨r5,2,none⟩ (.slice t9.1 t9.2.1 t9.2.2) <|
 T.sem (Builtin.append_ #[63,63] 63 #[(.slice t9.1 t9.2.1 t9.2.2),(.slice (some ⟨r14,0,none⟩) 1 1)]) (.one (.atom .slice)) fun (t15:Option Addr×Nat×Nat)=>
 T.store ⟨r5,2,none⟩ (.slice t15.1 t15.2.1 t15.2.2) <|
 T.out [(.int .i64 (IntKind.wrap .i64 (z7.1+(1:Int))))])
 (T.brk 0 [(.int .i64 z7.1)])) fun (z6:Int×Unit)=>
 T.block 2 [(.atom (.int .i64))]
 (T.loop [(.atom (.int .i64))] [(.int .i64 (0:Int))] fun (z17:Int×Unit)=>
 cond (decide (z17.1< (IntKind.wrap .i64 ((IntKind.wrap .i64 (Int.tmod t3 (5:Int))) +(1:Int)))))
 (chk (0≤z17.1∧z17.1≤(IntKind.wrap .i64 (z17.1+(1:Int)))∧(IntKind.wrap .i64 (z17.1+(1:Int))) ≤(ByteArray.size {data:= #[97,98,99,100,101] } :Nat)) <|
 T.load .slice ⟨r5,0,none⟩ fun (t18:Option Addr×Nat×Nat)=>
 T.new (.cells #[(.string (ByteArray.extract {data:= #[97,98,99,100,101] } (Int.toNat z17.1) (Int.toNat (IntKind.wrap .i64 (z17.1+(1:Int)))))),(.string (ByteArray.extract {data:= #[97,98,99,100,101] } (Int.toNat z17.1) (Int.toNat (IntKind.wrap .i64 (z17.1+(1:Int)))))),(.string {data:= #[] }),(.bool false)] 94 (0,0)) fun r19=>
 T.sem (Builtin.append_ #[61,61] 61 #[(.slice t18.1 t18.2.1 t18.2.2),(.slice (some ⟨r19,0,none⟩) 1 1)]) (.one (.atom .slice)) fun (t20:Option Addr×Nat×Nat)=>
 T.store ⟨r5,0,none⟩ (.slice t20.1 t20.2.1 t20.2.2) <|
 T.load .slice ⟨r1,6,none⟩ fun (t21:Option Addr×Nat×Nat)=>
 T.join []
 (cond (decide (z17.1< ((t21.2.1:Nat):Int)))
 (T.load .slice ⟨r1,6,none⟩ fun (t23:Option Addr×Nat×Nat)=>
 AP t23.1 fun a24=>
 chk (0≤z17.1∧z17.1< (t23.2.1:Nat)) <|
 T.load (.int .u8) (a24.add (Int.toNat z17.1 * 1)) fun (t25:Int)=>
 T.load .slice ⟨r5,2,none⟩ fun (t26:Option Addr×Nat×Nat)=>
 chk ((IntKind.wrap .i64 (((t26.2.1:Nat):Int) +(1:Int))) ≠ 0) <|
 T.join []
 (cond (decide ((Int.tmod (IntKind.wrap .i64 t25) (IntKind.wrap .i64 (((t26.2.1:Nat):Int) +(1:Int)))) >(0:Int)))
 (T.load .slice ⟨r5,2,none⟩ fun (t28:Option Addr×Nat×Nat)=>
 T.load .slice ⟨r5,2,none⟩ fun (t29:Option Addr×Nat×Nat)=>
 AP t29.1 fun a30=>
 chk (0≤(IntKind.wrap .i64 ((Int.tmod (IntKind.wrap .i64 t25) (IntKind.wrap .i64 (((t26.2.1:Nat):Int) +(1:Int)))) - (1:Int)))∧(IntKind.wrap .i64 ((Int.tmod (IntKind.wrap .i64 t25) (IntKind.wrap .i64 (((t26.2.1:Nat):Int) +(1:Int)))) - (1:Int))) < (t29.2.1:Nat)) <|
 T.load .slice ((a30.add (Int.toNat (IntKind.wrap .i64 ((Int.tmod (IntKind.wrap .i64 t25) (IntKind.wrap .i64 (((t26.2.1:Nat):Int) +(1:Int)))) - (1:Int))) * 2)).add 1) fun (t31:Option Addr×Nat×Nat)=>
 T.both
 (T.new (.cells #[] 9 (0,0)) fun r32=>
 T.still ((a30.add (Int.toNat (IntKind.wrap .i64 ((Int.tmod (IntKind.wrap .i64 t25) (IntKind.wrap .i64 (((t26.2.1:Nat):Int) +(1:Int)))) - (1:Int))) * 2)).add 1) (.slice t31.1 t31.2.1 t31.2.2) <|
 T.still ⟨r5,2,none⟩ (.slice t29.1 t29.2.1 t29.2.2) <|
 T.still ⟨r5,2,none⟩ (.slice t28.1 t28.2.1 t28.2.2) <|
 T.both
 (T.sem (Builtin.append_ #[28,28] 28 #[(.slice (some ⟨r32,0,none⟩) 0 0),(.slice t31.1 t31.2.1 t31.2.2)]) (.one (.atom .slice)) fun (t33:Option Addr×Nat×Nat)=>
 T.still ⟨r5,2,none⟩ (.slice t28.1 t28.2.1 t28.2.2) <|
 T.new (.cells #[(.string (ByteArray.extract {data:= #[97,98,99,100,101] } (Int.toNat z17.1) (Int.toNat (IntKind.wrap .i64 (z17.1+(1:Int))))))] 9 (0,0)) fun r34=>
 T.still ⟨r5,2,none⟩ (.slice t28.1 t28.2.1 t28.2.2) <|
 T.sem (Builtin.append_ #[28,28] 28 #[(.slice t33.1 t33.2.1 t33.2.2),(.slice (some ⟨r34,0,none⟩) 1 1)]) (.one (.atom .slice)) fun (t35:Option Addr×Nat×Nat)=>
 T.still ⟨r5,2,none⟩ (.slice t28.1 t28.2.1 t28.2.2) <|
 AP t28.1 fun a36=>
 chk (0≤(IntKind.wrap .i64 ((Int.tmod (IntKind.wrap .i64 t25) (IntKind.wrap .i64 (((t26.2.1:Nat):Int) +(1:Int)))) - (1:Int)))∧(IntKind.wrap .i64 ((Int.tmod (IntKind.wrap .i64 t25) (IntKind.wrap .i64 (((t26.2.1:Nat):Int) +(1:Int)))) - (1:Int))) < (t28.2.1:Nat)) <|
 T.store ((a36.add (Int.toNat (IntKind.wrap .i64 ((Int.tmod (IntKind.wrap .i64 t25) (IntKind.wrap .i64 (((t26.2.1:Nat):Int) +(1:Int)))) - (1:Int))) * 2)).add 1) (.slice t35.1 t35.2.1 t35.2.2) <|
 T.out [])
 (T.new (.cells #[(.string (ByteArray.extract {data:= #[97,98,99,100,101] } (Int.toNat z17.1) (Int.toNat (IntKind.wrap .i64 (z17.1+(1:Int))))))] 9 (0,0)) fun r37=>
 T.still ((a30.add (Int.toNat (IntKind.wrap .i64 ((Int.tmod (IntKind.wrap .i64 t25) (IntKind.wrap .i64 (((t26.2.1:Nat):Int) +(1:Int)))) - (1:Int))) * 2)).add 1) (.slice t31.1 t31.2.1 t31.2.2) <|
 T.still ⟨r5,2,none⟩ (.slice t29.1 t29.2.1 t29.2.2) <|
 T.still ⟨r5,2,none⟩ (.slice t28.1 t28.2.1 t28.2.2) <|
 T.sem (Builtin.append_ #[28,28] 28 #[(.slice (some ⟨r32,0,none⟩) 0 0),(.slice t31.1 t31.2.1 t31.2.2)]) (.one (.atom .slice)) fun (t38:Option Addr×Nat×Nat)=>
 T.still ⟨r5,2,none⟩ (.slice t28.1 t28.2.1 t28.2.2) <|
 T.sem (Builtin.append_ #[28,28] 28 #[(.slice t38.1 t38.2.1 t38.2.2),(.slice (some ⟨r37,0,none⟩) 1 1)]) (.one (.atom .slice)) fun (t39:Option Addr×Nat×Nat)=>
 T.still ⟨r5,2,none⟩ (.slice t28.1 t28.2.1 t28.2.2) <|
 AP t28.1 fun a40=>
 chk (0≤(IntKind.wrap .i64 ((Int.tmod (IntKind.wrap .i64 t25) (IntKind.wrap .i64 (((t26.2.1:Nat):Int) +(1:Int)))) - (1:Int)))∧(IntKind.wrap .i64 ((Int.tmod (IntKind.wrap .i64 t25) (IntKind.wrap .i64 (((t26.2.1:Nat):Int) +(1:Int)))) - (1:Int))) < (t28.2.1:Nat)) <|
 T.store ((a40.add (Int.toNat (IntKind.wrap .i64 ((Int.tmod (IntKind.wrap .i64 t25) (IntKind.wrap .i64 (((t26.2.1:Nat):Int) +(1:Int)))) - (1:Int))) * 2)).add 1) (.slice t39.1 t39.2.1 t39.2.2) <|
 T.out []))
 (T.new (.cells #[(.string (ByteArray.extract {data:= #[97,98,99,100,101] } (Int.toNat z17.1) (Int.toNat (IntKind.wrap .i64 (z17.1+(1:Int))))))] 9 (0,0)) fun r41=>
 T.still ((a30.add (Int.toNat (IntKind.wrap .i64 ((Int.tmod (IntKind.wrap .i64 t25) (IntKind.wrap .i64 (((t26.2.1:Nat):Int) +(1:Int)))) - (1:Int))) * 2)).add 1) (.slice t31.1 t31.2.1 t31.2.2) <|
 T.still ⟨r5,2,none⟩ (.slice t29.1 t29.2.1 t29.2.2) <|
 T.still ⟨r5,2,none⟩ (.slice t28.1 t28.2.1 t28.2.2) <|
 T.new (.cells #[] 9 (0,0)) fun r42=>
 T.still ((a30.add (Int.toNat (IntKind.wrap .i64 ((Int.tmod (IntKind.wrap .i64 t25) (IntKind.wrap .i64 (((t26.2.1:Nat):Int) +(1:Int)))) - (1:Int))) * 2)).add 1) (.slice t31.1 t31.2.1 t31.2.2) <|
 T.still ⟨r5,2,none⟩ (.slice t29.1 t29.2.1 t29.2.2) <|
 T.still ⟨r5,2,none⟩ (.slice t28.1 t28.2.1 t28.2.2) <|
 T.sem (Builtin.append_ #[28,28] 28 #[(.slice (some ⟨r42,0,none⟩) 0 0),(.slice t31.1 t31.2.1 t31.2.2)]) (.one (.atom .slice)) fun (t43:Option Addr×Nat×Nat)=>
 T.still ⟨r5,2,none⟩ (.slice t28.1 t28.2.1 t28.2.2) <|
 T.sem (Builtin.append_ #[28,28] 28 #[(.slice t43.1 t43.2.1 t43.2.2),(.slice (some ⟨r41,0,none⟩) 1 1)]) (.one (.atom .slice)) fun (t44:Option Addr×Nat×Nat)=>
 T.still ⟨r5,2,none⟩ (.slice t28.1 t28.2.1 t28.2.2) <|
 AP t28.1 fun a45=>
 chk (0≤(IntKind.wrap .i64 ((Int.tmod (IntKind.wrap .i64 t25) (IntKind.wrap .i64 (((t26.2.1:Nat):Int) +(1:Int)))) - (1:Int)))∧(IntKind.wrap .i64 ((Int.tmod (IntKind.wrap .i64 t25) (IntKind.wrap .i64 (((t26.2.1:Nat):Int) +(1:Int)))) - (1:Int))) < (t28.2.1:Nat)) <|
 T.store ((a45.add (Int.toNat (IntKind.wrap .i64 ((Int.tmod (IntKind.wrap .i64 t25) (IntKind.wrap .i64 (((t26.2.1:Nat):Int) +(1:Int)))) - (1:Int))) * 2)).add 1) (.slice t44.1 t44.2.1 t44.2.2) <|
 T.out []))
 (T.out [])) fun (z27:Unit)=>
 T.out [])
 (T.out [])) fun (z22:Unit)=>
 T.out [(.int .i64 (IntKind.wrap .i64 (z17.1+(1:Int))))])
 (T.brk 2 [(.int .i64 z17.1)])) fun (z16:Int×Unit)=>
 T.block 4 [(.atom (.int .i64))]
 (T.loop [(.atom (.int .i64))] [(.int .i64 (0:Int))] fun (z47:Int×Unit)=>
 T.load .slice ⟨r1,2,none⟩ fun (t48:Option Addr×Nat×Nat)=>
 cond (decide (z47.1< ((t48.2.1:Nat):Int)))
 (T.load .slice ⟨r1,2,none⟩ fun (t49:Option Addr×Nat×Nat)=>
 AP t49.1 fun a50=>
 chk (0≤z47.1∧z47.1< (t49.2.1:Nat)) <|
 T.load (.int .u8) (a50.add (Int.toNat z47.1 * 1)) fun (t51:Int)=>
 chk ((IntKind.wrap .i64 ((IntKind.wrap .i64 (Int.tmod t4 (4:Int))) +(1:Int))) ≠ 0) <|
 T.load .slice ⟨r1,2,none⟩ fun (t52:Option Addr×Nat×Nat)=>
 AP t52.1 fun a53=>
 chk (0≤z47.1∧z47.1< (t52.2.1:Nat)) <|
 T.load (.int .u8) (a53.add (Int.toNat z47.1 * 1)) fun (t54:Int)=>
 chk ((IntKind.wrap .i64 ((IntKind.wrap .i64 (Int.tmod t4 (4:Int))) +(1:Int))) ≠ 0) <|
 chk (0≤(Int.tmod (IntKind.wrap .i64 t51) (IntKind.wrap .i64 ((IntKind.wrap .i64 (Int.tmod t4 (4:Int))) +(1:Int))))∧(Int.tmod (IntKind.wrap .i64 t51) (IntKind.wrap .i64 ((IntKind.wrap .i64 (Int.tmod t4 (4:Int))) +(1:Int)))) ≤(IntKind.wrap .i64 ((Int.tmod (IntKind.wrap .i64 t54) (IntKind.wrap .i64 ((IntKind.wrap .i64 (Int.tmod t4 (4:Int))) +(1:Int)))) +(1:Int)))∧(IntKind.wrap .i64 ((Int.tmod (IntKind.wrap .i64 t54) (IntKind.wrap .i64 ((IntKind.wrap .i64 (Int.tmod t4 (4:Int))) +(1:Int)))) +(1:Int))) ≤(ByteArray.size {data:= #[83,84,85,86] } :Nat)) <|
 T.new (.cells #[(.string {data:= #[] }),(.slice none 0 0),(.string {data:= #[] }),(.string {data:= #[] })] 90 (0,0)) fun r55=>
 T.still (a53.add (Int.toNat z47.1 * 1)) (.int .u8 t54) <|
 T.still ⟨r1,2,none⟩ (.slice t52.1 t52.2.1 t52.2.2) <|
 T.still (a50.add (Int.toNat z47.1 * 1)) (.int .u8 t51) <|
 T.still ⟨r1,2,none⟩ (.slice t49.1 t49.2.1 t49.2.2) <|
 T.store ⟨r55,0,none⟩ (.string (ByteArray.extract {data:= #[83,84,85,86] } (Int.toNat (Int.tmod (IntKind.wrap .i64 t51) (IntKind.wrap .i64 ((IntKind.wrap .i64 (Int.tmod t4 (4:Int))) +(1:Int))))) (Int.toNat (IntKind.wrap .i64 ((Int.tmod (IntKind.wrap .i64 t54) (IntKind.wrap .i64 ((IntKind.wrap .i64 (Int.tmod t4 (4:Int))) +(1:Int)))) +(1:Int)))))) <|
 T.store ⟨r55,1,none⟩ (.slice none 0 0) <|
 T.store ⟨r55,2,none⟩ (.string {data:= #[] }) <|
 T.store ⟨r55,3,none⟩ (.string {data:= #[] }) <|
 T.load .slice ⟨r1,3,none⟩ fun (t56:Option Addr×Nat×Nat)=>
 T.join []
 (cond (decide (z47.1< ((t56.2.1:Nat):Int)))
 (T.block 6 [(.atom (.int .i64))]
 (T.loop [(.atom (.int .i64))] [(.int .i64 (0:Int))] fun (z59:Int×Unit)=>
 T.load .slice ⟨r1,3,none⟩ fun (t60:Option Addr×Nat×Nat)=>
 AP t60.1 fun a61=>
 chk (0≤z47.1∧z47.1< (t60.2.1:Nat)) <|
 T.load .slice (a61.add (Int.toNat z47.1 * 1)) fun (t62:Option Addr×Nat×Nat)=>
 cond (decide (z59.1< ((t62.2.1:Nat):Int)))
 (T.load .slice ⟨r1,3,none⟩ fun (t63:Option Addr×Nat×Nat)=>
 AP t63.1 fun a64=>
 chk (0≤z47.1∧z47.1< (t63.2.1:Nat)) <|
 T.load .slice (a64.add (Int.toNat z47.1 * 1)) fun (t65:Option Addr×Nat×Nat)=>
 AP t65.1 fun a66=>
 chk (0≤z59.1∧z59.1< (t65.2.1:Nat)) <|
 T.load (.int .u8) (a66.add (Int.toNat z59.1 * 1)) fun (t67:Int)=>
 chk ((IntKind.wrap .i64 ((IntKind.wrap .i64 ((IntKind.wrap .i64 (Int.tmod t3 (5:Int))) +(1:Int))) +(IntKind.wrap .i64 ((IntKind.wrap .i64 (Int.tmod t4 (4:Int))) +(1:Int))))) ≠ 0) <|
 chk ((5:Int) ≠ 0) <|
 chk ((5:Int) ≠ 0) <|
 chk (0≤(Int.tmod (Int.tmod (IntKind.wrap .i64 t67) (IntKind.wrap .i64 ((IntKind.wrap .i64 ((IntKind.wrap .i64 (Int.tmod t3 (5:Int))) +(1:Int))) +(IntKind.wrap .i64 ((IntKind.wrap .i64 (Int.tmod t4 (4:Int))) +(1:Int)))))) (5:Int))∧(Int.tmod (Int.tmod (IntKind.wrap .i64 t67) (IntKind.wrap .i64 ((IntKind.wrap .i64 ((IntKind.wrap .i64 (Int.tmod t3 (5:Int))) +(1:Int))) +(IntKind.wrap .i64 ((IntKind.wrap .i64 (Int.tmod t4 (4:Int))) +(1:Int)))))) (5:Int)) ≤(IntKind.wrap .i64 ((Int.tmod (Int.tmod (IntKind.wrap .i64 t67) (IntKind.wrap .i64 ((IntKind.wrap .i64 ((IntKind.wrap .i64 (Int.tmod t3 (5:Int))) +(1:Int))) +(IntKind.wrap .i64 ((IntKind.wrap .i64 (Int.tmod t4 (4:Int))) +(1:Int)))))) (5:Int)) +(1:Int)))∧(IntKind.wrap .i64 ((Int.tmod (Int.tmod (IntKind.wrap .i64 t67) (IntKind.wrap .i64 ((IntKind.wrap .i64 ((IntKind.wrap .i64 (Int.tmod t3 (5:Int))) +(1:Int))) +(IntKind.wrap .i64 ((IntKind.wrap .i64 (Int.tmod t4 (4:Int))) +(1:Int)))))) (5:Int)) +(1:Int))) ≤(ByteArray.size {data:= #[97,98,99,100,101] } :Nat)) <|
 T.join [(.atom .string)]
 (cond (decide ((Int.tmod (IntKind.wrap .i64 t67) (IntKind.wrap .i64 ((IntKind.wrap .i64 ((IntKind.wrap .i64 (Int.tmod t3 (5:Int))) +(1:Int))) +(IntKind.wrap .i64 ((IntKind.wrap .i64 (Int.tmod t4 (4:Int))) +(1:Int)))))) ≥ (IntKind.wrap .i64 ((IntKind.wrap .i64 (Int.tmod t3 (5:Int))) +(1:Int)))))
 (chk (0≤(IntKind.wrap .i64 ((Int.tmod (IntKind.wrap .i64 t67) (IntKind.wrap .i64 ((IntKind.wrap .i64 ((IntKind.wrap .i64 (Int.tmod t3 (5:Int))) +(1:Int))) +(IntKind.wrap .i64 ((IntKind.wrap .i64 (Int.tmod t4 (4:Int))) +(1:Int)))))) - (IntKind.wrap .i64 ((IntKind.wrap .i64 (Int.tmod t3 (5:Int))) +(1:Int)))))∧(IntKind.wrap .i64 ((Int.tmod (IntKind.wrap .i64 t67) (IntKind.wrap .i64 ((IntKind.wrap .i64 ((IntKind.wrap .i64 (Int.tmod t3 (5:Int))) +(1:Int))) +(IntKind.wrap .i64 ((IntKind.wrap .i64 (Int.tmod t4 (4:Int))) +(1:Int)))))) - (IntKind.wrap .i64 ((IntKind.wrap .i64 (Int.tmod t3 (5:Int))) +(1:Int))))) ≤(IntKind.wrap .i64 ((IntKind.wrap .i64 ((Int.tmod (IntKind.wrap .i64 t67) (IntKind.wrap .i64 ((IntKind.wrap .i64 ((IntKind.wrap .i64 (Int.tmod t3 (5:Int))) +(1:Int))) +(IntKind.wrap .i64 ((IntKind.wrap .i64 (Int.tmod t4 (4:Int))) +(1:Int)))))) - (IntKind.wrap .i64 ((IntKind.wrap .i64 (Int.tmod t3 (5:Int))) +(1:Int))))) +(1:Int)))∧(IntKind.wrap .i64 ((IntKind.wrap .i64 ((Int.tmod (IntKind.wrap .i64 t67) (IntKind.wrap .i64 ((IntKind.wrap .i64 ((IntKind.wrap .i64 (Int.tmod t3 (5:Int))) +(1:Int))) +(IntKind.wrap .i64 ((IntKind.wrap .i64 (Int.tmod t4 (4:Int))) +(1:Int)))))) - (IntKind.wrap .i64 ((IntKind.wrap .i64 (Int.tmod t3 (5:Int))) +(1:Int))))) +(1:Int))) ≤(ByteArray.size {data:= #[83,84,85,86] } :Nat)) <|
 T.out [(.string (ByteArray.extract {data:= #[83,84,85,86] } (Int.toNat (IntKind.wrap .i64 ((Int.tmod (IntKind.wrap .i64 t67) (IntKind.wrap .i64 ((IntKind.wrap .i64 ((IntKind.wrap .i64 (Int.tmod t3 (5:Int))) +(1:Int))) +(IntKind.wrap .i64 ((IntKind.wrap .i64 (Int.tmod t4 (4:Int))) +(1:Int)))))) - (IntKind.wrap .i64 ((IntKind.wrap .i64 (Int.tmod t3 (5:Int))) +(1:Int)))))) (Int.toNat (IntKind.wrap .i64 ((IntKind.wrap .i64 ((Int.tmod (IntKind.wrap .i64 t67) (IntKind.wrap .i64 ((IntKind.wrap .i64 ((IntKind.wrap .i64 (Int.tmod t3 (5:Int))) +(1:Int))) +(IntKind.wrap .i64 ((IntKind.wrap .i64 (Int.tmod t4 (4:Int))) +(1:Int)))))) - (IntKind.wrap .i64 ((IntKind.wrap .i64 (Int.tmod t3 (5:Int))) +(1:Int))))) +(1:Int))))))])
 (T.out [(.string (ByteArray.extract {data:= #[97,98,99,100,101] } (Int.toNat (Int.tmod (Int.tmod (IntKind.wrap .i64 t67) (IntKind.wrap .i64 ((IntKind.wrap .i64 ((IntKind.wrap .i64 (Int.tmod t3 (5:Int))) +(1:Int))) +(IntKind.wrap .i64 ((IntKind.wrap .i64 (Int.tmod t4 (4:Int))) +(1:Int)))))) (5:Int))) (Int.toNat (IntKind.wrap .i64 ((Int.tmod (Int.tmod (IntKind.wrap .i64 t67) (IntKind.wrap .i64 ((IntKind.wrap .i64 ((IntKind.wrap .i64 (Int.tmod t3 (5:Int))) +(1:Int))) +(IntKind.wrap .i64 ((IntKind.wrap .i64 (Int.tmod t4 (4:Int))) +(1:Int)))))) (5:Int)) +(1:Int))))))])) fun (z68:ByteArray×Unit)=>
 T.load .slice ⟨r55,1,none⟩ fun (t69:Option Addr×Nat×Nat)=>
 T.new (.cells #[(.string z68.1)] 9 (0,0)) fun r70=>
 T.sem (Builtin.append_ #[28,28] 28 #[(.slice t69.1 t69.2.1 t69.2.2),(.slice (some ⟨r70,0,none⟩) 1 1)]) (.one (.atom .slice)) fun (t71:Option Addr×Nat×Nat)=>
 T.store ⟨r55,1,none⟩ (.slice t71.1 t71.2.1 t71.2.2) <|
 T.out [(.int .i64 (IntKind.wrap .i64 (z59.1+(1:Int))))])
 (T.brk 6 [(.int .i64 z59.1)])) fun (z58:Int×Unit)=>
 T.out [])
 (T.out [])) fun (z57:Unit)=>
 T.load .slice ⟨r1,4,none⟩ fun (t72:Option Addr×Nat×Nat)=>
 T.join []
 (cond (decide (z47.1< ((t72.2.1:Nat):Int)))
 (T.load .slice ⟨r1,4,none⟩ fun (t74:Option Addr×Nat×Nat)=>
 AP t74.1 fun a75=>
 chk (0≤z47.1∧z47.1< (t74.2.1:Nat)) <|
 T.load (.int .u8) (a75.add (Int.toNat z47.1 * 1)) fun (t76:Int)=>
 T.load .slice ⟨r5,2,none⟩ fun (t77:Option Addr×Nat×Nat)=>
 chk ((IntKind.wrap .i64 (((t77.2.1:Nat):Int) +(1:Int))) ≠ 0) <|
 T.join []
 (cond (decide ((Int.tmod (IntKind.wrap .i64 t76) (IntKind.wrap .i64 (((t77.2.1:Nat):Int) +(1:Int)))) >(0:Int)))
 (chk (0≤(IntKind.wrap .i64 ((Int.tmod (IntKind.wrap .i64 t76) (IntKind.wrap .i64 (((t77.2.1:Nat):Int) +(1:Int)))) - (1:Int)))∧(IntKind.wrap .i64 ((Int.tmod (IntKind.wrap .i64 t76) (IntKind.wrap .i64 (((t77.2.1:Nat):Int) +(1:Int)))) - (1:Int))) ≤(Int.tmod (IntKind.wrap .i64 t76) (IntKind.wrap .i64 (((t77.2.1:Nat):Int) +(1:Int))))∧(Int.tmod (IntKind.wrap .i64 t76) (IntKind.wrap .i64 (((t77.2.1:Nat):Int) +(1:Int)))) ≤(ByteArray.size {data:= #[112,113,114,115,116] } :Nat)) <|
 T.store ⟨r55,2,none⟩ (.string (ByteArray.extract {data:= #[112,113,114,115,116] } (Int.toNat (IntKind.wrap .i64 ((Int.tmod (IntKind.wrap .i64 t76) (IntKind.wrap .i64 (((t77.2.1:Nat):Int) +(1:Int)))) - (1:Int)))) (Int.toNat (Int.tmod (IntKind.wrap .i64 t76) (IntKind.wrap .i64 (((t77.2.1:Nat):Int) +(1:Int))))))) <|
 T.out [])
 (T.out [])) fun (z78:Unit)=>
 T.out [])
 (T.out [])) fun (z73:Unit)=>
 T.load .slice ⟨r5,4,none⟩ fun (t79:Option Addr×Nat×Nat)=>
 T.load .string ⟨r55,0,none⟩ fun (t80:ByteArray)=>
 T.load .slice ⟨r55,1,none⟩ fun (t81:Option Addr×Nat×Nat)=>
 T.load .string ⟨r55,2,none⟩ fun (t82:ByteArray)=>
 T.load .string ⟨r55,3,none⟩ fun (t83:ByteArray)=>
 T.new (.cells #[(.string t80),(.slice t81.1 t81.2.1 t81.2.2),(.string t82),(.string t83)] 90 (0,0)) fun r84=>
 T.sem (Builtin.append_ #[64,64] 64 #[(.slice t79.1 t79.2.1 t79.2.2),(.slice (some ⟨r84,0,none⟩) 1 1)]) (.one (.atom .slice)) fun (t85:Option Addr×Nat×Nat)=>
 T.store ⟨r5,4,none⟩ (.slice t85.1 t85.2.1 t85.2.2) <|
 T.out [(.int .i64 (IntKind.wrap .i64 (z47.1+(1:Int))))])
 (T.brk 4 [(.int .i64 z47.1)])) fun (z46:Int×Unit)=>
 T.block 8 [(.atom (.int .i64))]
 (T.loop [(.atom (.int .i64))] [(.int .i64 (0:Int))] fun (z87:Int×Unit)=>
 cond (decide (z87.1< (IntKind.wrap .i64 ((IntKind.wrap .i64 (Int.tmod t4 (4:Int))) +(1:Int)))))
 (chk (0≤z87.1∧z87.1≤(IntKind.wrap .i64 (z87.1+(1:Int)))∧(IntKind.wrap .i64 (z87.1+(1:Int))) ≤(ByteArray.size {data:= #[83,84,85,86] } :Nat)) <|
 T.block 10 [(.atom (.int .i64)),(.atom .bool)]
 (T.loop [(.atom (.int .i64)),(.atom .bool)] [(.int .i64 (0:Int)),(.bool false)] fun (z89:Int×Bool×Unit)=>
 T.load .slice ⟨r5,4,none⟩ fun (t90:Option Addr×Nat×Nat)=>
 cond (decide (z89.1< ((t90.2.1:Nat):Int)))
 (T.join [(.atom .bool)]
 (cond z89.2.1
 (T.out [(.bool true)])
 (T.load .slice ⟨r5,4,none⟩ fun (t92:Option Addr×Nat×Nat)=>
 AP t92.1 fun a93=>
 chk (0≤z89.1∧z89.1< (t92.2.1:Nat)) <|
 T.load .string (a93.add (Int.toNat z89.1 * 4)) fun (t94:ByteArray)=>
 T.out [(.bool (ByteArray.toList t94==ByteArray.toList (ByteArray.extract {data:= #[83,84,85,86] } (Int.toNat z87.1) (Int.toNat (IntKind.wrap .i64 (z87.1+(1:Int)))))))])) fun (z91:Bool×Unit)=>
 T.out [(.int .i64 (IntKind.wrap .i64 (z89.1+(1:Int)))),(.bool z91.1)])
 (T.brk 10 [(.int .i64 z89.1),(.bool z89.2.1)])) fun (z88:Int×Bool×Unit)=>
 T.join []
 (cond (!z88.2.1)
 (T.load .slice ⟨r5,4,none⟩ fun (t96:Option Addr×Nat×Nat)=>
 T.new (.cells #[(.string (ByteArray.extract {data:= #[83,84,85,86] } (Int.toNat z87.1) (Int.toNat (IntKind.wrap .i64 (z87.1+(1:Int)))))),(.slice none 0 0),(.string {data:= #[] }),(.string {data:= #[] })] 90 (0,0)) fun r97=>
 T.sem (Builtin.append_ #[64,64] 64 #[(.slice t96.1 t96.2.1 t96.2.2),(.slice (some ⟨r97,0,none⟩) 1 1)]) (.one (.atom .slice)) fun (t98:Option Addr×Nat×Nat)=>
 T.store ⟨r5,4,none⟩ (.slice t98.1 t98.2.1 t98.2.2) <|
 T.out [])
 (T.out [])) fun (z95:Unit)=>
 T.out [(.int .i64 (IntKind.wrap .i64 (z87.1+(1:Int))))])
 (T.brk 8 [(.int .i64 z87.1)])) fun (z86:Int×Unit)=>
 T.load .slice ⟨r5,0,none⟩ fun (t99:Option Addr×Nat×Nat)=>
 T.load .slice ⟨r5,1,none⟩ fun (t100:Option Addr×Nat×Nat)=>
 T.load .slice ⟨r5,2,none⟩ fun (t101:Option Addr×Nat×Nat)=>
 T.load .string ⟨r5,3,none⟩ fun (t102:ByteArray)=>
 T.load .slice ⟨r5,4,none⟩ fun (t103:Option Addr×Nat×Nat)=>
 T.store ⟨r2,0,none⟩ (.slice t99.1 t99.2.1 t99.2.2) <|
 T.store ⟨r2,1,none⟩ (.slice t100.1 t100.2.1 t100.2.2) <|
 T.store ⟨r2,2,none⟩ (.slice t101.1 t101.2.1 t101.2.2) <|
 T.store ⟨r2,3,none⟩ (.string t102) <|
 T.store ⟨r2,4,none⟩ (.slice t103.1 t103.2.1 t103.2.2) <|
 T.load .slice ⟨r2,0,none⟩ fun (res104:Option Addr×Nat×Nat)=>
 T.load .slice ⟨r2,1,none⟩ fun (res105:Option Addr×Nat×Nat)=>
 T.load .slice ⟨r2,2,none⟩ fun (res106:Option Addr×Nat×Nat)=>
 T.load .string ⟨r2,3,none⟩ fun (res107:ByteArray)=>
 T.load .slice ⟨r2,4,none⟩ fun (res108:Option Addr×Nat×Nat)=>
 T.ret (.agg #[(.slice res104.1 res104.2.1 res104.2.2),(.slice res105.1 res105.2.1 res105.2.2),(.slice res106.1 res106.2.1 res106.2.2),(.string res107),(.slice res108.1 res108.2.1 res108.2.2)])
theorem De (s_0:Int×Int×(Option Addr×Nat×Nat)×(Option Addr×Nat×Nat)×(Option Addr×Nat×Nat)×(Option Addr×Nat×Nat)×(Option Addr×Nat×Nat)×Unit):Am Tryd.prog Tryd.f25 [(.agg #[(.int .u8 s_0.1),(.int .u8 s_0.2.1),(.slice s_0.2.2.1.1 s_0.2.2.1.2.1 s_0.2.2.1.2.2),(.slice s_0.2.2.2.1.1 s_0.2.2.2.1.2.1 s_0.2.2.2.1.2.2),(.slice s_0.2.2.2.2.1.1 s_0.2.2.2.2.1.2.1 s_0.2.2.2.2.1.2.2),(.slice s_0.2.2.2.2.2.1.1 s_0.2.2.2.2.2.1.2.1 s_0.2.2.2.2.2.1.2.2),(.slice s_0.2.2.2.2.2.2.1.1 s_0.2.2.2.2.2.2.1.2.1 s_0.2.2.2.2.2.2.1.2.2)])] =CU s_0:=by kernel_rfl
noncomputable def Hm (limit_0:Int):T:=
 T.call 42 [(.int .i64 limit_0)] (.one (.atom (.int .i64))) fun (t1:Int)=>
 T.new (.cells #[(.int .i64 t1),(.int .i64 (0:Int)),(.int .i64 (0:Int))] 101 (0,0)) fun r2=>
 T.ret (.pointer (some ⟨r2,0,none⟩))
theorem Ig (limit_0:Int):Am Tryd.prog Tryd.f26 [(.int .i64 limit_0)] =Hm limit_0:=by kernel_rfl
noncomputable def E4 (kernel_0_p:Option Addr) (kernel_0_n kernel_0_c:Nat) (from_1:Int) (with_2:Int) (c_3:Nat) (c_4:Nat) (c_5:Nat) (c_6:Nat):T:=
 T.load .map ⟨c_3,0,none⟩ fun (t1:Option Nat)=>
 T.call 28 [(.slice kernel_0_p kernel_0_n kernel_0_c)] (.one (.atom .string)) fun (t2:ByteArray)=>
 T.still ⟨c_3,0,none⟩ (.map t1) <|
 T.sem (Instr.lookup 73 (.map t1) (.string t2) true) (.tuple [(.atom (.int .i64)),(.atom .bool)]) fun (t3:Int×Bool×Unit)=>
 cond t3.2.1
 (T.ret (.tuple #[(.int .i64 t3.1),(.int .i64 (0:Int))]))
 (T.load .pointer ⟨c_4,0,none⟩ fun (t4:Option Addr)=>
 T.call 29 [(.pointer t4),(.slice kernel_0_p kernel_0_n kernel_0_c)] (.one (.atom .slice)) fun (t5:Option Addr×Nat×Nat)=>
 T.new (.cells #[(.slice none 0 0),(.slice none 0 0),(.slice none 0 0),(.int .i64 (0:Int)),(.int .i64 (0:Int))] 78 (0,0)) fun r6=>
 T.store ⟨r6,0,none⟩ (.slice kernel_0_p kernel_0_n kernel_0_c) <|
 T.store ⟨r6,1,none⟩ (.slice t5.1 t5.2.1 t5.2.2) <|
 T.store ⟨r6,2,none⟩ (.slice none 0 0) <|
 T.store ⟨r6,3,none⟩ (.int .i64 from_1) <|
 T.store ⟨r6,4,none⟩ (.int .i64 with_2) <|
 T.load .pointer ⟨c_5,0,none⟩ fun (t7:Option Addr)=>
 T.call 30 [(.pointer t7),(.int .i64 (1:Int))] (.one (.atom (.int .i64))) fun (t8:Int)=>
 T.join [(.atom (.int .i64))]
 (cond (t8==(0:Int))
 (T.load .pointer ⟨c_6,0,none⟩ fun (t10:Option Addr)=>
 T.load .slice ⟨r6,1,none⟩ fun (t11:Option Addr×Nat×Nat)=>
 T.call 30 [(.pointer t10),(.int .i64 ((t11.2.1:Nat):Int))] (.one (.atom (.int .i64))) fun (t12:Int)=>
 T.out [(.int .i64 t12)])
 (T.out [(.int .i64 t8)])) fun (z9:Int×Unit)=>
 T.load .map ⟨c_3,0,none⟩ fun (t13:Option Nat)=>
 T.load .pointer ⟨c_4,0,none⟩ fun (t14:Option Addr)=>
 AP t14 fun a15=>
 T.load .slice (a15.add 6) fun (t16:Option Addr×Nat×Nat)=>
 T.call 28 [(.slice kernel_0_p kernel_0_n kernel_0_c)] (.one (.atom .string)) fun (t17:ByteArray)=>
 T.still (a15.add 6) (.slice t16.1 t16.2.1 t16.2.2) <|
 T.still ⟨c_4,0,none⟩ (.pointer t14) <|
 T.still ⟨c_3,0,none⟩ (.map t13) <|
 T.sem (Sem.bind (Instr.mapUpdate 73 (.map t13) (.string t17) (.int .i64 ((t16.2.1:Nat):Int))) fun _=> .pure undef) (.tuple []) fun (u18:Unit)=>
 T.load .pointer ⟨c_4,0,none⟩ fun (t19:Option Addr)=>
 T.load .pointer ⟨c_4,0,none⟩ fun (t20:Option Addr)=>
 AP t20 fun a21=>
 T.load .slice (a21.add 6) fun (t22:Option Addr×Nat×Nat)=>
 T.load .slice ⟨r6,0,none⟩ fun (t23:Option Addr×Nat×Nat)=>
 T.load .slice ⟨r6,1,none⟩ fun (t24:Option Addr×Nat×Nat)=>
 T.load .slice ⟨r6,2,none⟩ fun (t25:Option Addr×Nat×Nat)=>
 T.load (.int .i64) ⟨r6,3,none⟩ fun (t26:Int)=>
 T.load (.int .i64) ⟨r6,4,none⟩ fun (t27:Int)=>
 T.new (.cells #[(.slice t23.1 t23.2.1 t23.2.2),(.slice t24.1 t24.2.1 t24.2.2),(.slice t25.1 t25.2.1 t25.2.2),(.int .i64 t26),(.int .i64 t27)] 78 (0,0)) fun r28=>
 T.still (a21.add 6) (.slice t22.1 t22.2.1 t22.2.2) <|
 T.still ⟨c_4,0,none⟩ (.pointer t20) <|
 T.still ⟨c_4,0,none⟩ (.pointer t19) <|
 T.sem (Builtin.append_ #[68,68] 68 #[(.slice t22.1 t22.2.1 t22.2.2),(.slice (some ⟨r28,0,none⟩) 1 1)]) (.one (.atom .slice)) fun (t29:Option Addr×Nat×Nat)=>
 T.still ⟨c_4,0,none⟩ (.pointer t19) <|
 AP t19 fun a30=>
 T.store (a30.add 6) (.slice t29.1 t29.2.1 t29.2.2) <|
 T.load .pointer ⟨c_4,0,none⟩ fun (t31:Option Addr)=>
 AP t31 fun a32=>
 T.load .slice (a32.add 6) fun (t33:Option Addr×Nat×Nat)=>
 T.ret (.tuple #[(.int .i64 (IntKind.wrap .i64 (((t33.2.1:Nat):Int) - (1:Int)))),(.int .i64 z9.1)]))
theorem Gx (kernel_0_p:Option Addr) (kernel_0_n kernel_0_c:Nat) (from_1:Int) (with_2:Int) (c_3:Nat) (c_4:Nat) (c_5:Nat) (c_6:Nat):Am Tryd.prog Tryd.f27 [(.slice kernel_0_p kernel_0_n kernel_0_c),(.int .i64 from_1),(.int .i64 with_2),(.pointer (some ⟨c_3,0,none⟩)),(.pointer (some ⟨c_4,0,none⟩)),(.pointer (some ⟨c_5,0,none⟩)),(.pointer (some ⟨c_6,0,none⟩))] =E4 kernel_0_p kernel_0_n kernel_0_c from_1 with_2 c_3 c_4 c_5 c_6:=by kernel_rfl
noncomputable def HB (kernel_0_p:Option Addr) (kernel_0_n kernel_0_c:Nat):T:=
 T.block 0 [(.atom (.int .i64)),(.atom .slice)]
 (T.loop [(.atom (.int .i64)),(.atom .slice)] [(.int .i64 (0:Int)),(.slice none 0 0)] fun (z2:Int×(Option Addr×Nat×Nat)×Unit)=>
 cond (decide (z2.1< ((kernel_0_n:Nat):Int)))
 (AP kernel_0_p fun a3=>
 chk (0≤z2.1∧z2.1< (kernel_0_n:Nat)) <|
 T.load (.int .i64) (a3.add (Int.toNat z2.1 * 2)) fun (t4:Int)=>
 T.load (.int .i64) ((a3.add (Int.toNat z2.1 * 2)).add 1) fun (t5:Int)=>
 T.new (.cells #[(.int .i64 (0:Int)),(.int .i64 (0:Int))] 44 (0,0)) fun r6=>
 T.store ⟨r6,0,none⟩ (.int .i64 t4) <|
 T.store ⟨r6,1,none⟩ (.int .i64 t5) <|
 T.load (.int .i64) ⟨r6,0,none⟩ fun (t7:Int)=>
 T.call 43 [(.slice z2.2.1.1 z2.2.1.2.1 z2.2.1.2.2),(.int .i64 t7),(.int .i64 (10:Int))] (.one (.atom .slice)) fun (t8:Option Addr×Nat×Nat)=>
 T.new (.cells #[(.int .u8 (46:Int))] 5 (0,0)) fun r9=>
 T.sem (Builtin.append_ #[22,22] 22 #[(.slice t8.1 t8.2.1 t8.2.2),(.slice (some ⟨r9,0,none⟩) 1 1)]) (.one (.atom .slice)) fun (t10:Option Addr×Nat×Nat)=>
 T.load (.int .i64) ⟨r6,1,none⟩ fun (t11:Int)=>
 T.call 43 [(.slice t10.1 t10.2.1 t10.2.2),(.int .i64 t11),(.int .i64 (10:Int))] (.one (.atom .slice)) fun (t12:Option Addr×Nat×Nat)=>
 T.new (.cells #[(.int .u8 (32:Int))] 5 (0,0)) fun r13=>
 T.sem (Builtin.append_ #[22,22] 22 #[(.slice t12.1 t12.2.1 t12.2.2),(.slice (some ⟨r13,0,none⟩) 1 1)]) (.one (.atom .slice)) fun (t14:Option Addr×Nat×Nat)=>
 T.out [(.int .i64 (IntKind.wrap .i64 (z2.1+(1:Int)))),(.slice t14.1 t14.2.1 t14.2.2)])
 (T.brk 0 [(.int .i64 z2.1),(.slice z2.2.1.1 z2.2.1.2.1 z2.2.1.2.2)])) fun (z1:Int×(Option Addr×Nat×Nat)×Unit)=>
 T.sem (convert 22 9 (.slice z1.2.1.1 z1.2.1.2.1 z1.2.1.2.2)) (.one (.atom .string)) fun (t15:ByteArray)=>
 T.ret (.string t15)
theorem H9 (kernel_0_p:Option Addr) (kernel_0_n kernel_0_c:Nat):Am Tryd.prog Tryd.f28 [(.slice kernel_0_p kernel_0_n kernel_0_c)] =HB kernel_0_p kernel_0_n kernel_0_c:=by kernel_rfl
noncomputable def DY (a_0:Option Addr) (kernel_1_p:Option Addr) (kernel_1_n kernel_1_c:Nat):T:=
 T.call 34 [(.slice kernel_1_p kernel_1_n kernel_1_c)] (.one (.atom .slice)) fun (t1:Option Addr×Nat×Nat)=>
 T.new (.map #[] 0) fun r2=>
 T.block 0 [(.atom (.int .i64)),(.atom .slice)]
 (T.loop [(.atom (.int .i64)),(.atom .slice)] [(.int .i64 (0:Int)),(.slice t1.1 t1.2.1 t1.2.2)] fun (z4:Int×(Option Addr×Nat×Nat)×Unit)=>
 cond (decide (z4.1< ((z4.2.1.2.1:Nat):Int)))
 (T.block 1 [(.atom .slice)]
 (AP z4.2.1.1 fun a6=>
 chk (0≤z4.1∧z4.1< (z4.2.1.2.1:Nat)) <|
 T.load (.int .i64) (a6.add (Int.toNat z4.1 * 2)) fun (t7:Int)=>
 T.load (.int .i64) ((a6.add (Int.toNat z4.1 * 2)).add 1) fun (t8:Int)=>
 T.call 44 [(.pointer a_0),(.agg #[(.int .i64 t7),(.int .i64 t8)])] (.one (.atom (.int .i64))) fun (t9:Int)=>
 T.join [(.atom .bool)]
 (cond (decide (t9< (0:Int)))
 (T.out [(.bool true)])
 (AP a_0 fun a11=>
 T.load .slice a11 fun (t12:Option Addr×Nat×Nat)=>
 T.load .slice (a11.add 1) fun (t13:Option Addr×Nat×Nat)=>
 T.load .slice (a11.add 2) fun (t14:Option Addr×Nat×Nat)=>
 T.load .slice (a11.add 3) fun (t15:Option Addr×Nat×Nat)=>
 T.load .slice (a11.add 4) fun (t16:Option Addr×Nat×Nat)=>
 T.load .slice (a11.add 5) fun (t17:Option Addr×Nat×Nat)=>
 T.call 45 [(.agg #[(.slice t12.1 t12.2.1 t12.2.2),(.slice t13.1 t13.2.1 t13.2.2),(.slice t14.1 t14.2.1 t14.2.2),(.slice t15.1 t15.2.1 t15.2.2),(.slice t16.1 t16.2.1 t16.2.2),(.slice t17.1 t17.2.1 t17.2.2)]),(.int .i64 t9)] (.one (.atom .bool)) fun (t18:Bool)=>
 cond t18
 (T.out [(.bool true)])
 (T.sem (Instr.lookup 103 (.map (some r2)) (.int .i64 t9) false) (.one (.atom .bool)) fun (t19:Bool)=>
 T.out [(.bool t19)]))) fun (z10:Bool×Unit)=>
 cond z10.1
 (T.brk 1 [(.slice z4.2.1.1 z4.2.1.2.1 z4.2.1.2.2)])
 (T.sem (Sem.bind (Instr.mapUpdate 103 (.map (some r2)) (.int .i64 t9) (.bool true)) fun _=> .pure undef) (.tuple []) fun (u20:Unit)=>
 AP a_0 fun a21=>
 T.load .slice (a21.add 2) fun (t22:Option Addr×Nat×Nat)=>
 T.block 2 [(.atom (.int .i64)),(.atom .slice)]
 (T.loop [(.atom (.int .i64)),(.atom .slice)] [(.int .i64 (0:Int)),(.slice z4.2.1.1 z4.2.1.2.1 z4.2.1.2.2)] fun (z24:Int×(Option Addr×Nat×Nat)×Unit)=>
 cond (decide (z24.1< ((t22.2.1:Nat):Int)))
 (AP t22.1 fun a25=>
 chk (0≤z24.1∧z24.1< (t22.2.1:Nat)) <|
 T.load (.int .i64) (a25.add (Int.toNat z24.1 * 3)) fun (t26:Int)=>
 T.load .slice ((a25.add (Int.toNat z24.1 * 3)).add 1) fun (t27:Option Addr×Nat×Nat)=>
 T.load (.int .i64) ((a25.add (Int.toNat z24.1 * 3)).add 2) fun (t28:Int)=>
 T.new (.cells #[(.int .i64 (0:Int)),(.slice none 0 0),(.int .i64 (0:Int))] 47 (0,0)) fun r29=>
 T.store ⟨r29,0,none⟩ (.int .i64 t26) <|
 T.store ⟨r29,1,none⟩ (.slice t27.1 t27.2.1 t27.2.2) <|
 T.store ⟨r29,2,none⟩ (.int .i64 t28) <|
 T.new (.cells #[(.int .i64 (0:Int)),(.int .i64 (0:Int))] 44 (0,0)) fun r30=>
 T.store ⟨r30,0,none⟩ (.int .i64 z24.1) <|
 T.store ⟨r30,1,none⟩ (.int .i64 (0:Int)) <|
 T.join [(.atom .bool)]
 (T.load (.int .i64) ⟨r29,0,none⟩ fun (t32:Int)=>
 cond (t32==t9)
 (T.load (.int .i64) ⟨r30,0,none⟩ fun (t33:Int)=>
 T.load (.int .i64) ⟨r30,1,none⟩ fun (t34:Int)=>
 T.call 46 [(.slice z24.2.1.1 z24.2.1.2.1 z24.2.1.2.2),(.agg #[(.int .i64 t33),(.int .i64 t34)])] (.one (.atom .bool)) fun (t35:Bool)=>
 T.out [(.bool (!t35))])
 (T.out [(.bool false)])) fun (z31:Bool×Unit)=>
 T.join [(.atom .slice)]
 (cond z31.1
 (T.load (.int .i64) ⟨r30,0,none⟩ fun (t37:Int)=>
 T.load (.int .i64) ⟨r30,1,none⟩ fun (t38:Int)=>
 T.new (.cells #[(.int .i64 t37),(.int .i64 t38)] 44 (0,0)) fun r39=>
 T.sem (Builtin.append_ #[40,40] 40 #[(.slice z24.2.1.1 z24.2.1.2.1 z24.2.1.2.2),(.slice (some ⟨r39,0,none⟩) 1 1)]) (.one (.atom .slice)) fun (t40:Option Addr×Nat×Nat)=>
 T.out [(.slice t40.1 t40.2.1 t40.2.2)])
 (T.out [(.slice z24.2.1.1 z24.2.1.2.1 z24.2.1.2.2)])) fun (z36:(Option Addr×Nat×Nat)×Unit)=>
 T.out [(.int .i64 (IntKind.wrap .i64 (z24.1+(1:Int)))),(.slice z36.1.1 z36.1.2.1 z36.1.2.2)])
 (T.brk 2 [(.int .i64 z24.1),(.slice z24.2.1.1 z24.2.1.2.1 z24.2.1.2.2)])) fun (z23:Int×(Option Addr×Nat×Nat)×Unit)=>
 T.out [(.slice z23.2.1.1 z23.2.1.2.1 z23.2.1.2.2)])) fun (z5:(Option Addr×Nat×Nat)×Unit)=>
 T.out [(.int .i64 (IntKind.wrap .i64 (z4.1+(1:Int)))),(.slice z5.1.1 z5.1.2.1 z5.1.2.2)])
 (T.brk 0 [(.int .i64 z4.1),(.slice z4.2.1.1 z4.2.1.2.1 z4.2.1.2.2)])) fun (z3:Int×(Option Addr×Nat×Nat)×Unit)=>
 T.call 47 [(.slice z3.2.1.1 z3.2.1.2.1 z3.2.1.2.2),(.func (.func 48) #[] #[])] (.tuple []) fun (t41:Unit)=>
 T.ret (.slice z3.2.1.1 z3.2.1.2.1 z3.2.1.2.2)
theorem E5 (a_0:Option Addr) (kernel_1_p:Option Addr) (kernel_1_n kernel_1_c:Nat):Am Tryd.prog Tryd.f29 [(.pointer a_0),(.slice kernel_1_p kernel_1_n kernel_1_c)] =DY a_0 kernel_1_p kernel_1_n kernel_1_c:=by kernel_rfl
noncomputable def EY (m_0:Option Addr) (n_1:Int):T:=
 cond (decide (n_1< (0:Int)))
 (T.ret (.int .i64 (1:Int)))
 (T.call 49 [(.pointer m_0)] (.one (.atom (.int .i64))) fun (t1:Int)=>
 cond (decide (n_1>t1))
 (T.ret (.int .i64 (5:Int)))
 (AP m_0 fun a2=>
 T.load (.int .i64) (a2.add 1) fun (t3:Int)=>
 AP m_0 fun a4=>
 T.store (a4.add 1) (.int .i64 (IntKind.wrap .i64 (t3+n_1))) <|
 AP m_0 fun a5=>
 T.load (.int .i64) (a5.add 2) fun (t6:Int)=>
 AP m_0 fun a7=>
 T.load (.int .i64) (a7.add 1) fun (t8:Int)=>
 AP m_0 fun a9=>
 T.store (a9.add 2) (.int .i64 (if t8>t6 then t8 else t6)) <|
 T.ret (.int .i64 (0:Int))))
theorem F4 (m_0:Option Addr) (n_1:Int):Am Tryd.prog Tryd.f30 [(.pointer m_0),(.int .i64 n_1)] =EY m_0 n_1:=by kernel_rfl
noncomputable def DZ (a_0:Option Addr) (items_1_p:Option Addr) (items_1_n items_1_c:Nat):T:=
 T.block 0 [(.atom (.int .i64)),(.atom .slice)]
 (T.loop [(.atom (.int .i64)),(.atom .slice)] [(.int .i64 (0:Int)),(.slice none 0 0)] fun (z2:Int×(Option Addr×Nat×Nat)×Unit)=>
 cond (decide (z2.1< ((items_1_n:Nat):Int)))
 (AP items_1_p fun a3=>
 chk (0≤z2.1∧z2.1< (items_1_n:Nat)) <|
 T.load (.int .i64) (a3.add (Int.toNat z2.1 * 2)) fun (t4:Int)=>
 T.load (.int .i64) ((a3.add (Int.toNat z2.1 * 2)).add 1) fun (t5:Int)=>
 T.new (.cells #[(.int .i64 (0:Int)),(.int .i64 (0:Int))] 44 (0,0)) fun r6=>
 T.store ⟨r6,0,none⟩ (.int .i64 t4) <|
 T.store ⟨r6,1,none⟩ (.int .i64 t5) <|
 T.load (.int .i64) ⟨r6,0,none⟩ fun (t7:Int)=>
 T.load (.int .i64) ⟨r6,1,none⟩ fun (t8:Int)=>
 T.call 44 [(.pointer a_0),(.agg #[(.int .i64 t7),(.int .i64 t8)])] (.one (.atom (.int .i64))) fun (t9:Int)=>
 T.join [(.atom .slice)]
 (cond (decide (t9≥ (0:Int)))
 (T.new (.cells #[(.int .i64 t9)] 3 (0,0)) fun r11=>
 T.sem (Builtin.append_ #[30,30] 30 #[(.slice z2.2.1.1 z2.2.1.2.1 z2.2.1.2.2),(.slice (some ⟨r11,0,none⟩) 1 1)]) (.one (.atom .slice)) fun (t12:Option Addr×Nat×Nat)=>
 T.out [(.slice t12.1 t12.2.1 t12.2.2)])
 (T.out [(.slice z2.2.1.1 z2.2.1.2.1 z2.2.1.2.2)])) fun (z10:(Option Addr×Nat×Nat)×Unit)=>
 T.out [(.int .i64 (IntKind.wrap .i64 (z2.1+(1:Int)))),(.slice z10.1.1 z10.1.2.1 z10.1.2.2)])
 (T.brk 0 [(.int .i64 z2.1),(.slice z2.2.1.1 z2.2.1.2.1 z2.2.1.2.2)])) fun (z1:Int×(Option Addr×Nat×Nat)×Unit)=>
 T.call 50 [(.slice z1.2.1.1 z1.2.1.2.1 z1.2.1.2.2)] (.tuple []) fun (t13:Unit)=>
 T.call 51 [(.slice z1.2.1.1 z1.2.1.2.1 z1.2.1.2.2)] (.one (.atom .slice)) fun (t14:Option Addr×Nat×Nat)=>
 T.ret (.slice t14.1 t14.2.1 t14.2.2)
theorem E6 (a_0:Option Addr) (items_1_p:Option Addr) (items_1_n items_1_c:Nat):Am Tryd.prog Tryd.f31 [(.pointer a_0),(.slice items_1_p items_1_n items_1_c)] =DZ a_0 items_1_p items_1_n items_1_c:=by kernel_rfl
noncomputable def EZ (a_0:Option Addr) (items_1_p:Option Addr) (items_1_n items_1_c:Nat) (sym_2:Int):T:=
 T.block 0 [(.atom (.int .i64)),(.atom .slice)]
 (T.loop [(.atom (.int .i64)),(.atom .slice)] [(.int .i64 (0:Int)),(.slice none 0 0)] fun (z2:Int×(Option Addr×Nat×Nat)×Unit)=>
 cond (decide (z2.1< ((items_1_n:Nat):Int)))
 (AP items_1_p fun a3=>
 chk (0≤z2.1∧z2.1< (items_1_n:Nat)) <|
 T.load (.int .i64) (a3.add (Int.toNat z2.1 * 2)) fun (t4:Int)=>
 T.load (.int .i64) ((a3.add (Int.toNat z2.1 * 2)).add 1) fun (t5:Int)=>
 T.new (.cells #[(.int .i64 (0:Int)),(.int .i64 (0:Int))] 44 (0,0)) fun r6=>
 T.store ⟨r6,0,none⟩ (.int .i64 t4) <|
 T.store ⟨r6,1,none⟩ (.int .i64 t5) <|
 T.load (.int .i64) ⟨r6,0,none⟩ fun (t7:Int)=>
 T.load (.int .i64) ⟨r6,1,none⟩ fun (t8:Int)=>
 T.call 44 [(.pointer a_0),(.agg #[(.int .i64 t7),(.int .i64 t8)])] (.one (.atom (.int .i64))) fun (t9:Int)=>
 T.join [(.atom .slice)]
 (cond (t9==sym_2)
 (T.load (.int .i64) ⟨r6,0,none⟩ fun (t11:Int)=>
 T.load (.int .i64) ⟨r6,1,none⟩ fun (t12:Int)=>
 T.new (.cells #[(.int .i64 t11),(.int .i64 (IntKind.wrap .i64 (t12+(1:Int))))] 44 (0,0)) fun r13=>
 T.sem (Builtin.append_ #[40,40] 40 #[(.slice z2.2.1.1 z2.2.1.2.1 z2.2.1.2.2),(.slice (some ⟨r13,0,none⟩) 1 1)]) (.one (.atom .slice)) fun (t14:Option Addr×Nat×Nat)=>
 T.out [(.slice t14.1 t14.2.1 t14.2.2)])
 (T.out [(.slice z2.2.1.1 z2.2.1.2.1 z2.2.1.2.2)])) fun (z10:(Option Addr×Nat×Nat)×Unit)=>
 T.out [(.int .i64 (IntKind.wrap .i64 (z2.1+(1:Int)))),(.slice z10.1.1 z10.1.2.1 z10.1.2.2)])
 (T.brk 0 [(.int .i64 z2.1),(.slice z2.2.1.1 z2.2.1.2.1 z2.2.1.2.2)])) fun (z1:Int×(Option Addr×Nat×Nat)×Unit)=>
 T.ret (.slice z1.2.1.1 z1.2.1.2.1 z1.2.1.2.2)
theorem F5 (a_0:Option Addr) (items_1_p:Option Addr) (items_1_n items_1_c:Nat) (sym_2:Int):Am Tryd.prog Tryd.f32 [(.pointer a_0),(.slice items_1_p items_1_n items_1_c),(.int .i64 sym_2)] =EZ a_0 items_1_p items_1_n items_1_c sym_2:=by kernel_rfl
noncomputable def Ea (m_0:Option Addr):T:=
 AP m_0 fun a1=>
 T.load (.int .i64) (a1.add 1) fun (t2:Int)=>
 T.ret (.int .i64 t2)
theorem F6 (m_0:Option Addr):Am Tryd.prog Tryd.f33 [(.pointer m_0)] =Ea m_0:=by kernel_rfl
noncomputable def CD (s_0_p:Option Addr) (s_0_n s_0_c:Nat):T:=
 cond (Option.isNone s_0_p)
 (T.ret (.slice none 0 0))
 (T.new (.cells #[] 44 (0,0)) fun r1=>
 T.sem (Builtin.append_ #[40,40] 40 #[(.slice (some ⟨r1,0,none⟩) 0 0),(.slice s_0_p s_0_n s_0_c)]) (.one (.atom .slice)) fun (t2:Option Addr×Nat×Nat)=>
 T.ret (.slice t2.1 t2.2.1 t2.2.2))
theorem DC (s_0_p:Option Addr) (s_0_n s_0_c:Nat):Am Tryd.prog Tryd.f34 [(.slice s_0_p s_0_n s_0_c)] =CD s_0_p s_0_n s_0_c:=by kernel_rfl
noncomputable def E7 (a_0:Option Addr) (n_1:Int):T:=
 T.new (.cells #[(.slice none 0 0),(.slice none 0 0),(.slice none 0 0),(.int .i64 (0:Int)),(.int .i64 (0:Int))] 78 (0,0)) fun r1=>
 T.join [(.atom .bool)]
 (cond (decide (n_1< (0:Int)))
 (T.out [(.bool true)])
 (AP a_0 fun a3=>
 T.load .slice (a3.add 6) fun (t4:Option Addr×Nat×Nat)=>
 T.out [(.bool (decide (n_1≥ ((t4.2.1:Nat):Int))))])) fun (z2:Bool×Unit)=>
 cond z2.1
 (T.store ⟨r1,0,none⟩ (.slice none 0 0) <|
 T.store ⟨r1,1,none⟩ (.slice none 0 0) <|
 T.store ⟨r1,2,none⟩ (.slice none 0 0) <|
 T.store ⟨r1,3,none⟩ (.int .i64 (0:Int)) <|
 T.store ⟨r1,4,none⟩ (.int .i64 (0:Int)) <|
 T.load .slice ⟨r1,0,none⟩ fun (res5:Option Addr×Nat×Nat)=>
 T.load .slice ⟨r1,1,none⟩ fun (res6:Option Addr×Nat×Nat)=>
 T.load .slice ⟨r1,2,none⟩ fun (res7:Option Addr×Nat×Nat)=>
 T.load (.int .i64) ⟨r1,3,none⟩ fun (res8:Int)=>
 T.load (.int .i64) ⟨r1,4,none⟩ fun (res9:Int)=>
 T.ret (.agg #[(.slice res5.1 res5.2.1 res5.2.2),(.slice res6.1 res6.2.1 res6.2.2),(.slice res7.1 res7.2.1 res7.2.2),(.int .i64 res8),(.int .i64 res9)]))
 (AP a_0 fun a10=>
 T.load .slice (a10.add 6) fun (t11:Option Addr×Nat×Nat)=>
 AP t11.1 fun a12=>
 chk (0≤n_1∧n_1< (t11.2.1:Nat)) <|
 T.load .slice (a12.add (Int.toNat n_1 * 5)) fun (t13:Option Addr×Nat×Nat)=>
 T.load .slice ((a12.add (Int.toNat n_1 * 5)).add 1) fun (t14:Option Addr×Nat×Nat)=>
 T.load .slice ((a12.add (Int.toNat n_1 * 5)).add 2) fun (t15:Option Addr×Nat×Nat)=>
 T.load (.int .i64) ((a12.add (Int.toNat n_1 * 5)).add 3) fun (t16:Int)=>
 T.load (.int .i64) ((a12.add (Int.toNat n_1 * 5)).add 4) fun (t17:Int)=>
 T.store ⟨r1,0,none⟩ (.slice t13.1 t13.2.1 t13.2.2) <|
 T.store ⟨r1,1,none⟩ (.slice t14.1 t14.2.1 t14.2.2) <|
 T.store ⟨r1,2,none⟩ (.slice t15.1 t15.2.1 t15.2.2) <|
 T.store ⟨r1,3,none⟩ (.int .i64 t16) <|
 T.store ⟨r1,4,none⟩ (.int .i64 t17) <|
 T.load .slice ⟨r1,0,none⟩ fun (res18:Option Addr×Nat×Nat)=>
 T.load .slice ⟨r1,1,none⟩ fun (res19:Option Addr×Nat×Nat)=>
 T.load .slice ⟨r1,2,none⟩ fun (res20:Option Addr×Nat×Nat)=>
 T.load (.int .i64) ⟨r1,3,none⟩ fun (res21:Int)=>
 T.load (.int .i64) ⟨r1,4,none⟩ fun (res22:Int)=>
 T.ret (.agg #[(.slice res18.1 res18.2.1 res18.2.2),(.slice res19.1 res19.2.1 res19.2.2),(.slice res20.1 res20.2.1 res20.2.2),(.int .i64 res21),(.int .i64 res22)]))
theorem Gy (a_0:Option Addr) (n_1:Int):Am Tryd.prog Tryd.f35 [(.pointer a_0),(.int .i64 n_1)] =E7 a_0 n_1:=by kernel_rfl
noncomputable def C2 (s_0_p:Option Addr) (s_0_n s_0_c:Nat):T:=
 T.block 0 [(.atom (.int .i64)),(.atom (.int .i64))]
 (T.loop [(.atom (.int .i64)),(.atom (.int .i64))] [(.int .i64 (IntKind.wrap .i64 (((s_0_n:Nat):Int) - (1:Int)))),(.int .i64 (0:Int))] fun (z2:Int×Int×Unit)=>
 cond (decide (z2.2.1<z2.1))
 (AP s_0_p fun a3=>
 chk (0≤z2.1∧z2.1< (s_0_n:Nat)) <|
 T.load (.int .i64) (a3.add (Int.toNat z2.1 * 1)) fun (t4:Int)=>
 AP s_0_p fun a5=>
 chk (0≤z2.2.1∧z2.2.1< (s_0_n:Nat)) <|
 T.load (.int .i64) (a5.add (Int.toNat z2.2.1 * 1)) fun (t6:Int)=>
 AP s_0_p fun a7=>
 chk (0≤z2.2.1∧z2.2.1< (s_0_n:Nat)) <|
 T.store (a7.add (Int.toNat z2.2.1 * 1)) (.int .i64 t4) <|
 AP s_0_p fun a8=>
 chk (0≤z2.1∧z2.1< (s_0_n:Nat)) <|
 T.store (a8.add (Int.toNat z2.1 * 1)) (.int .i64 t6) <|
 T.out [(.int .i64 (IntKind.wrap .i64 (z2.1 - (1:Int)))),(.int .i64 (IntKind.wrap .i64 (z2.2.1+(1:Int))))])
 (T.brk 0 [(.int .i64 z2.1),(.int .i64 z2.2.1)])) fun (z1:Int×Int×Unit)=>
 T.ret (.tuple #[])
theorem Eb (s_0_p:Option Addr) (s_0_n s_0_c:Nat):Am Tryd.prog Tryd.f36 [(.slice s_0_p s_0_n s_0_c)] =C2 s_0_p s_0_n s_0_c:=by kernel_rfl
noncomputable def CE (s_0_p:Option Addr) (s_0_n s_0_c:Nat):T:=
 cond (Option.isNone s_0_p)
 (T.ret (.slice none 0 0))
 (T.new (.cells #[] 57 (0,0)) fun r1=>
 T.sem (Builtin.append_ #[54,54] 54 #[(.slice (some ⟨r1,0,none⟩) 0 0),(.slice s_0_p s_0_n s_0_c)]) (.one (.atom .slice)) fun (t2:Option Addr×Nat×Nat)=>
 T.ret (.slice t2.1 t2.2.1 t2.2.2))
theorem DD (s_0_p:Option Addr) (s_0_n s_0_c:Nat):Am Tryd.prog Tryd.f37 [(.slice s_0_p s_0_n s_0_c)] =CE s_0_p s_0_n s_0_c:=by kernel_rfl
noncomputable def Dt (g_0:(Option Addr×Nat×Nat)×(Option Addr×Nat×Nat)×(Option Addr×Nat×Nat)×ByteArray×(Option Addr×Nat×Nat)×Unit):T:=
 T.new (.cells #[(.slice g_0.1.1 g_0.1.2.1 g_0.1.2.2),(.slice g_0.2.1.1 g_0.2.1.2.1 g_0.2.1.2.2),(.slice g_0.2.2.1.1 g_0.2.2.1.2.1 g_0.2.2.1.2.2),(.string g_0.2.2.2.1),(.slice g_0.2.2.2.2.1.1 g_0.2.2.2.2.1.2.1 g_0.2.2.2.2.1.2.2)] 66 (0,0)) fun r1=>
 T.join [(.atom .bool)]
 (T.load .slice ⟨r1,0,none⟩ fun (t3:Option Addr×Nat×Nat)=>
 cond (decide (((t3.2.1:Nat):Int) >(20:Int)))
 (T.out [(.bool true)])
 (T.load .slice ⟨r1,1,none⟩ fun (t4:Option Addr×Nat×Nat)=>
 cond (decide (((t4.2.1:Nat):Int) >(4:Int)))
 (T.out [(.bool true)])
 (T.load .slice ⟨r1,2,none⟩ fun (t5:Option Addr×Nat×Nat)=>
 cond (decide (((t5.2.1:Nat):Int) >(10:Int)))
 (T.out [(.bool true)])
 (T.load .slice ⟨r1,4,none⟩ fun (t6:Option Addr×Nat×Nat)=>
 cond (decide (((t6.2.1:Nat):Int) < (1:Int)))
 (T.out [(.bool true)])
 (T.load .slice ⟨r1,4,none⟩ fun (t7:Option Addr×Nat×Nat)=>
 cond (decide (((t7.2.1:Nat):Int) >(40:Int)))
 (T.out [(.bool true)])
 (T.load .string ⟨r1,3,none⟩ fun (t8:ByteArray)=>
 T.call 52 [(.string t8)] (.one (.atom .bool)) fun (t9:Bool)=>
 T.out [(.bool (!t9))])))))) fun (z2:Bool×Unit)=>
 cond z2.1
 (T.ret (.bool false))
 (T.block 0 [(.atom (.int .i64)),(.atom .slice),(.atom .bool)]
 (T.loop [(.atom (.int .i64)),(.atom .slice),(.atom .bool)] [(.int .i64 (0:Int)),(.slice none 0 0),(.bool false)] fun (z11:Int×(Option Addr×Nat×Nat)×Bool×Unit)=>
 T.load .slice ⟨r1,0,none⟩ fun (t12:Option Addr×Nat×Nat)=>
 cond (decide (z11.1< ((t12.2.1:Nat):Int)))
 (T.load .slice ⟨r1,0,none⟩ fun (t13:Option Addr×Nat×Nat)=>
 AP t13.1 fun a14=>
 chk (0≤z11.1∧z11.1< (t13.2.1:Nat)) <|
 T.load .string (a14.add (Int.toNat z11.1 * 4)) fun (t15:ByteArray)=>
 T.new (.cells #[(.string t15)] 9 (0,0)) fun r16=>
 T.sem (Builtin.append_ #[28,28] 28 #[(.slice z11.2.1.1 z11.2.1.2.1 z11.2.1.2.2),(.slice (some ⟨r16,0,none⟩) 1 1)]) (.one (.atom .slice)) fun (t17:Option Addr×Nat×Nat)=>
 T.load .slice ⟨r1,0,none⟩ fun (t18:Option Addr×Nat×Nat)=>
 AP t18.1 fun a19=>
 chk (0≤z11.1∧z11.1< (t18.2.1:Nat)) <|
 T.load .string ((a19.add (Int.toNat z11.1 * 4)).add 1) fun (t20:ByteArray)=>
 T.load .string (((a19.add (Int.toNat z11.1 * 4)).add 1).add 1) fun (t21:ByteArray)=>
 T.load .bool (((a19.add (Int.toNat z11.1 * 4)).add 1).add 2) fun (t22:Bool)=>
 T.call 53 [(.agg #[(.string t20),(.string t21),(.bool t22)])] (.one (.atom .bool)) fun (t23:Bool)=>
 cond (!t23)
 (T.ret (.bool false))
 (T.out [(.int .i64 (IntKind.wrap .i64 (z11.1+(1:Int)))),(.slice t17.1 t17.2.1 t17.2.2),(.bool z11.2.2.1)]))
 (T.brk 0 [(.int .i64 z11.1),(.slice z11.2.1.1 z11.2.1.2.1 z11.2.1.2.2),(.bool z11.2.2.1)])) fun (z10:Int×(Option Addr×Nat×Nat)×Bool×Unit)=>
 T.block 2 [(.atom (.int .i64)),(.atom .bool)]
 (T.loop [(.atom (.int .i64)),(.atom .bool)] [(.int .i64 (0:Int)),(.bool z10.2.2.1)] fun (z25:Int×Bool×Unit)=>
 T.load .slice ⟨r1,1,none⟩ fun (t26:Option Addr×Nat×Nat)=>
 cond (decide (z25.1< ((t26.2.1:Nat):Int)))
 (T.load .slice ⟨r1,1,none⟩ fun (t27:Option Addr×Nat×Nat)=>
 AP t27.1 fun a28=>
 chk (0≤z25.1∧z25.1< (t27.2.1:Nat)) <|
 T.load .string (a28.add (Int.toNat z25.1 * 3)) fun (t29:ByteArray)=>
 T.load .string ((a28.add (Int.toNat z25.1 * 3)).add 1) fun (t30:ByteArray)=>
 T.load .bool ((a28.add (Int.toNat z25.1 * 3)).add 2) fun (t31:Bool)=>
 T.call 53 [(.agg #[(.string t29),(.string t30),(.bool t31)])] (.one (.atom .bool)) fun (t32:Bool)=>
 cond (!t32)
 (T.ret (.bool false))
 (T.out [(.int .i64 (IntKind.wrap .i64 (z25.1+(1:Int)))),(.bool z25.2.1)]))
 (T.brk 2 [(.int .i64 z25.1),(.bool z25.2.1)])) fun (z24:Int×Bool×Unit)=>
 T.block 4 [(.atom (.int .i64)),(.atom .slice),(.atom .bool)]
 (T.loop [(.atom (.int .i64)),(.atom .slice),(.atom .bool)] [(.int .i64 (0:Int)),(.slice none 0 0),(.bool z24.2.1)] fun (z34:Int×(Option Addr×Nat×Nat)×Bool×Unit)=>
 T.load .slice ⟨r1,2,none⟩ fun (t35:Option Addr×Nat×Nat)=>
 cond (decide (z34.1< ((t35.2.1:Nat):Int)))
 (T.load .slice ⟨r1,2,none⟩ fun (t36:Option Addr×Nat×Nat)=>
 AP t36.1 fun a37=>
 chk (0≤z34.1∧z34.1< (t36.2.1:Nat)) <|
 T.load (.int .i64) (a37.add (Int.toNat z34.1 * 2)) fun (t38:Int)=>
 T.load .slice ((a37.add (Int.toNat z34.1 * 2)).add 1) fun (t39:Option Addr×Nat×Nat)=>
 T.new (.cells #[(.int .i64 (0:Int)),(.slice none 0 0)] 97 (0,0)) fun r40=>
 T.store ⟨r40,0,none⟩ (.int .i64 t38) <|
 T.store ⟨r40,1,none⟩ (.slice t39.1 t39.2.1 t39.2.2) <|
 T.load .slice ⟨r40,1,none⟩ fun (t41:Option Addr×Nat×Nat)=>
 T.sem (Builtin.append_ #[28,28] 28 #[(.slice z34.2.1.1 z34.2.1.2.1 z34.2.1.2.2),(.slice t41.1 t41.2.1 t41.2.2)]) (.one (.atom .slice)) fun (t42:Option Addr×Nat×Nat)=>
 T.join [(.atom .bool)]
 (T.load (.int .i64) ⟨r40,0,none⟩ fun (t44:Int)=>
 cond (decide (t44< (1:Int)))
 (T.out [(.bool true)])
 (T.load (.int .i64) ⟨r40,0,none⟩ fun (t45:Int)=>
 cond (decide (t45>(3:Int)))
 (T.out [(.bool true)])
 (T.load .slice ⟨r40,1,none⟩ fun (t46:Option Addr×Nat×Nat)=>
 T.out [(.bool (((t46.2.1:Nat):Int)==(0:Int)))]))) fun (z43:Bool×Unit)=>
 cond z43.1
 (T.ret (.bool false))
 (T.out [(.int .i64 (IntKind.wrap .i64 (z34.1+(1:Int)))),(.slice t42.1 t42.2.1 t42.2.2),(.bool z34.2.2.1)]))
 (T.brk 4 [(.int .i64 z34.1),(.slice z34.2.1.1 z34.2.1.2.1 z34.2.1.2.2),(.bool z34.2.2.1)])) fun (z33:Int×(Option Addr×Nat×Nat)×Bool×Unit)=>
 T.block 6 [(.atom (.int .i64)),(.atom .bool)]
 (T.loop [(.atom (.int .i64)),(.atom .bool)] [(.int .i64 (0:Int)),(.bool z33.2.2.1)] fun (z48:Int×Bool×Unit)=>
 T.load .slice ⟨r1,4,none⟩ fun (t49:Option Addr×Nat×Nat)=>
 cond (decide (z48.1< ((t49.2.1:Nat):Int)))
 (T.load .slice ⟨r1,4,none⟩ fun (t50:Option Addr×Nat×Nat)=>
 AP t50.1 fun a51=>
 chk (0≤z48.1∧z48.1< (t50.2.1:Nat)) <|
 T.load .string (a51.add (Int.toNat z48.1 * 4)) fun (t52:ByteArray)=>
 T.load .slice ((a51.add (Int.toNat z48.1 * 4)).add 1) fun (t53:Option Addr×Nat×Nat)=>
 T.load .string ((a51.add (Int.toNat z48.1 * 4)).add 2) fun (t54:ByteArray)=>
 T.load .string ((a51.add (Int.toNat z48.1 * 4)).add 3) fun (t55:ByteArray)=>
 T.new (.cells #[(.string {data:= #[] }),(.slice none 0 0),(.string {data:= #[] }),(.string {data:= #[] })] 90 (0,0)) fun r56=>
 T.store ⟨r56,0,none⟩ (.string t52) <|
 T.store ⟨r56,1,none⟩ (.slice t53.1 t53.2.1 t53.2.2) <|
 T.store ⟨r56,2,none⟩ (.string t54) <|
 T.store ⟨r56,3,none⟩ (.string t55) <|
 T.join [(.atom .bool)]
 (T.load .string ⟨r56,0,none⟩ fun (t58:ByteArray)=>
 T.call 52 [(.string t58)] (.one (.atom .bool)) fun (t59:Bool)=>
 cond (!t59)
 (T.out [(.bool true)])
 (T.load .slice ⟨r56,1,none⟩ fun (t60:Option Addr×Nat×Nat)=>
 cond (decide (((t60.2.1:Nat):Int) >(8:Int)))
 (T.out [(.bool true)])
 (T.load .string ⟨r56,2,none⟩ fun (t61:ByteArray)=>
 cond (!(ByteArray.toList t61==ByteArray.toList {data:= #[] }))
 (T.load .string ⟨r56,2,none⟩ fun (t62:ByteArray)=>
 T.call 52 [(.string t62)] (.one (.atom .bool)) fun (t63:Bool)=>
 cond (!t63)
 (T.out [(.bool true)])
 (T.load .string ⟨r56,3,none⟩ fun (t64:ByteArray)=>
 T.call 54 [(.string t64)] (.one (.atom .bool)) fun (t65:Bool)=>
 T.out [(.bool (!t65))]))
 (T.load .string ⟨r56,3,none⟩ fun (t66:ByteArray)=>
 T.call 54 [(.string t66)] (.one (.atom .bool)) fun (t67:Bool)=>
 T.out [(.bool (!t67))])))) fun (z57:Bool×Unit)=>
 cond z57.1
 (T.ret (.bool false))
 (T.block 8 [(.atom (.int .i64)),(.atom .bool)]
 (T.loop [(.atom (.int .i64)),(.atom .bool)] [(.int .i64 (0:Int)),(.bool z48.2.1)] fun (z69:Int×Bool×Unit)=>
 T.load .slice ⟨r56,1,none⟩ fun (t70:Option Addr×Nat×Nat)=>
 cond (decide (z69.1< ((t70.2.1:Nat):Int)))
 (T.load .slice ⟨r56,1,none⟩ fun (t71:Option Addr×Nat×Nat)=>
 AP t71.1 fun a72=>
 chk (0≤z69.1∧z69.1< (t71.2.1:Nat)) <|
 T.load .string (a72.add (Int.toNat z69.1 * 1)) fun (t73:ByteArray)=>
 T.call 52 [(.string t73)] (.one (.atom .bool)) fun (t74:Bool)=>
 cond (!t74)
 (T.ret (.bool false))
 (T.out [(.int .i64 (IntKind.wrap .i64 (z69.1+(1:Int)))),(.bool z69.2.1)]))
 (T.brk 8 [(.int .i64 z69.1),(.bool z69.2.1)])) fun (z68:Int×Bool×Unit)=>
 T.out [(.int .i64 (IntKind.wrap .i64 (z48.1+(1:Int)))),(.bool z68.2.1)]))
 (T.brk 6 [(.int .i64 z48.1),(.bool z48.2.1)])) fun (z47:Int×Bool×Unit)=>
 T.join [(.atom .bool)]
 (T.call 55 [(.slice z10.2.1.1 z10.2.1.2.1 z10.2.1.2.2)] (.one (.atom .bool)) fun (t76:Bool)=>
 cond t76
 (T.call 55 [(.slice z33.2.1.1 z33.2.1.2.1 z33.2.1.2.2)] (.one (.atom .bool)) fun (t77:Bool)=>
 T.out [(.bool t77)])
 (T.out [(.bool false)])) fun (z75:Bool×Unit)=>
 T.ret (.bool z75.1))
theorem FT (g_0:(Option Addr×Nat×Nat)×(Option Addr×Nat×Nat)×(Option Addr×Nat×Nat)×ByteArray×(Option Addr×Nat×Nat)×Unit):Am Tryd.prog Tryd.f38 [(.agg #[(.slice g_0.1.1 g_0.1.2.1 g_0.1.2.2),(.slice g_0.2.1.1 g_0.2.1.2.1 g_0.2.1.2.2),(.slice g_0.2.2.1.1 g_0.2.2.1.2.1 g_0.2.2.1.2.2),(.string g_0.2.2.2.1),(.slice g_0.2.2.2.2.1.1 g_0.2.2.2.2.1.2.1 g_0.2.2.2.2.1.2.2)])] =Dt g_0:=by kernel_rfl
noncomputable def Ci (l_0_p:Option Addr) (l_0_n l_0_c:Nat) (s_1:ByteArray):T:=
 T.block 0 [(.atom (.int .i64)),(.atom (.int .i64))]
 (T.loop [(.atom (.int .i64)),(.atom (.int .i64))] [(.int .i64 (0:Int)),(.int .i64 (0:Int))] fun (z2:Int×Int×Unit)=>
 cond (decide (z2.1< ((l_0_n:Nat):Int)))
 (AP l_0_p fun a3=>
 chk (0≤z2.1∧z2.1< (l_0_n:Nat)) <|
 T.load .string (a3.add (Int.toNat z2.1 * 1)) fun (t4:ByteArray)=>
 cond (ByteArray.toList t4==ByteArray.toList s_1)
 (T.ret (.int .i64 z2.1))
 (T.out [(.int .i64 (IntKind.wrap .i64 (z2.1+(1:Int)))),(.int .i64 z2.2.1)]))
 (T.brk 0 [(.int .i64 z2.1),(.int .i64 z2.2.1)])) fun (z1:Int×Int×Unit)=>
 T.ret (.int .i64 (-1:Int))
theorem DO (l_0_p:Option Addr) (l_0_n l_0_c:Nat) (s_1:ByteArray):Am Tryd.prog Tryd.f39 [(.slice l_0_p l_0_n l_0_c),(.string s_1)] =Ci l_0_p l_0_n l_0_c s_1:=by kernel_rfl
noncomputable def Du (g_0:(Option Addr×Nat×Nat)×(Option Addr×Nat×Nat)×(Option Addr×Nat×Nat)×ByteArray×(Option Addr×Nat×Nat)×Unit) (name_1:ByteArray):T:=
 T.new (.cells #[(.slice g_0.1.1 g_0.1.2.1 g_0.1.2.2),(.slice g_0.2.1.1 g_0.2.1.2.1 g_0.2.1.2.2),(.slice g_0.2.2.1.1 g_0.2.2.1.2.1 g_0.2.2.1.2.2),(.string g_0.2.2.2.1),(.slice g_0.2.2.2.2.1.1 g_0.2.2.2.2.1.2.1 g_0.2.2.2.2.1.2.2)] 66 (0,0)) fun r1=>
 T.block 0 [(.atom (.int .i64)),(.atom (.int .i64))]
 (T.loop [(.atom (.int .i64)),(.atom (.int .i64))] [(.int .i64 (0:Int)),(.int .i64 (0:Int))] fun (z3:Int×Int×Unit)=>
 T.load .slice ⟨r1,2,none⟩ fun (t4:Option Addr×Nat×Nat)=>
 cond (decide (z3.1< ((t4.2.1:Nat):Int)))
 (T.load .slice ⟨r1,2,none⟩ fun (t5:Option Addr×Nat×Nat)=>
 AP t5.1 fun a6=>
 chk (0≤z3.1∧z3.1< (t5.2.1:Nat)) <|
 T.load .slice ((a6.add (Int.toNat z3.1 * 2)).add 1) fun (t7:Option Addr×Nat×Nat)=>
 T.call 39 [(.slice t7.1 t7.2.1 t7.2.2),(.string name_1)] (.one (.atom (.int .i64))) fun (t8:Int)=>
 cond (decide (t8≥ (0:Int)))
 (T.ret (.int .i64 (IntKind.wrap .i64 (z3.1+(1:Int)))))
 (T.out [(.int .i64 (IntKind.wrap .i64 (z3.1+(1:Int)))),(.int .i64 z3.2.1)]))
 (T.brk 0 [(.int .i64 z3.1),(.int .i64 z3.2.1)])) fun (z2:Int×Int×Unit)=>
 T.ret (.int .i64 (0:Int))
theorem FU (g_0:(Option Addr×Nat×Nat)×(Option Addr×Nat×Nat)×(Option Addr×Nat×Nat)×ByteArray×(Option Addr×Nat×Nat)×Unit) (name_1:ByteArray):Am Tryd.prog Tryd.f40 [(.agg #[(.slice g_0.1.1 g_0.1.2.1 g_0.1.2.2),(.slice g_0.2.1.1 g_0.2.1.2.1 g_0.2.1.2.2),(.slice g_0.2.2.1.1 g_0.2.2.1.2.1 g_0.2.2.1.2.2),(.string g_0.2.2.2.1),(.slice g_0.2.2.2.2.1.1 g_0.2.2.2.2.1.2.1 g_0.2.2.2.2.1.2.2)]),(.string name_1)] =Du g_0 name_1:=by kernel_rfl
noncomputable def Ec (p_0:(Option Addr×Nat×Nat)×(Option Addr×Nat×Nat)×(Option Addr×Nat×Nat)×(Option Addr×Nat×Nat)×(Option Addr×Nat×Nat)×(Option Addr×Nat×Nat)×Unit) (name_1:ByteArray):T:=
 T.new (.cells #[(.slice p_0.1.1 p_0.1.2.1 p_0.1.2.2),(.slice p_0.2.1.1 p_0.2.1.2.1 p_0.2.1.2.2),(.slice p_0.2.2.1.1 p_0.2.2.1.2.1 p_0.2.2.1.2.2),(.slice p_0.2.2.2.1.1 p_0.2.2.2.1.2.1 p_0.2.2.2.1.2.2),(.slice p_0.2.2.2.2.1.1 p_0.2.2.2.2.1.2.1 p_0.2.2.2.2.1.2.2),(.slice p_0.2.2.2.2.2.1.1 p_0.2.2.2.2.2.1.2.1 p_0.2.2.2.2.2.1.2.2)] 32 (0,0)) fun r1=>
 T.load .slice ⟨r1,0,none⟩ fun (t2:Option Addr×Nat×Nat)=>
 T.call 39 [(.slice t2.1 t2.2.1 t2.2.2),(.string name_1)] (.one (.atom (.int .i64))) fun (t3:Int)=>
 cond (decide (t3≥ (0:Int)))
 (T.ret (.int .i64 t3))
 (T.load .slice ⟨r1,1,none⟩ fun (t4:Option Addr×Nat×Nat)=>
 T.call 39 [(.slice t4.1 t4.2.1 t4.2.2),(.string name_1)] (.one (.atom (.int .i64))) fun (t5:Int)=>
 cond (decide (t5≥ (0:Int)))
 (T.load .slice ⟨r1,0,none⟩ fun (t6:Option Addr×Nat×Nat)=>
 T.ret (.int .i64 (IntKind.wrap .i64 (((t6.2.1:Nat):Int) +t5))))
 (T.ret (.int .i64 (-1:Int))))
theorem F7 (p_0:(Option Addr×Nat×Nat)×(Option Addr×Nat×Nat)×(Option Addr×Nat×Nat)×(Option Addr×Nat×Nat)×(Option Addr×Nat×Nat)×(Option Addr×Nat×Nat)×Unit) (name_1:ByteArray):Am Tryd.prog Tryd.f41 [(.agg #[(.slice p_0.1.1 p_0.1.2.1 p_0.1.2.2),(.slice p_0.2.1.1 p_0.2.1.2.1 p_0.2.1.2.2),(.slice p_0.2.2.1.1 p_0.2.2.1.2.1 p_0.2.2.1.2.2),(.slice p_0.2.2.2.1.1 p_0.2.2.2.1.2.1 p_0.2.2.2.1.2.2),(.slice p_0.2.2.2.2.1.1 p_0.2.2.2.2.1.2.1 p_0.2.2.2.2.1.2.2),(.slice p_0.2.2.2.2.2.1.1 p_0.2.2.2.2.2.1.2.1 p_0.2.2.2.2.2.1.2.2)]),(.string name_1)] =Ec p_0 name_1:=by kernel_rfl
noncomputable def HC (n_0:Int):T:=
 T.ret (.int .i64 (if (if (1099511627776:Int) <n_0 then (1099511627776:Int) else n_0) >(0:Int) then (if (1099511627776:Int) <n_0 then (1099511627776:Int) else n_0) else (0:Int)))
theorem IA (n_0:Int):Am Tryd.prog Tryd.f42 [(.int .i64 n_0)] =HC n_0:=by kernel_rfl
noncomputable def Dv (a_0:Option Addr) (x_1:Int×Int×Unit):T:=
 T.new (.cells #[(.int .i64 x_1.1),(.int .i64 x_1.2.1)] 44 (0,0)) fun r1=>
 AP a_0 fun a2=>
 T.load .slice (a2.add 2) fun (t3:Option Addr×Nat×Nat)=>
 T.load (.int .i64) ⟨r1,0,none⟩ fun (t4:Int)=>
 AP t3.1 fun a5=>
 chk (0≤t4∧t4< (t3.2.1:Nat)) <|
 T.load .slice ((a5.add (Int.toNat t4 * 3)).add 1) fun (t6:Option Addr×Nat×Nat)=>
 T.load (.int .i64) ⟨r1,1,none⟩ fun (t7:Int)=>
 cond (decide (t7≥ ((t6.2.1:Nat):Int)))
 (T.ret (.int .i64 (-1:Int)))
 (T.load (.int .i64) ⟨r1,1,none⟩ fun (t8:Int)=>
 AP t6.1 fun a9=>
 chk (0≤t8∧t8< (t6.2.1:Nat)) <|
 T.load (.int .i64) (a9.add (Int.toNat t8 * 1)) fun (t10:Int)=>
 T.ret (.int .i64 t10))
theorem FV (a_0:Option Addr) (x_1:Int×Int×Unit):Am Tryd.prog Tryd.f44 [(.pointer a_0),(.agg #[(.int .i64 x_1.1),(.int .i64 x_1.2.1)])] =Dv a_0 x_1:=by kernel_rfl
noncomputable def HD (p_0:(Option Addr×Nat×Nat)×(Option Addr×Nat×Nat)×(Option Addr×Nat×Nat)×(Option Addr×Nat×Nat)×(Option Addr×Nat×Nat)×(Option Addr×Nat×Nat)×Unit) (sym_1:Int):T:=
 T.new (.cells #[(.slice p_0.1.1 p_0.1.2.1 p_0.1.2.2),(.slice p_0.2.1.1 p_0.2.1.2.1 p_0.2.1.2.2),(.slice p_0.2.2.1.1 p_0.2.2.1.2.1 p_0.2.2.1.2.2),(.slice p_0.2.2.2.1.1 p_0.2.2.2.1.2.1 p_0.2.2.2.1.2.2),(.slice p_0.2.2.2.2.1.1 p_0.2.2.2.2.1.2.1 p_0.2.2.2.2.1.2.2),(.slice p_0.2.2.2.2.2.1.1 p_0.2.2.2.2.2.1.2.1 p_0.2.2.2.2.2.1.2.2)] 32 (0,0)) fun r1=>
 T.join [(.atom .bool)]
 (cond (decide (sym_1≥ (0:Int)))
 (T.load .slice ⟨r1,0,none⟩ fun (t3:Option Addr×Nat×Nat)=>
 T.out [(.bool (decide (sym_1< ((t3.2.1:Nat):Int))))])
 (T.out [(.bool false)])) fun (z2:Bool×Unit)=>
 T.ret (.bool z2.1)
theorem IB (p_0:(Option Addr×Nat×Nat)×(Option Addr×Nat×Nat)×(Option Addr×Nat×Nat)×(Option Addr×Nat×Nat)×(Option Addr×Nat×Nat)×(Option Addr×Nat×Nat)×Unit) (sym_1:Int):Am Tryd.prog Tryd.f45 [(.agg #[(.slice p_0.1.1 p_0.1.2.1 p_0.1.2.2),(.slice p_0.2.1.1 p_0.2.1.2.1 p_0.2.1.2.2),(.slice p_0.2.2.1.1 p_0.2.2.1.2.1 p_0.2.2.1.2.2),(.slice p_0.2.2.2.1.1 p_0.2.2.2.1.2.1 p_0.2.2.2.1.2.2),(.slice p_0.2.2.2.2.1.1 p_0.2.2.2.2.1.2.1 p_0.2.2.2.2.1.2.2),(.slice p_0.2.2.2.2.2.1.1 p_0.2.2.2.2.2.1.2.1 p_0.2.2.2.2.2.1.2.2)]),(.int .i64 sym_1)] =HD p_0 sym_1:=by kernel_rfl
noncomputable def B7 (s_0_p:Option Addr) (s_0_n s_0_c:Nat) (v_1:Int×Int×Unit):T:=
 T.new (.cells #[(.int .i64 v_1.1),(.int .i64 v_1.2.1)] 44 (0,0)) fun r1=>
 T.load (.int .i64) ⟨r1,0,none⟩ fun (t2:Int)=>
 T.load (.int .i64) ⟨r1,1,none⟩ fun (t3:Int)=>
 T.call 57 [(.slice s_0_p s_0_n s_0_c),(.agg #[(.int .i64 t2),(.int .i64 t3)])] (.one (.atom (.int .i64))) fun (t4:Int)=>
 T.ret (.bool (decide (t4≥ (0:Int))))
theorem Cq (s_0_p:Option Addr) (s_0_n s_0_c:Nat) (v_1:Int×Int×Unit):Am Tryd.prog Tryd.f46 [(.slice s_0_p s_0_n s_0_c),(.agg #[(.int .i64 v_1.1),(.int .i64 v_1.2.1)])] =B7 s_0_p s_0_n s_0_c v_1:=by kernel_rfl
noncomputable def Ed (m_0:Option Addr):T:=
 AP m_0 fun a1=>
 T.load (.int .i64) a1 fun (t2:Int)=>
 AP m_0 fun a3=>
 T.load (.int .i64) (a3.add 1) fun (t4:Int)=>
 T.ret (.int .i64 (IntKind.wrap .i64 (t2 - t4)))
theorem F8 (m_0:Option Addr):Am Tryd.prog Tryd.f49 [(.pointer m_0)] =Ed m_0:=by kernel_rfl
noncomputable def EH (s_0:ByteArray):T:=
 T.join [(.atom .bool)]
 (cond (decide (((ByteArray.size s_0:Nat):Int) ≤(32:Int)))
 (T.call 63 [(.string s_0)] (.one (.atom .bool)) fun (t2:Bool)=>
 T.out [(.bool t2)])
 (T.out [(.bool false)])) fun (z1:Bool×Unit)=>
 T.ret (.bool z1.1)
theorem Fj (s_0:ByteArray):Am Tryd.prog Tryd.f52 [(.string s_0)] =EH s_0:=by kernel_rfl
noncomputable def DP (p_0:ByteArray×ByteArray×Bool×Unit):T:=
 T.new (.cells #[(.string p_0.1),(.string p_0.2.1),(.bool p_0.2.2.1)] 92 (0,0)) fun r1=>
 T.load .string ⟨r1,0,none⟩ fun (t2:ByteArray)=>
 cond (!(ByteArray.toList t2==ByteArray.toList {data:= #[] }))
 (T.join [(.atom .bool)]
 (T.load .string ⟨r1,0,none⟩ fun (t4:ByteArray)=>
 cond (decide (((ByteArray.size t4:Nat):Int) ≤(32:Int)))
 (T.load .string ⟨r1,1,none⟩ fun (t5:ByteArray)=>
 cond (ByteArray.toList t5==ByteArray.toList {data:= #[] })
 (T.load .bool ⟨r1,2,none⟩ fun (t6:Bool)=>
 T.out [(.bool (!t6))])
 (T.out [(.bool false)]))
 (T.out [(.bool false)])) fun (z3:Bool×Unit)=>
 T.ret (.bool z3.1))
 (T.block 0 [(.atom (.int .i64)),(.atom .bool)]
 (T.loop [(.atom (.int .i64)),(.atom .bool)] [(.int .i64 (1:Int)),(.bool false)] fun (z8:Int×Bool×Unit)=>
 T.load .string ⟨r1,1,none⟩ fun (t9:ByteArray)=>
 cond (decide (z8.1< ((ByteArray.size t9:Nat):Int)))
 (T.load .string ⟨r1,1,none⟩ fun (t10:ByteArray)=>
 chk (0≤z8.1∧z8.1< (ByteArray.size t10:Nat)) <|
 T.load .string ⟨r1,1,none⟩ fun (t11:ByteArray)=>
 chk (0≤(IntKind.wrap .i64 (z8.1 - (1:Int)))∧(IntKind.wrap .i64 (z8.1 - (1:Int))) < (ByteArray.size t11:Nat)) <|
 cond (decide (((UInt8.toNat (C9 t10 (Int.toNat z8.1)):Nat):Int) ≤((UInt8.toNat (C9 t11 (Int.toNat (IntKind.wrap .i64 (z8.1 - (1:Int))))):Nat):Int)))
 (T.ret (.bool false))
 (T.out [(.int .i64 (IntKind.wrap .i64 (z8.1+(1:Int)))),(.bool z8.2.1)]))
 (T.brk 0 [(.int .i64 z8.1),(.bool z8.2.1)])) fun (z7:Int×Bool×Unit)=>
 T.load .string ⟨r1,1,none⟩ fun (t12:ByteArray)=>
 T.ret (.bool (!(ByteArray.toList t12==ByteArray.toList {data:= #[] }))))
theorem Ev (p_0:ByteArray×ByteArray×Bool×Unit):Am Tryd.prog Tryd.f53 [(.agg #[(.string p_0.1),(.string p_0.2.1),(.bool p_0.2.2.1)])] =DP p_0:=by kernel_rfl
noncomputable def Da (s_0:ByteArray):T:=
 cond (decide (((ByteArray.size s_0:Nat):Int) >(200:Int)))
 (T.ret (.bool false))
 (T.block 0 [(.atom (.int .i64)),(.atom (.int .i64)),(.atom .bool)]
 (T.loop [(.atom (.int .i64)),(.atom (.int .i64)),(.atom .bool)] [(.int .i64 (0:Int)),(.int .i64 (1:Int)),(.bool false)] fun (z2:Int×Int×Bool×Unit)=>
 cond (decide (z2.1< ((ByteArray.size s_0:Nat):Int)))
 (chk (0≤z2.1∧z2.1< (ByteArray.size s_0:Nat)) <|
 T.join [(.atom (.int .i64))]
 (cond (((UInt8.toNat (C9 s_0 (Int.toNat z2.1)):Nat):Int)==(123:Int))
 (T.out [(.int .i64 (IntKind.wrap .i64 (z2.2.1+(1:Int))))])
 (T.out [(.int .i64 z2.2.1)])) fun (z3:Int×Unit)=>
 chk (0≤z2.1∧z2.1< (ByteArray.size s_0:Nat)) <|
 T.join [(.atom (.int .i64))]
 (cond (((UInt8.toNat (C9 s_0 (Int.toNat z2.1)):Nat):Int)==(125:Int))
 (T.out [(.int .i64 (IntKind.wrap .i64 (z3.1 - (1:Int))))])
 (T.out [(.int .i64 z3.1)])) fun (z4:Int×Unit)=>
 T.join [(.atom .bool)]
 (cond (decide (z4.1>(4:Int)))
 (T.out [(.bool true)])
 (T.out [(.bool (z4.1==(0:Int)))])) fun (z5:Bool×Unit)=>
 cond z5.1
 (T.ret (.bool false))
 (T.out [(.int .i64 (IntKind.wrap .i64 (z2.1+(1:Int)))),(.int .i64 z4.1),(.bool z2.2.2.1)]))
 (T.brk 0 [(.int .i64 z2.1),(.int .i64 z2.2.1),(.bool z2.2.2.1)])) fun (z1:Int×Int×Bool×Unit)=>
 T.ret (.bool (z1.2.1==(1:Int))))
theorem E8 (s_0:ByteArray):Am Tryd.prog Tryd.f54 [(.string s_0)] =Da s_0:=by kernel_rfl
noncomputable def EI (l_0_p:Option Addr) (l_0_n l_0_c:Nat):T:=
 T.block 0 [(.atom (.int .i64)),(.atom .bool)]
 (T.loop [(.atom (.int .i64)),(.atom .bool)] [(.int .i64 (0:Int)),(.bool false)] fun (z2:Int×Bool×Unit)=>
 cond (decide (z2.1< ((l_0_n:Nat):Int)))
 (AP l_0_p fun a3=>
 chk (0≤z2.1∧z2.1< (l_0_n:Nat)) <|
 T.load .string (a3.add (Int.toNat z2.1 * 1)) fun (t4:ByteArray)=>
 T.call 52 [(.string t4)] (.one (.atom .bool)) fun (t5:Bool)=>
 cond (!t5)
 (T.ret (.bool false))
 (T.block 2 [(.atom (.int .i64)),(.atom .bool)]
 (T.loop [(.atom (.int .i64)),(.atom .bool)] [(.int .i64 (0:Int)),(.bool z2.2.1)] fun (z7:Int×Bool×Unit)=>
 cond (decide (z7.1<z2.1))
 (AP l_0_p fun a8=>
 chk (0≤z7.1∧z7.1< (l_0_n:Nat)) <|
 T.load .string (a8.add (Int.toNat z7.1 * 1)) fun (t9:ByteArray)=>
 AP l_0_p fun a10=>
 chk (0≤z2.1∧z2.1< (l_0_n:Nat)) <|
 T.load .string (a10.add (Int.toNat z2.1 * 1)) fun (t11:ByteArray)=>
 cond (ByteArray.toList t9==ByteArray.toList t11)
 (T.ret (.bool false))
 (T.out [(.int .i64 (IntKind.wrap .i64 (z7.1+(1:Int)))),(.bool z7.2.1)]))
 (T.brk 2 [(.int .i64 z7.1),(.bool z7.2.1)])) fun (z6:Int×Bool×Unit)=>
 T.out [(.int .i64 (IntKind.wrap .i64 (z2.1+(1:Int)))),(.bool z6.2.1)]))
 (T.brk 0 [(.int .i64 z2.1),(.bool z2.2.1)])) fun (z1:Int×Bool×Unit)=>
 T.ret (.bool true)
theorem Fk (l_0_p:Option Addr) (l_0_n l_0_c:Nat):Am Tryd.prog Tryd.f55 [(.slice l_0_p l_0_n l_0_c)] =EI l_0_p l_0_n l_0_c:=by kernel_rfl
noncomputable def CF (s_0_p:Option Addr) (s_0_n s_0_c:Nat) (v_1:Int×Int×Unit):T:=
 T.new (.cells #[(.int .i64 v_1.1),(.int .i64 v_1.2.1)] 44 (0,0)) fun r1=>
 T.block 0 [(.atom (.int .i64)),(.atom (.int .i64))]
 (T.loop [(.atom (.int .i64)),(.atom (.int .i64))] [(.int .i64 (0:Int)),(.int .i64 (0:Int))] fun (z3:Int×Int×Unit)=>
 cond (decide (z3.1< ((s_0_n:Nat):Int)))
 (T.load (.int .i64) ⟨r1,0,none⟩ fun (t4:Int)=>
 T.load (.int .i64) ⟨r1,1,none⟩ fun (t5:Int)=>
 AP s_0_p fun a6=>
 chk (0≤z3.1∧z3.1< (s_0_n:Nat)) <|
 T.load (.int .i64) (a6.add (Int.toNat z3.1 * 2)) fun (t7:Int)=>
 T.load (.int .i64) ((a6.add (Int.toNat z3.1 * 2)).add 1) fun (t8:Int)=>
 cond ((t4==t7) && ((t5==t8) && true))
 (T.ret (.int .i64 z3.1))
 (T.out [(.int .i64 (IntKind.wrap .i64 (z3.1+(1:Int)))),(.int .i64 z3.2.1)]))
 (T.brk 0 [(.int .i64 z3.1),(.int .i64 z3.2.1)])) fun (z2:Int×Int×Unit)=>
 T.ret (.int .i64 (-1:Int))
theorem DE (s_0_p:Option Addr) (s_0_n s_0_c:Nat) (v_1:Int×Int×Unit):Am Tryd.prog Tryd.f57 [(.slice s_0_p s_0_n s_0_c),(.agg #[(.int .i64 v_1.1),(.int .i64 v_1.2.1)])] =CF s_0_p s_0_n s_0_c v_1:=by kernel_rfl
noncomputable def EJ (s_0:ByteArray):T:=
 T.block 0 [(.atom (.int .i64)),(.atom .bool)]
 (T.loop [(.atom (.int .i64)),(.atom .bool)] [(.int .i64 (0:Int)),(.bool false)] fun (z2:Int×Bool×Unit)=>
 cond (decide (z2.1< ((ByteArray.size s_0:Nat):Int)))
 (T.join [(.atom .bool)]
 (chk (0≤z2.1∧z2.1< (ByteArray.size s_0:Nat)) <|
 T.call 85 [(.int .u8 ((UInt8.toNat (C9 s_0 (Int.toNat z2.1)):Nat):Int))] (.one (.atom .bool)) fun (t4:Bool)=>
 cond (!t4)
 (cond (z2.1==(0:Int))
 (T.out [(.bool true)])
 (chk (0≤z2.1∧z2.1< (ByteArray.size s_0:Nat)) <|
 T.call 86 [(.int .u8 ((UInt8.toNat (C9 s_0 (Int.toNat z2.1)):Nat):Int))] (.one (.atom .bool)) fun (t5:Bool)=>
 T.out [(.bool (!t5))]))
 (T.out [(.bool false)])) fun (z3:Bool×Unit)=>
 cond z3.1
 (T.ret (.bool false))
 (T.out [(.int .i64 (IntKind.wrap .i64 (z2.1+(1:Int)))),(.bool z2.2.1)]))
 (T.brk 0 [(.int .i64 z2.1),(.bool z2.2.1)])) fun (z1:Int×Bool×Unit)=>
 T.ret (.bool (!(ByteArray.toList s_0==ByteArray.toList {data:= #[] })))
theorem Fl (s_0:ByteArray):Am Tryd.prog Tryd.f63 [(.string s_0)] =EJ s_0:=by kernel_rfl
noncomputable def Db (c_0:Int):T:=
 T.join [(.atom .bool)]
 (cond (c_0==(95:Int))
 (T.out [(.bool true)])
 (cond (decide (c_0≥ (97:Int)))
 (cond (decide (c_0≤(122:Int)))
 (T.out [(.bool true)])
 (cond (decide (c_0≥ (65:Int)))
 (T.out [(.bool (decide (c_0≤(90:Int))))])
 (T.out [(.bool false)])))
 (cond (decide (c_0≥ (65:Int)))
 (T.out [(.bool (decide (c_0≤(90:Int))))])
 (T.out [(.bool false)])))) fun (z1:Bool×Unit)=>
 T.ret (.bool z1.1)
theorem E9 (c_0:Int):Am Tryd.prog Tryd.f85 [(.int .u8 c_0)] =Db c_0:=by kernel_rfl
noncomputable def Dw (c_0:Int):T:=
 T.join [(.atom .bool)]
 (cond (decide (c_0≥ (48:Int)))
 (T.out [(.bool (decide (c_0≤(57:Int))))])
 (T.out [(.bool false)])) fun (z1:Bool×Unit)=>
 T.ret (.bool z1.1)
theorem FW (c_0:Int):Am Tryd.prog Tryd.f86 [(.int .u8 c_0)] =Dw c_0:=by kernel_rfl
end Go.Proofs.YtnkmpgldbddnkaaDoor
namespace Go.Proofs.YtnkmpgldbddnkaaDoor
open Go Go.Eng
set_option maxRecDepth 100000
theorem mixed:Tryd.prog.follows .mixedOrders=true:=by kernel_rfl
end Go.Proofs.YtnkmpgldbddnkaaDoor
namespace Go.Proofs.YtnkmpgldbddnkaaDoor
open Go Go.Eng
set_option linter.unusedVariables false
set_option maxRecDepth 100000
noncomputable def An (s_0:Gv) (rules_1:Int) (right_2:Int):Option Bool:=
 (cond (decide ((((List.length s_0.2.2.1):Nat):Int) >rules_1))
 (some true)
 (some (decide ((((List.length s_0.2.2.2.2.2.1):Nat):Int) >(5:Int))))).bind fun z2=>
 cond z2
 (some false)
 ((CI (σ:=Unit) (β:=Bool) (0:Int) (((List.length s_0.2.2.2.1):Nat):Int) () fun i_z6 z6=>
  (idx s_0.2.2.2.1 i_z6).bind fun e41=>
  cond (decide ((((List.length e41):Nat):Int) >right_2))
  (some (AR.done false))
  (some (AR.next ()))).bind fun e_z5=>match e_z5 with
  | .next z5=>
   some true
  | .done q59=>some q59)
theorem BJ {φ:AE} {h:AF} {F:List Chk} {s_0:Int×Int×(Option Addr×Nat×Nat)×(Option Addr×Nat×Nat)×(Option Addr×Nat×Nat)×(Option Addr×Nat×Nat)×(Option Addr×Nat×Nat)×Unit} {i:List Int} {j:List (List Int)} {k:List Int} {l:List Int} {m:List Int} {rules_1:Int} {right_2:Int} (z:Ro.SliceIs (Ro.int .u8) φ s_0.2.2.1 i) (o:Ro.SliceIs (Ro.list (Ro.int .u8)) φ s_0.2.2.2.1 j) (a0:Ro.SliceIs (Ro.int .u8) φ s_0.2.2.2.2.1 k) (a1:Ro.SliceIs (Ro.int .u8) φ s_0.2.2.2.2.2.1 l) (a2:Ro.SliceIs (Ro.int .u8) φ s_0.2.2.2.2.2.2.1 m) (s0:St φ (F) h) {r:Bool} (hd:An (s_0.1,s_0.2.1,i,j,k,l,m) rules_1 right_2=some r):
 CallsH Tryd.prog 9 [(.agg #[(.int .u8 s_0.1),(.int .u8 s_0.2.1),(.slice s_0.2.2.1.1 s_0.2.2.1.2.1 s_0.2.2.1.2.2),(.slice s_0.2.2.2.1.1 s_0.2.2.2.1.2.1 s_0.2.2.2.1.2.2),(.slice s_0.2.2.2.2.1.1 s_0.2.2.2.2.1.2.1 s_0.2.2.2.2.1.2.2),(.slice s_0.2.2.2.2.2.1.1 s_0.2.2.2.2.2.1.2.1 s_0.2.2.2.2.2.1.2.2),(.slice s_0.2.2.2.2.2.2.1.1 s_0.2.2.2.2.2.2.1.2.1 s_0.2.2.2.2.2.2.1.2.2)]),(.int .i64 rules_1),(.int .i64 right_2)] h (BO fun v h'=> ∃ψ:AE,∃y:Bool,Sub φ ψ∧v=((.one (.atom .bool)):Sh).val y∧y=r∧St ψ (F) h'):=by
 refine Aa mixed Tryd.func9 ?_
 rw [EU]
 unfold C1
 unfold An at hd
 have a3:s_0.2.2.1.2.1=List.length i:=z.length
 have p:s_0.2.2.2.1.2.1=List.length j:=o.length
 have av:s_0.2.2.2.2.1.2.1=List.length k:=a0.length
 have a4:s_0.2.2.2.2.2.1.2.1=List.length l:=a1.length
 have aw:s_0.2.2.2.2.2.2.1.2.1=List.length m:=a2.length
 refine Ac (vs:= [.int .u8 s_0.1, .int .u8 s_0.2.1,sv s_0.2.2.1,sv s_0.2.2.2.1,sv s_0.2.2.2.2.1,sv s_0.2.2.2.2.2.1,sv s_0.2.2.2.2.2.2.1]) s0 fun r1 ax d=> ?_
 obtain ⟨a5,b,hd⟩:=bS hd
 refine Ak (fun (y:Bool×Unit) w_ g=> ∃ψ:AE,Sub φ ψ∧y.1=g∧St ψ (cW 25 r1 [.int .u8 s_0.1, .int .u8 s_0.2.1,sv s_0.2.2.1,sv s_0.2.2.2.1,sv s_0.2.2.2.2.1,sv s_0.2.2.2.2.2.1,sv s_0.2.2.2.2.2.2.1] ::F) w_) (g:=a5) ?_ ?_
 ·refine AA (x:=s_0.2.2.1) d rfl ?_
  refine AH b (by rw [a3] <;>rfl) (fun _ b=> ?_) (fun _ b=> ?_)
  ·obtain rfl:=iS b
   exact AN (true,()) rfl ⟨φ,(Sub.refl _),rfl,d⟩
  refine AA (x:=s_0.2.2.2.2.2.1) d rfl ?_
  obtain rfl:=iS b
  exact AN ((decide (((s_0.2.2.2.2.2.1.2.1:Nat):Int) >(5:Int))),()) rfl ⟨φ,(Sub.refl _),(by rw [a4]),d⟩
 rintro z2 ay ⟨e,f,rfl,q⟩
 try dsimp only at hd
 refine AH hd rfl (fun _ hd=> ?_) (fun _ hd=> ?_)
 ·obtain rfl:=iS hd
  have a6:=q.tail
  exact AC ⟨e,false,f,rfl,rfl,a6⟩
 obtain ⟨a7,a8,hd⟩:=bS hd
 refine Ad (fun (y:Int×Bool×Unit) w_ g=> ∃ψ:AE,Sub e ψ∧AR.next ()=g∧St ψ (cW 25 r1 [.int .u8 s_0.1, .int .u8 s_0.2.1,sv s_0.2.2.1,sv s_0.2.2.2.1,sv s_0.2.2.2.2.1,sv s_0.2.2.2.2.2.1,sv s_0.2.2.2.2.2.2.1] ::F) w_) (g:=a7) ?_ ?_
 ·refine BQ a8 (fun a9 (y:Int×Bool×Unit) w_ g=> ∃ψ:AE,Sub e ψ∧y.1=a9∧()=g∧St ψ (cW 25 r1 [.int .u8 s_0.1, .int .u8 s_0.2.1,sv s_0.2.2.1,sv s_0.2.2.2.1,sv s_0.2.2.2.2.1,sv s_0.2.2.2.2.2.1,sv s_0.2.2.2.2.2.2.1] ::F) w_) ((0:Int),false,()) rfl ⟨e,(Sub.refl _),rfl,rfl,q⟩ ?_ ?_
  ·rintro _ z6 az _ _ ⟨s,n,rfl,rfl,c⟩ a aa t u ab
   try dsimp only at a aa t u
   refine AA (x:=s_0.2.2.2.1) c rfl ?_
   refine Az (by rw [p]; exact decide_eq_true t) ?_
   refine AA (x:=s_0.2.2.2.1) c rfl ?_
   obtain ⟨b0,ac,a⟩:=bS a
   obtain ⟨b1,b2,ad,ae,af,ag⟩:=(o.mono (f.trans n)).get ac
   refine AG _ ad (AZ ae ?_)
   obtain ⟨ah,rfl,ai⟩:=af
   have aj:=ai.length
   refine AL (x:=ah) (AB (Sub.trans (Sub.refl _) c.sub) (ag 0 _ rfl)) rfl ?_
   refine AH a (by rw [aj] <;>rfl) (fun _ a=> ?_) (fun _ a=> ?_)
   ·obtain rfl:=iS a
    obtain rfl:=ab _ rfl
    try dsimp only at hd
    obtain rfl:=iS hd
    have ak:=c.tail
    exact AU (AY (AC ⟨s,false,(f.trans n),rfl,rfl,ak⟩))
   obtain rfl:=iS a
   exact Ar ((IntKind.wrap .i64 (z6.1+(1:Int))),z6.2.1,()) _ rfl rfl ⟨s,n,u,rfl,c⟩
  ·rintro _ z6 b3 _ ⟨al,am,rfl,rfl,w⟩ an ao
   subst ao
   refine AA (x:=s_0.2.2.2.1) w rfl ?_
   refine Al (by rw [p]; exact decide_eq_false (Int.not_lt.2 an)) ?_
   exact AO (AS (z6.1,z6.2.1,()) rfl ⟨al,am,rfl,w⟩)
 rintro z5 b4 ⟨ap,aq,rfl,ar⟩
 try dsimp only at hd
 obtain rfl:=iS hd
 have au:=ar.tail
 exact AC ⟨ap,true,(f.trans aq),rfl,rfl,au⟩
noncomputable def BS (p_0:Au) (x_1:BI):Option Int:=
 (idx p_0.2.2.1 x_1.1).bind fun e25=>
 cond (decide (x_1.2< (((List.length e25.2.1):Nat):Int)))
 ((idx p_0.2.2.1 x_1.1).bind fun e41=>
  (idx e41.2.1 x_1.2).bind fun e57=>
  some e57)
 (some (-1:Int))
theorem FA {φ:AE} {h:AF} {F:List Chk} {p_0:(Option Addr×Nat×Nat)×(Option Addr×Nat×Nat)×(Option Addr×Nat×Nat)×(Option Addr×Nat×Nat)×(Option Addr×Nat×Nat)×(Option Addr×Nat×Nat)×Unit} {b:List ByteArray} {c:List ByteArray} {d:List Bu} {e:List Int} {f:List Int} {g:List ByteArray} {x_1:Int×Int×Unit} (l:Ro.SliceIs Ro.str φ p_0.1 b) (m:Ro.SliceIs Ro.str φ p_0.2.1 c) (i:Ro.SliceIs Aj φ p_0.2.2.1 d) (n:Ro.SliceIs (Ro.int .i64) φ p_0.2.2.2.1 e) (o:Ro.SliceIs (Ro.int .i64) φ p_0.2.2.2.2.1 f) (p:Ro.SliceIs Ro.str φ p_0.2.2.2.2.2.1 g) (s0:St φ (F) h) {r:Int} (hd:BS (b,c,d,e,f,g) (x_1.1,x_1.2.1)=some r):
 CallsH Tryd.prog 16 [(.agg #[(.slice p_0.1.1 p_0.1.2.1 p_0.1.2.2),(.slice p_0.2.1.1 p_0.2.1.2.1 p_0.2.1.2.2),(.slice p_0.2.2.1.1 p_0.2.2.1.2.1 p_0.2.2.1.2.2),(.slice p_0.2.2.2.1.1 p_0.2.2.2.1.2.1 p_0.2.2.2.1.2.2),(.slice p_0.2.2.2.2.1.1 p_0.2.2.2.2.1.2.1 p_0.2.2.2.2.1.2.2),(.slice p_0.2.2.2.2.2.1.1 p_0.2.2.2.2.2.1.2.1 p_0.2.2.2.2.2.1.2.2)]),(.agg #[(.int .i64 x_1.1),(.int .i64 x_1.2.1)])] h (BO fun v h'=> ∃ψ:AE,∃y:Int,Sub φ ψ∧v=((.one (.atom (.int .i64))):Sh).val y∧y=r∧St ψ (F) h'):=by
 refine Aa mixed Tryd.func16 ?_
 rw [E0]
 unfold DX
 unfold BS at hd
 have aq:p_0.1.2.1=List.length b:=l.length
 have ar:p_0.2.1.2.1=List.length c:=m.length
 have au:p_0.2.2.1.2.1=List.length d:=i.length
 have av:p_0.2.2.2.1.2.1=List.length e:=n.length
 have aw:p_0.2.2.2.2.1.2.1=List.length f:=o.length
 have ax:p_0.2.2.2.2.2.1.2.1=List.length g:=p.length
 refine Ac (vs:= [sv p_0.1,sv p_0.2.1,sv p_0.2.2.1,sv p_0.2.2.2.1,sv p_0.2.2.2.2.1,sv p_0.2.2.2.2.2.1]) s0 fun r1 ay q=> ?_
 refine Ac (vs:= [.int .i64 x_1.1, .int .i64 x_1.2.1]) q fun r2 az a=> ?_
 refine AA (x:=x_1.2.1) a rfl ?_
 refine AA (x:=p_0.2.2.1) a.at1 rfl ?_
 refine AA (x:=x_1.1) a rfl ?_
 obtain ⟨b0,s,hd⟩:=bS hd
 obtain ⟨b1,b2,t,u,w,z⟩:=i.get s
 refine AG _ t (AZ u ?_)
 obtain ⟨_,_,rfl,a0,a1⟩:=w
 obtain rfl:=a0
 obtain ⟨_,_,rfl,a2,a3⟩:=a1
 obtain ⟨a4,rfl,a5⟩:=a2
 have a6:=a5.length
 obtain rfl:=a3
 refine AL (x:=a4) (by rw [AV]; exact (AB (Sub.trans (Sub.refl _) a.sub) (z 1 _ rfl))) rfl ?_
 refine AH hd (by rw [a6] <;>rfl) (fun _ hd=> ?_) (fun _ hd=> ?_)
 ·refine AA (x:=p_0.2.2.1) a.at1 rfl ?_
  refine AA (x:=x_1.1) a rfl ?_
  obtain ⟨b3,a7,hd⟩:=bS hd
  obtain ⟨b4,b5,a8,a9,aa,ab⟩:=i.get a7
  refine AG _ a8 (AZ a9 ?_)
  obtain ⟨_,_,rfl,ac,ad⟩:=aa
  obtain rfl:=ac
  obtain ⟨_,_,rfl,ae,af⟩:=ad
  obtain ⟨ag,rfl,j⟩:=ae
  have b6:=j.length
  obtain rfl:=af
  refine AL (x:=ag) (by rw [AV]; exact (AB (Sub.trans (Sub.refl _) a.sub) (ab 1 _ rfl))) rfl ?_
  refine AA (x:=x_1.2.1) a rfl ?_
  obtain ⟨k,ah,hd⟩:=bS hd
  obtain ⟨b7,b8,ai,aj,ak,al⟩:=j.get ah
  refine AG _ ai (AZ aj ?_)
  obtain rfl:=ak
  refine AL (x:=k) (AB (Sub.trans (Sub.refl _) a.sub) (al 0 _ rfl)) rfl ?_
  obtain rfl:=iS hd
  have am:=a.tail
  have an:=am.tail
  exact AC ⟨φ,k,(Sub.refl _),rfl,rfl,an⟩
 obtain rfl:=iS hd
 have ao:=a.tail
 have ap:=ao.tail
 exact AC ⟨φ,(-1:Int),(Sub.refl _),rfl,rfl,ap⟩
noncomputable def Bv (l_0:List Int) (x_1:Int):Option Bool:=
 (CI (σ:=Unit) (β:=Bool) (0:Int) (((List.length l_0):Nat):Int) () fun i_z2 z2=>
  (idx l_0 i_z2).bind fun e23=>
  cond (e23==x_1)
  (some (AR.done true))
  (some (AR.next ()))).bind fun e_z1=>match e_z1 with
 | .next z1=>
  some false
 | .done q36=>some q36
theorem EK {φ:AE} {h:AF} {F:List Chk} {l_0:Slc} {b:List Int} {x_1:Int} (e:Ro.SliceIs (Ro.int .i64) φ l_0 b) (s0:St φ (F) h) {r:Bool} (hd:Bv b x_1=some r):
 CallsH Tryd.prog 17 [(.slice l_0.1 l_0.2.1 l_0.2.2),(.int .i64 x_1)] h (BO fun v h'=> ∃ψ:AE,∃y:Bool,Sub φ ψ∧v=((.one (.atom .bool)):Sh).val y∧y=r∧St ψ (F) h'):=by
 refine Aa mixed Tryd.func17 ?_
 rw [Ga]
 unfold Em
 unfold Bv at hd
 have f:l_0.2.1=List.length b:=e.length
 obtain ⟨l,m,hd⟩:=bS hd
 refine Ad (fun (y:Int×Bool×Unit) w_ g=> ∃ψ:AE,Sub φ ψ∧AR.next ()=g∧St ψ (F) w_) (g:=l) ?_ ?_
 ·refine BQ m (fun n (y:Int×Bool×Unit) w_ g=> ∃ψ:AE,Sub φ ψ∧y.1=n∧()=g∧St ψ (F) w_) ((0:Int),false,()) rfl ⟨φ,(Sub.refl _),rfl,rfl,s0⟩ ?_ ?_
  ·rintro _ z2 a8 _ _ ⟨i,c,rfl,rfl,d⟩ a o j k p
   try dsimp only at a o j k
   refine Az (by rw [f]; exact decide_eq_true j) ?_
   obtain ⟨q,s,a⟩:=bS a
   obtain ⟨a9,aa,t,u,w,z⟩:=(e.mono c).get s
   refine AG _ t (AZ u ?_)
   obtain rfl:=w
   refine AL (x:=q) (AB (Sub.trans (Sub.refl _) d.sub) (z 0 _ rfl)) rfl ?_
   refine AH a rfl (fun _ a=> ?_) (fun _ a=> ?_)
   ·obtain rfl:=iS a
    obtain rfl:=p _ rfl
    try dsimp only at hd
    obtain rfl:=iS hd
    exact AU (AY (AC ⟨i,true,c,rfl,rfl,d⟩))
   obtain rfl:=iS a
   exact Ar ((IntKind.wrap .i64 (z2.1+(1:Int))),z2.2.1,()) _ rfl rfl ⟨i,c,k,rfl,d⟩
  ·rintro _ z2 ab _ ⟨a0,a1,rfl,rfl,a2⟩ a3 a4
   subst a4
   refine Al (by rw [f]; exact decide_eq_false (Int.not_lt.2 a3)) ?_
   exact AO (AS (z2.1,z2.2.1,()) rfl ⟨a0,a1,rfl,a2⟩)
 rintro z1 ac ⟨a5,a6,rfl,a7⟩
 try dsimp only at hd
 obtain rfl:=iS hd
 exact AC ⟨a5,false,a6,rfl,rfl,a7⟩
noncomputable def BK (l_0:List BI) (x_1:BI):Option Bool:=
 (CI (σ:=Unit) (β:=Bool) (0:Int) (((List.length l_0):Nat):Int) () fun i_z3 z3=>
  (idx l_0 i_z3).bind fun e25=>
  cond ((e25.1==x_1.1) && ((e25.2==x_1.2) && true))
  (some (AR.done true))
  (some (AR.next ()))).bind fun e_z2=>match e_z2 with
 | .next z2=>
  some false
 | .done q42=>some q42
theorem CG {φ:AE} {h:AF} {F:List Chk} {l_0:Slc} {c:List BI} {x_1:Int×Int×Unit} (e:Ro.SliceIs Bx φ l_0 c) (s0:St φ (F) h) {r:Bool} (hd:BK c (x_1.1,x_1.2.1)=some r):
 CallsH Tryd.prog 18 [(.slice l_0.1 l_0.2.1 l_0.2.2),(.agg #[(.int .i64 x_1.1),(.int .i64 x_1.2.1)])] h (BO fun v h'=> ∃ψ:AE,∃y:Bool,Sub φ ψ∧v=((.one (.atom .bool)):Sh).val y∧y=r∧St ψ (F) h'):=by
 refine Aa mixed Tryd.func18 ?_
 rw [F1]
 unfold EV
 unfold BK at hd
 have f:l_0.2.1=List.length c:=e.length
 refine Ac (vs:= [.int .i64 x_1.1, .int .i64 x_1.2.1]) s0 fun r1 ad n=> ?_
 obtain ⟨o,p,hd⟩:=bS hd
 refine Ad (fun (y:Int×Bool×Unit) w_ g=> ∃ψ:AE,Sub φ ψ∧AR.next ()=g∧St ψ (cW 44 r1 [.int .i64 x_1.1, .int .i64 x_1.2.1] ::F) w_) (g:=o) ?_ ?_
 ·refine BQ p (fun q (y:Int×Bool×Unit) w_ g=> ∃ψ:AE,Sub φ ψ∧y.1=q∧()=g∧St ψ (cW 44 r1 [.int .i64 x_1.1, .int .i64 x_1.2.1] ::F) w_) ((0:Int),false,()) rfl ⟨φ,(Sub.refl _),rfl,rfl,n⟩ ?_ ?_
  ·rintro _ z3 ae _ _ ⟨i,d,rfl,rfl,b⟩ a s j k t
   try dsimp only at a s j k
   refine Az (by rw [f]; exact decide_eq_true j) ?_
   obtain ⟨l,u,a⟩:=bS a
   obtain ⟨af,ag,w,z,a0,m⟩:=(e.mono d).get u
   refine AG _ w (AZ z ?_)
   obtain ⟨_,_,rfl,a1,a2⟩:=a0
   obtain rfl:=a1
   obtain rfl:=a2
   refine AL (x:=l.1) (AB (Sub.trans (Sub.refl _) b.sub) (m 0 _ rfl)) rfl ?_
   refine AL (x:=l.2) (by rw [AV]; exact (AB (Sub.trans (Sub.refl _) b.sub) (m 1 _ rfl))) rfl ?_
   refine AA (x:=x_1.1) b rfl ?_
   refine AA (x:=x_1.2.1) b rfl ?_
   refine AH a rfl (fun _ a=> ?_) (fun _ a=> ?_)
   ·obtain rfl:=iS a
    obtain rfl:=t _ rfl
    try dsimp only at hd
    obtain rfl:=iS hd
    have a3:=b.tail
    exact AU (AY (AC ⟨i,true,d,rfl,rfl,a3⟩))
   obtain rfl:=iS a
   exact Ar ((IntKind.wrap .i64 (z3.1+(1:Int))),z3.2.1,()) _ rfl rfl ⟨i,d,k,rfl,b⟩
  ·rintro _ z3 ah _ ⟨a4,a5,rfl,rfl,a6⟩ a7 a8
   subst a8
   refine Al (by rw [f]; exact decide_eq_false (Int.not_lt.2 a7)) ?_
   exact AO (AS (z3.1,z3.2.1,()) rfl ⟨a4,a5,rfl,a6⟩)
 rintro z2 ai ⟨a9,aa,rfl,ab⟩
 try dsimp only at hd
 obtain rfl:=iS hd
 have ac:=ab.tail
 exact AC ⟨a9,false,aa,rfl,rfl,ac⟩
noncomputable def BW (a_0:List BI) (b_1:List BI):Option Bool:=
 cond ((((List.length a_0):Nat):Int) !=(((List.length b_1):Nat):Int))
 (some false)
 ((CI (σ:=Unit) (β:=Bool) (0:Int) (((List.length a_0):Nat):Int) () fun i_z2 z2=>
  (idx a_0 i_z2).bind fun e25=>
  (idx b_1 i_z2).bind fun e36=>
  cond (!((e25.1==e36.1) && ((e25.2==e36.2) && true)))
  (some (AR.done false))
  (some (AR.next ()))).bind fun e_z1=>match e_z1 with
  | .next z1=>
   some true
  | .done q51=>some q51)
theorem DQ {φ:AE} {h:AF} {F:List Chk} {a_0:Slc} {d:List BI} {b_1:Slc} {e:List BI} (i:Ro.SliceIs Bx φ a_0 d) (j:Ro.SliceIs Bx φ b_1 e) (s0:St φ (F) h) {r:Bool} (hd:BW d e=some r):
 CallsH Tryd.prog 20 [(.slice a_0.1 a_0.2.1 a_0.2.2),(.slice b_1.1 b_1.2.1 b_1.2.2)] h (BO fun v h'=> ∃ψ:AE,∃y:Bool,Sub φ ψ∧v=((.one (.atom .bool)):Sh).val y∧y=r∧St ψ (F) h'):=by
 refine Aa mixed Tryd.func20 ?_
 rw [FS]
 unfold Ds
 unfold BW at hd
 have f:a_0.2.1=List.length d:=i.length
 have s:b_1.2.1=List.length e:=j.length
 refine AH hd (by rw [f,s] <;>rfl) (fun _ hd=> ?_) (fun _ hd=> ?_)
 ·obtain rfl:=iS hd
  exact AC ⟨φ,false,(Sub.refl _),rfl,rfl,s0⟩
 obtain ⟨t,u,hd⟩:=bS hd
 refine Ad (fun (y:Int×Bool×Unit) w_ g=> ∃ψ:AE,Sub φ ψ∧AR.next ()=g∧St ψ (F) w_) (g:=t) ?_ ?_
 ·refine BQ u (fun w (y:Int×Bool×Unit) w_ g=> ∃ψ:AE,Sub φ ψ∧y.1=w∧()=g∧St ψ (F) w_) ((0:Int),false,()) rfl ⟨φ,(Sub.refl _),rfl,rfl,s0⟩ ?_ ?_
  ·rintro _ z2 al _ _ ⟨k,c,rfl,rfl,b⟩ a z l m a0
   try dsimp only at a z l m
   refine Az (by rw [f]; exact decide_eq_true l) ?_
   obtain ⟨n,a1,a⟩:=bS a
   obtain ⟨am,an,a2,a3,a4,o⟩:=(i.mono c).get a1
   refine AG _ a2 (AZ a3 ?_)
   obtain ⟨_,_,rfl,a5,a6⟩:=a4
   obtain rfl:=a5
   obtain rfl:=a6
   refine AL (x:=n.1) (AB (Sub.trans (Sub.refl _) b.sub) (o 0 _ rfl)) rfl ?_
   refine AL (x:=n.2) (by rw [AV]; exact (AB (Sub.trans (Sub.refl _) b.sub) (o 1 _ rfl))) rfl ?_
   obtain ⟨p,a7,a⟩:=bS a
   obtain ⟨ao,ap,a8,a9,aa,q⟩:=(j.mono c).get a7
   refine AG _ a8 (AZ a9 ?_)
   obtain ⟨_,_,rfl,ab,ac⟩:=aa
   obtain rfl:=ab
   obtain rfl:=ac
   refine AL (x:=p.1) (AB (Sub.trans (Sub.refl _) b.sub) (q 0 _ rfl)) rfl ?_
   refine AL (x:=p.2) (by rw [AV]; exact (AB (Sub.trans (Sub.refl _) b.sub) (q 1 _ rfl))) rfl ?_
   refine AH a rfl (fun _ a=> ?_) (fun _ a=> ?_)
   ·obtain rfl:=iS a
    obtain rfl:=a0 _ rfl
    try dsimp only at hd
    obtain rfl:=iS hd
    exact AU (AY (AC ⟨k,false,c,rfl,rfl,b⟩))
   obtain rfl:=iS a
   exact Ar ((IntKind.wrap .i64 (z2.1+(1:Int))),z2.2.1,()) _ rfl rfl ⟨k,c,m,rfl,b⟩
  ·rintro _ z2 aq _ ⟨ad,ae,rfl,rfl,af⟩ ag ah
   subst ah
   refine Al (by rw [f]; exact decide_eq_false (Int.not_lt.2 ag)) ?_
   exact AO (AS (z2.1,z2.2.1,()) rfl ⟨ad,ae,rfl,af⟩)
 rintro z1 ar ⟨ai,aj,rfl,ak⟩
 try dsimp only at hd
 obtain rfl:=iS hd
 exact AC ⟨ai,true,aj,rfl,rfl,ak⟩
noncomputable def ER (n_0:Int):Option Int:=
 some (if (if (1099511627776:Int) <n_0 then (1099511627776:Int) else n_0) >(0:Int) then (if (1099511627776:Int) <n_0 then (1099511627776:Int) else n_0) else (0:Int))
theorem IC {φ:AE} {h:AF} {F:List Chk} {n_0:Int} (s0:St φ (F) h) {r:Int} (hd:ER n_0=some r):
 CallsH Tryd.prog 42 [(.int .i64 n_0)] h (BO fun v h'=> ∃ψ:AE,∃y:Int,Sub φ ψ∧v=((.one (.atom (.int .i64))):Sh).val y∧y=r∧St ψ (F) h'):=by
 refine Aa mixed Tryd.func42 ?_
 rw [IA]
 unfold HC
 unfold ER at hd
 obtain rfl:=iS hd
 exact AC ⟨φ,(if (if (1099511627776:Int) <n_0 then (1099511627776:Int) else n_0) >(0:Int) then (if (1099511627776:Int) <n_0 then (1099511627776:Int) else n_0) else (0:Int)),(Sub.refl _),rfl,rfl,s0⟩
noncomputable def DF (limit_0:Int):Option B6:=
 (ER limit_0).bind fun t1=>
 some (t1,(0:Int),(0:Int))
theorem Gh {φ:AE} {h:AF} {F:List Chk} {limit_0:Int} (s0:St φ (F) h) {r:B6} (hd:DF limit_0=some r):
 CallsH Tryd.prog 26 [(.int .i64 limit_0)] h (BO fun v h'=> ∃ψ:AE,∃y:Option Addr,∃a:B6,Sub φ ψ∧v=((.one (.atom .pointer)):Sh).val y∧a=r∧St ψ (cO 101 (Rep.ro Do) y a::F) h'):=by
 refine Aa mixed Tryd.func26 ?_
 rw [Ig]
 unfold Hm
 unfold DF at hd
 obtain ⟨i,b,hd⟩:=bS hd
 refine AK (IC s0 b) ?_
 rintro _ j ⟨c,t1,d,rfl,rfl,e⟩
 refine ⟨t1,rfl,?_⟩
 refine Ac (vs:= [.int .i64 t1, .int .i64 (0:Int), .int .i64 (0:Int)]) e fun r2 k f=> ?_
 have g:=St.shutR (r:=Do) (x:=(t1,(0:Int),(0:Int))) f ⟨[_],_,rfl,rfl,⟨[_],_,rfl,rfl,rfl⟩⟩
 obtain rfl:=iS hd
 exact AC ⟨c,(some ⟨r2,0,none⟩),(t1,(0:Int),(0:Int)),d,rfl,rfl,g⟩
noncomputable def CQ (m_0:B6):Option Int:=
 some (IntKind.wrap .i64 ((m_0.1) - (m_0.2.1)))
theorem F9 {φ:AE} {h:AF} {F:List Chk} {m_0:Option Addr} {a:B6} (s0:St φ (cO 101 (Rep.ro Do) m_0 a::F) h) {r:Int} (hd:CQ a=some r):
 CallsH Tryd.prog 49 [(.pointer m_0)] h (BO fun v h'=> ∃ψ:AE,∃y:Int,Sub φ ψ∧v=((.one (.atom (.int .i64))):Sh).val y∧y=r∧St ψ (cO 101 (Rep.ro Do) m_0 a::F) h'):=by
 refine Aa mixed Tryd.func49 ?_
 rw [F8]
 unfold Ed
 unfold CQ at hd
 obtain ⟨e,f,c,⟨_,_,rfl,rfl,_,_,rfl,rfl,rfl⟩,b⟩:=St.openR s0
 subst c
 refine AG _ rfl ?_
 refine AA (x:=(a.1)) b rfl ?_
 refine AG _ rfl ?_
 refine AA (x:=(a.2.1)) b rfl ?_
 have d:=St.shutR (r:=Do) (x:=((a.1),(a.2.1),(a.2.2))) b ⟨[_],_,rfl,rfl,⟨[_],_,rfl,rfl,rfl⟩⟩
 obtain rfl:=iS hd
 exact AC ⟨φ,(IntKind.wrap .i64 ((a.1) - (a.2.1))),(Sub.refl _),rfl,rfl,d⟩
noncomputable def Bo (m_0:B6) (n_1:Int):Option (Int×B6):=
 cond (decide (n_1< (0:Int)))
 (some ((1:Int),m_0))
 ((CQ m_0).bind fun t1=>
  cond (decide (n_1>t1))
  (some ((5:Int),m_0))
  (some ((0:Int),((m_0.1),(IntKind.wrap .i64 ((m_0.2.1) +n_1)),(if (IntKind.wrap .i64 ((m_0.2.1) +n_1)) >(m_0.2.2) then (IntKind.wrap .i64 ((m_0.2.1) +n_1)) else (m_0.2.2))))))
theorem Dx {φ:AE} {h:AF} {F:List Chk} {m_0:Option Addr} {a:B6} {n_1:Int} (s0:St φ (cO 101 (Rep.ro Do) m_0 a::F) h) {r:(Int×B6)} (hd:Bo a n_1=some r):
 CallsH Tryd.prog 30 [(.pointer m_0),(.int .i64 n_1)] h (BO fun v h'=> ∃ψ:AE,∃y:Int,∃c:B6,Sub φ ψ∧v=((.one (.atom (.int .i64))):Sh).val y∧(y,c)=r∧St ψ (cO 101 (Rep.ro Do) m_0 c::F) h'):=by
 refine Aa mixed Tryd.func30 ?_
 rw [F4]
 unfold EY
 unfold Bo at hd
 refine AH hd rfl (fun _ hd=> ?_) (fun _ hd=> ?_)
 ·obtain rfl:=iS hd
  exact AC ⟨φ,(1:Int),a,(Sub.refl _),rfl,rfl,s0⟩
 obtain ⟨m,i,hd⟩:=bS hd
 refine AK (F9 s0 i) ?_
 rintro _ n ⟨d,t1,e,rfl,rfl,f⟩
 refine ⟨t1,rfl,?_⟩
 refine AH hd rfl (fun _ hd=> ?_) (fun _ hd=> ?_)
 ·obtain rfl:=iS hd
  exact AC ⟨d,(5:Int),a,e,rfl,rfl,f⟩
 obtain ⟨o,p,j,⟨_,_,rfl,rfl,_,_,rfl,rfl,rfl⟩,g⟩:=St.openR f
 subst j
 refine AG _ rfl ?_
 refine AA (x:=(a.2.1)) g rfl ?_
 refine AG _ rfl ?_
 refine AJ g rfl rfl fun q b=> ?_
 refine AG _ rfl ?_
 refine AA (x:=(a.2.2)) b rfl ?_
 refine AG _ rfl ?_
 refine AA (x:=(IntKind.wrap .i64 ((a.2.1) +n_1))) b rfl ?_
 refine AG _ rfl ?_
 refine AJ b rfl rfl fun s k=> ?_
 have l:=St.shutR (r:=Do) (x:=((a.1),(IntKind.wrap .i64 ((a.2.1) +n_1)),(if (IntKind.wrap .i64 ((a.2.1) +n_1)) >(a.2.2) then (IntKind.wrap .i64 ((a.2.1) +n_1)) else (a.2.2)))) k ⟨[_],_,rfl,rfl,⟨[_],_,rfl,rfl,rfl⟩⟩
 obtain rfl:=iS hd
 exact AC ⟨d,(0:Int),((a.1),(IntKind.wrap .i64 ((a.2.1) +n_1)),(if (IntKind.wrap .i64 ((a.2.1) +n_1)) >(a.2.2) then (IntKind.wrap .i64 ((a.2.1) +n_1)) else (a.2.2))),e,rfl,rfl,l⟩
noncomputable def CR (m_0:B6):Option Int:=
 some (m_0.2.1)
theorem GA {φ:AE} {h:AF} {F:List Chk} {m_0:Option Addr} {a:B6} (s0:St φ (cO 101 (Rep.ro Do) m_0 a::F) h) {r:Int} (hd:CR a=some r):
 CallsH Tryd.prog 33 [(.pointer m_0)] h (BO fun v h'=> ∃ψ:AE,∃y:Int,Sub φ ψ∧v=((.one (.atom (.int .i64))):Sh).val y∧y=r∧St ψ (cO 101 (Rep.ro Do) m_0 a::F) h'):=by
 refine Aa mixed Tryd.func33 ?_
 rw [F6]
 unfold Ea
 unfold CR at hd
 obtain ⟨e,f,c,⟨_,_,rfl,rfl,_,_,rfl,rfl,rfl⟩,b⟩:=St.openR s0
 subst c
 refine AG _ rfl ?_
 refine AA (x:=(a.2.1)) b rfl ?_
 have d:=St.shutR (r:=Do) (x:=((a.1),(a.2.1),(a.2.2))) b ⟨[_],_,rfl,rfl,⟨[_],_,rfl,rfl,rfl⟩⟩
 obtain rfl:=iS hd
 exact AC ⟨φ,(a.2.1),(Sub.refl _),rfl,rfl,d⟩
noncomputable def Ai (l_0:List ByteArray) (s_1:ByteArray):Option Int:=
 (CI (σ:=Unit) (β:=Int) (0:Int) (((List.length l_0):Nat):Int) () fun i_z2 z2=>
  (idx l_0 i_z2).bind fun e23=>
  cond (ByteArray.toList e23==ByteArray.toList s_1)
  (some (AR.done i_z2))
  (some (AR.next ()))).bind fun e_z1=>match e_z1 with
 | .next z1=>
  some (-1:Int)
 | .done q36=>some q36
theorem Eh {φ:AE} {h:AF} {F:List Chk} {l_0:Slc} {b:List ByteArray} {s_1:ByteArray} (e:Ro.SliceIs Ro.str φ l_0 b) (s0:St φ (F) h) {r:Int} (hd:Ai b s_1=some r):
 CallsH Tryd.prog 39 [(.slice l_0.1 l_0.2.1 l_0.2.2),(.string s_1)] h (BO fun v h'=> ∃ψ:AE,∃y:Int,Sub φ ψ∧v=((.one (.atom (.int .i64))):Sh).val y∧y=r∧St ψ (F) h'):=by
 refine Aa mixed Tryd.func39 ?_
 rw [DO]
 unfold Ci
 unfold Ai at hd
 have f:l_0.2.1=List.length b:=e.length
 obtain ⟨l,m,hd⟩:=bS hd
 refine Ad (fun (y:Int×Int×Unit) w_ g=> ∃ψ:AE,Sub φ ψ∧AR.next ()=g∧St ψ (F) w_) (g:=l) ?_ ?_
 ·refine BQ m (fun n (y:Int×Int×Unit) w_ g=> ∃ψ:AE,Sub φ ψ∧y.1=n∧()=g∧St ψ (F) w_) ((0:Int),(0:Int),()) rfl ⟨φ,(Sub.refl _),rfl,rfl,s0⟩ ?_ ?_
  ·rintro _ z2 a8 _ _ ⟨i,c,rfl,rfl,d⟩ a o j k p
   try dsimp only at a o j k
   refine Az (by rw [f]; exact decide_eq_true j) ?_
   obtain ⟨q,s,a⟩:=bS a
   obtain ⟨a9,aa,t,u,w,z⟩:=(e.mono c).get s
   refine AG _ t (AZ u ?_)
   obtain rfl:=w
   refine AL (x:=q) (AB (Sub.trans (Sub.refl _) d.sub) (z 0 _ rfl)) rfl ?_
   refine AH a rfl (fun _ a=> ?_) (fun _ a=> ?_)
   ·obtain rfl:=iS a
    obtain rfl:=p _ rfl
    try dsimp only at hd
    obtain rfl:=iS hd
    exact AU (AY (AC ⟨i,z2.1,c,rfl,rfl,d⟩))
   obtain rfl:=iS a
   exact Ar ((IntKind.wrap .i64 (z2.1+(1:Int))),z2.2.1,()) _ rfl rfl ⟨i,c,k,rfl,d⟩
  ·rintro _ z2 ab _ ⟨a0,a1,rfl,rfl,a2⟩ a3 a4
   subst a4
   refine Al (by rw [f]; exact decide_eq_false (Int.not_lt.2 a3)) ?_
   exact AO (AS (z2.1,z2.2.1,()) rfl ⟨a0,a1,rfl,a2⟩)
 rintro z1 ac ⟨a5,a6,rfl,a7⟩
 try dsimp only at hd
 obtain rfl:=iS hd
 exact AC ⟨a5,(-1:Int),a6,rfl,rfl,a7⟩
theorem BL {φ:AE} {h:AF} {F:List Chk} {l_0:Slc} {b:List ByteArray} {s_1:ByteArray} (s0:St φ (cR 9 Ro.str l_0 b::F) h) {r:Int} (hd:Ai b s_1=some r):
 CallsH Tryd.prog 39 [(.slice l_0.1 l_0.2.1 l_0.2.2),(.string s_1)] h (BO fun v h'=> ∃ψ:AE,∃y:Int,Sub φ ψ∧v=((.one (.atom (.int .i64))):Sh).val y∧y=r∧St ψ (cR 9 Ro.str l_0 b::F) h'):=by
 refine Aa mixed Tryd.func39 ?_
 rw [DO]
 unfold Ci
 unfold Ai at hd
 have d:l_0.2.1=List.length b:=(s0).rowLen
 obtain ⟨k,l,hd⟩:=bS hd
 refine Ad (fun (y:Int×Int×Unit) w_ g=> ∃ψ:AE,Sub φ ψ∧AR.next ()=g∧St ψ (cR 9 Ro.str l_0 b::F) w_) (g:=k) ?_ ?_
 ·refine BQ l (fun m (y:Int×Int×Unit) w_ g=> ∃ψ:AE,Sub φ ψ∧y.1=m∧()=g∧St ψ (cR 9 Ro.str l_0 b::F) w_) ((0:Int),(0:Int),()) rfl ⟨φ,(Sub.refl _),rfl,rfl,s0⟩ ?_ ?_
  ·rintro _ z2 a7 _ _ ⟨e,f,rfl,rfl,c⟩ a n i j o
   try dsimp only at a n i j
   refine Az (by rw [d]; exact decide_eq_true i) ?_
   obtain ⟨p,q,a⟩:=bS a
   obtain ⟨a8,a9,s,t,u,w⟩:=(c).get q
   refine AG _ s (AZ t ?_)
   obtain rfl:=u
   refine AL (x:=p) (w 0 _ rfl) rfl ?_
   refine AH a rfl (fun _ a=> ?_) (fun _ a=> ?_)
   ·obtain rfl:=iS a
    obtain rfl:=o _ rfl
    try dsimp only at hd
    obtain rfl:=iS hd
    exact AU (AY (AC ⟨e,z2.1,f,rfl,rfl,c⟩))
   obtain rfl:=iS a
   exact Ar ((IntKind.wrap .i64 (z2.1+(1:Int))),z2.2.1,()) _ rfl rfl ⟨e,f,j,rfl,c⟩
  ·rintro _ z2 aa _ ⟨z,a0,rfl,rfl,a1⟩ a2 a3
   subst a3
   refine Al (by rw [d]; exact decide_eq_false (Int.not_lt.2 a2)) ?_
   exact AO (AS (z2.1,z2.2.1,()) rfl ⟨z,a0,rfl,a1⟩)
 rintro z1 ab ⟨a4,a5,rfl,a6⟩
 try dsimp only at hd
 obtain rfl:=iS hd
 exact AC ⟨a4,(-1:Int),a5,rfl,rfl,a6⟩
noncomputable def BX (g_0:DJ) (name_1:ByteArray):Option Int:=
 (CI (σ:=Unit) (β:=Int) (0:Int) (((List.length g_0.2.2.1):Nat):Int) () fun i_z3 z3=>
  (idx g_0.2.2.1 i_z3).bind fun e31=>
  (Ai e31.2 name_1).bind fun t8=>
  cond (decide (t8≥ (0:Int)))
  (some (AR.done (IntKind.wrap .i64 (i_z3+(1:Int)))))
  (some (AR.next ()))).bind fun e_z2=>match e_z2 with
 | .next z2=>
  some (0:Int)
 | .done q57=>some q57
theorem DR {φ:AE} {h:AF} {F:List Chk} {g_0:(Option Addr×Nat×Nat)×(Option Addr×Nat×Nat)×(Option Addr×Nat×Nat)×ByteArray×(Option Addr×Nat×Nat)×Unit} {c:List Gu} {d:List HT} {e:List FP} {f:List Dn} {name_1:ByteArray} (t:Ro.SliceIs Br φ g_0.1 c) (u:Ro.SliceIs B0 φ g_0.2.1 d) (j:Ro.SliceIs Bs φ g_0.2.2.1 e) (w:Ro.SliceIs Bq φ g_0.2.2.2.2.1 f) (s0:St φ (F) h) {r:Int} (hd:BX (c,d,e,g_0.2.2.2.1,f) name_1=some r):
 CallsH Tryd.prog 40 [(.agg #[(.slice g_0.1.1 g_0.1.2.1 g_0.1.2.2),(.slice g_0.2.1.1 g_0.2.1.2.1 g_0.2.1.2.2),(.slice g_0.2.2.1.1 g_0.2.2.1.2.1 g_0.2.2.1.2.2),(.string g_0.2.2.2.1),(.slice g_0.2.2.2.2.1.1 g_0.2.2.2.2.1.2.1 g_0.2.2.2.2.1.2.2)]),(.string name_1)] h (BO fun v h'=> ∃ψ:AE,∃y:Int,Sub φ ψ∧v=((.one (.atom (.int .i64))):Sh).val y∧y=r∧St ψ (F) h'):=by
 refine Aa mixed Tryd.func40 ?_
 rw [FU]
 unfold Du
 unfold BX at hd
 have an:g_0.1.2.1=List.length c:=t.length
 have ao:g_0.2.1.2.1=List.length d:=u.length
 have k:g_0.2.2.1.2.1=List.length e:=j.length
 have ap:g_0.2.2.2.2.1.2.1=List.length f:=w.length
 refine Ac (vs:= [sv g_0.1,sv g_0.2.1,sv g_0.2.2.1, .string g_0.2.2.2.1,sv g_0.2.2.2.2.1]) s0 fun r1 aq z=> ?_
 obtain ⟨a0,a1,hd⟩:=bS hd
 refine Ad (fun (y:Int×Int×Unit) w_ g=> ∃ψ:AE,Sub φ ψ∧AR.next ()=g∧St ψ (cW 66 r1 [sv g_0.1,sv g_0.2.1,sv g_0.2.2.1, .string g_0.2.2.2.1,sv g_0.2.2.2.2.1] ::F) w_) (g:=a0) ?_ ?_
 ·refine BQ a1 (fun a2 (y:Int×Int×Unit) w_ g=> ∃ψ:AE,Sub φ ψ∧y.1=a2∧()=g∧St ψ (cW 66 r1 [sv g_0.1,sv g_0.2.1,sv g_0.2.2.1, .string g_0.2.2.2.1,sv g_0.2.2.2.2.1] ::F) w_) ((0:Int),(0:Int),()) rfl ⟨φ,(Sub.refl _),rfl,rfl,z⟩ ?_ ?_
  ·rintro _ z3 ar _ _ ⟨au,i,rfl,rfl,b⟩ a a3 l m a4
   try dsimp only at a a3 l m
   refine AA (x:=g_0.2.2.1) b rfl ?_
   refine Az (by rw [k]; exact decide_eq_true l) ?_
   refine AA (x:=g_0.2.2.1) b rfl ?_
   obtain ⟨av,a5,a⟩:=bS a
   obtain ⟨aw,ax,a6,a7,a8,a9⟩:=(j.mono i).get a5
   refine AG _ a6 (AZ a7 ?_)
   obtain ⟨_,_,rfl,aa,ab⟩:=a8
   obtain rfl:=aa
   obtain ⟨ac,rfl,n⟩:=ab
   have ay:=n.length
   refine AL (x:=ac) (by rw [AV]; exact (AB (Sub.trans (Sub.refl _) b.sub) (a9 1 _ rfl))) rfl ?_
   obtain ⟨az,ad,a⟩:=bS a
   refine AK (Eh n b ad) ?_
   rintro _ b0 ⟨o,t8,p,rfl,rfl,q⟩
   refine ⟨t8,rfl,?_⟩
   refine AH a rfl (fun _ a=> ?_) (fun _ a=> ?_)
   ·obtain rfl:=iS a
    obtain rfl:=a4 _ rfl
    try dsimp only at hd
    obtain rfl:=iS hd
    have ae:=q.tail
    exact AU (AY (AC ⟨o,(IntKind.wrap .i64 (z3.1+(1:Int))),(i.trans p),rfl,rfl,ae⟩))
   obtain rfl:=iS a
   exact Ar ((IntKind.wrap .i64 (z3.1+(1:Int))),z3.2.1,()) _ rfl rfl ⟨o,(i.trans p),m,rfl,q⟩
  ·rintro _ z3 b1 _ ⟨af,ag,rfl,rfl,s⟩ ah ai
   subst ai
   refine AA (x:=g_0.2.2.1) s rfl ?_
   refine Al (by rw [k]; exact decide_eq_false (Int.not_lt.2 ah)) ?_
   exact AO (AS (z3.1,z3.2.1,()) rfl ⟨af,ag,rfl,s⟩)
 rintro z2 b2 ⟨aj,ak,rfl,al⟩
 try dsimp only at hd
 obtain rfl:=iS hd
 have am:=al.tail
 exact AC ⟨aj,(0:Int),ak,rfl,rfl,am⟩
noncomputable def A5 (p_0:(List ByteArray×List ByteArray)) (name_1:ByteArray):Option Int:=
 (Ai p_0.1 name_1).bind fun t3=>
 cond (decide (t3≥ (0:Int)))
 (some t3)
 ((Ai p_0.2 name_1).bind fun t5=>
  cond (decide (t5≥ (0:Int)))
  (some (IntKind.wrap .i64 ((((List.length p_0.1):Nat):Int) +t5)))
  (some (-1:Int)))
theorem CJ {φ:AE} {h:AF} {F:List Chk} {p_0:(Option Addr×Nat×Nat)×(Option Addr×Nat×Nat)×(Option Addr×Nat×Nat)×(Option Addr×Nat×Nat)×(Option Addr×Nat×Nat)×(Option Addr×Nat×Nat)×Unit} {a:List ByteArray} {b:List ByteArray} {name_1:ByteArray} (s0:St φ (cR 9 Ro.str p_0.1 a::cR 9 Ro.str p_0.2.1 b::F) h) {r:Int} (hd:A5 (a,b) name_1=some r):
 CallsH Tryd.prog 41 [(.agg #[(.slice p_0.1.1 p_0.1.2.1 p_0.1.2.2),(.slice p_0.2.1.1 p_0.2.1.2.1 p_0.2.1.2.2),(.slice p_0.2.2.1.1 p_0.2.2.1.2.1 p_0.2.2.1.2.2),(.slice p_0.2.2.2.1.1 p_0.2.2.2.1.2.1 p_0.2.2.2.1.2.2),(.slice p_0.2.2.2.2.1.1 p_0.2.2.2.2.1.2.1 p_0.2.2.2.2.1.2.2),(.slice p_0.2.2.2.2.2.1.1 p_0.2.2.2.2.2.1.2.1 p_0.2.2.2.2.2.1.2.2)]),(.string name_1)] h (BO fun v h'=> ∃ψ:AE,∃y:Int,Sub φ ψ∧v=((.one (.atom (.int .i64))):Sh).val y∧y=r∧St ψ (cR 9 Ro.str p_0.1 a::cR 9 Ro.str p_0.2.1 b::F) h'):=by
 refine Aa mixed Tryd.func41 ?_
 rw [F7]
 unfold Ec
 unfold A5 at hd
 have j:p_0.1.2.1=List.length a:=(s0).rowLen
 have a0:p_0.2.1.2.1=List.length b:=(s0.at1).rowLen
 refine Ac (vs:= [sv p_0.1,sv p_0.2.1,sv p_0.2.2.1,sv p_0.2.2.2.1,sv p_0.2.2.2.2.1,sv p_0.2.2.2.2.2.1]) s0 fun r1 a1 f=> ?_
 refine AA (x:=p_0.1) f rfl ?_
 have k:=f.at1
 obtain ⟨a2,l,hd⟩:=bS hd
 refine AK (BL k l) ?_
 rintro _ a3 ⟨m,t3,c,rfl,rfl,d⟩
 refine ⟨t3,rfl,?_⟩
 refine AH hd rfl (fun _ hd=> ?_) (fun _ hd=> ?_)
 ·obtain rfl:=iS hd
  have n:=d.at1.tail
  have o:=n.at1
  have p:=o.at1
  exact AC ⟨m,t3,c,rfl,rfl,p⟩
 refine AA (x:=p_0.2.1) d.at1 rfl ?_
 have q:=d.at2
 obtain ⟨a4,s,hd⟩:=bS hd
 refine AK (BL q s) ?_
 rintro _ a5 ⟨g,t5,i,rfl,rfl,e⟩
 refine ⟨t5,rfl,?_⟩
 refine AH hd rfl (fun _ hd=> ?_) (fun _ hd=> ?_)
 ·refine AA (x:=p_0.1) e.at2 rfl ?_
  obtain rfl:=iS hd
  have t:=e.at2.tail
  have u:=t.at1
  exact AC ⟨g,(IntKind.wrap .i64 (((p_0.1.2.1:Nat):Int) +t5)),(c.trans i),rfl,(by rw [j]),u⟩
 obtain rfl:=iS hd
 have w:=e.at2.tail
 have z:=w.at1
 exact AC ⟨g,(-1:Int),(c.trans i),rfl,rfl,z⟩
noncomputable def BM (a_0:Gg) (x_1:BI):Option Int:=
 (idx a_0.2.2.1 x_1.1).bind fun e33=>
 cond (decide (x_1.2≥ (((List.length e33.2.1):Nat):Int)))
 (some (-1:Int))
 ((idx e33.2.1 x_1.2).bind fun e51=>
  some e51)
theorem CS {φ:AE} {h:AF} {F:List Chk} {a_0:Option Addr} {a:Gg} {x_1:Int×Int×Unit} (s0:St φ (cO 70 (Rep.ro CL) a_0 a::F) h) {r:Int} (hd:BM a (x_1.1,x_1.2.1)=some r):
 CallsH Tryd.prog 44 [(.pointer a_0),(.agg #[(.int .i64 x_1.1),(.int .i64 x_1.2.1)])] h (BO fun v h'=> ∃ψ:AE,∃y:Int,Sub φ ψ∧v=((.one (.atom (.int .i64))):Sh).val y∧y=r∧St ψ (cO 70 (Rep.ro CL) a_0 a::F) h'):=by
 refine Aa mixed Tryd.func44 ?_
 rw [FV]
 unfold Dv
 unfold BM at hd
 refine Ac (vs:= [.int .i64 x_1.1, .int .i64 x_1.2.1]) s0 fun r1 ah s=> ?_
 obtain ⟨ai,aj,t,⟨_,_,rfl,⟨k,rfl,d⟩,_,_,rfl,⟨l,rfl,e⟩,_,_,rfl,⟨f,rfl,c⟩,_,_,rfl,⟨m,rfl,g⟩,_,_,rfl,⟨n,rfl,i⟩,_,_,rfl,⟨o,rfl,j⟩,_,_,rfl,rfl,rfl⟩,b⟩:=St.openR s.at1
 subst t
 have ak:=d.length
 have al:=e.length
 have am:=c.length
 have an:=g.length
 have ao:=i.length
 have ap:=j.length
 refine AG _ rfl ?_
 refine AA (x:=f) b rfl ?_
 refine AA (x:=x_1.1) b.at1 rfl ?_
 obtain ⟨aq,u,hd⟩:=bS hd
 obtain ⟨ar,au,w,z,a0,a1⟩:=c.get u
 refine AG _ w (AZ z ?_)
 obtain ⟨_,_,rfl,a2,a3⟩:=a0
 obtain rfl:=a2
 obtain ⟨_,_,rfl,a4,a5⟩:=a3
 obtain ⟨a6,rfl,p⟩:=a4
 have a7:=p.length
 obtain rfl:=a5
 refine AL (x:=a6) (by rw [AV]; exact (AB (Sub.trans (Sub.refl _) b.sub) (a1 1 _ rfl))) rfl ?_
 refine AA (x:=x_1.2.1) b.at1 rfl ?_
 refine AH hd (by rw [a7] <;>rfl) (fun _ hd=> ?_) (fun _ hd=> ?_)
 ·have a8:=St.shutR (r:=CL) (x:=(a.1,a.2.1,a.2.2.1,a.2.2.2.1,a.2.2.2.2.1,a.2.2.2.2.2.1,a.2.2.2.2.2.2.1,(a.2.2.2.2.2.2.2))) b ⟨[_],_,rfl,⟨k,rfl,d⟩,⟨[_],_,rfl,⟨l,rfl,e⟩,⟨[_],_,rfl,⟨f,rfl,c⟩,⟨[_],_,rfl,⟨m,rfl,g⟩,⟨[_],_,rfl,⟨n,rfl,i⟩,⟨[_],_,rfl,⟨o,rfl,j⟩,⟨[_],_,rfl,rfl,rfl⟩⟩⟩⟩⟩⟩⟩
  obtain rfl:=iS hd
  have a9:=a8.at1.tail
  exact AC ⟨φ,(-1:Int),(Sub.refl _),rfl,rfl,a9⟩
 refine AA (x:=x_1.2.1) b.at1 rfl ?_
 obtain ⟨q,aa,hd⟩:=bS hd
 obtain ⟨av,aw,ab,ac,ad,ae⟩:=p.get aa
 refine AG _ ab (AZ ac ?_)
 obtain rfl:=ad
 refine AL (x:=q) (AB (Sub.trans (Sub.refl _) b.sub) (ae 0 _ rfl)) rfl ?_
 have af:=St.shutR (r:=CL) (x:=(a.1,a.2.1,a.2.2.1,a.2.2.2.1,a.2.2.2.2.1,a.2.2.2.2.2.1,a.2.2.2.2.2.2.1,(a.2.2.2.2.2.2.2))) b ⟨[_],_,rfl,⟨k,rfl,d⟩,⟨[_],_,rfl,⟨l,rfl,e⟩,⟨[_],_,rfl,⟨f,rfl,c⟩,⟨[_],_,rfl,⟨m,rfl,g⟩,⟨[_],_,rfl,⟨n,rfl,i⟩,⟨[_],_,rfl,⟨o,rfl,j⟩,⟨[_],_,rfl,rfl,rfl⟩⟩⟩⟩⟩⟩⟩
 obtain rfl:=iS hd
 have ag:=af.at1.tail
 exact AC ⟨φ,q,(Sub.refl _),rfl,rfl,ag⟩
noncomputable def DS (p_0:Au) (sym_1:Int):Option Bool:=
 (cond (decide (sym_1≥ (0:Int)))
 (some (decide (sym_1< (((List.length p_0.1):Nat):Int))))
 (some false)).bind fun z2=>
 some z2
theorem ID {φ:AE} {h:AF} {F:List Chk} {p_0:(Option Addr×Nat×Nat)×(Option Addr×Nat×Nat)×(Option Addr×Nat×Nat)×(Option Addr×Nat×Nat)×(Option Addr×Nat×Nat)×(Option Addr×Nat×Nat)×Unit} {b:List ByteArray} {c:List ByteArray} {d:List Bu} {e:List Int} {f:List Int} {i:List ByteArray} {sym_1:Int} (k:Ro.SliceIs Ro.str φ p_0.1 b) (l:Ro.SliceIs Ro.str φ p_0.2.1 c) (m:Ro.SliceIs Aj φ p_0.2.2.1 d) (n:Ro.SliceIs (Ro.int .i64) φ p_0.2.2.2.1 e) (o:Ro.SliceIs (Ro.int .i64) φ p_0.2.2.2.2.1 f) (p:Ro.SliceIs Ro.str φ p_0.2.2.2.2.2.1 i) (s0:St φ (F) h) {r:Bool} (hd:DS (b,c,d,e,f,i) sym_1=some r):
 CallsH Tryd.prog 45 [(.agg #[(.slice p_0.1.1 p_0.1.2.1 p_0.1.2.2),(.slice p_0.2.1.1 p_0.2.1.2.1 p_0.2.1.2.2),(.slice p_0.2.2.1.1 p_0.2.2.1.2.1 p_0.2.2.1.2.2),(.slice p_0.2.2.2.1.1 p_0.2.2.2.1.2.1 p_0.2.2.2.1.2.2),(.slice p_0.2.2.2.2.1.1 p_0.2.2.2.2.1.2.1 p_0.2.2.2.2.1.2.2),(.slice p_0.2.2.2.2.2.1.1 p_0.2.2.2.2.2.1.2.1 p_0.2.2.2.2.2.1.2.2)]),(.int .i64 sym_1)] h (BO fun v h'=> ∃ψ:AE,∃y:Bool,Sub φ ψ∧v=((.one (.atom .bool)):Sh).val y∧y=r∧St ψ (F) h'):=by
 refine Aa mixed Tryd.func45 ?_
 rw [IB]
 unfold HD
 unfold DS at hd
 have q:p_0.1.2.1=List.length b:=k.length
 have a0:p_0.2.1.2.1=List.length c:=l.length
 have a1:p_0.2.2.1.2.1=List.length d:=m.length
 have a2:p_0.2.2.2.1.2.1=List.length e:=n.length
 have a3:p_0.2.2.2.2.1.2.1=List.length f:=o.length
 have a4:p_0.2.2.2.2.2.1.2.1=List.length i:=p.length
 refine Ac (vs:= [sv p_0.1,sv p_0.2.1,sv p_0.2.2.1,sv p_0.2.2.2.1,sv p_0.2.2.2.2.1,sv p_0.2.2.2.2.2.1]) s0 fun r1 a5 j=> ?_
 obtain ⟨s,a,hd⟩:=bS hd
 refine Ak (fun (y:Bool×Unit) w_ g=> ∃ψ:AE,Sub φ ψ∧y.1=g∧St ψ (cW 32 r1 [sv p_0.1,sv p_0.2.1,sv p_0.2.2.1,sv p_0.2.2.2.1,sv p_0.2.2.2.2.1,sv p_0.2.2.2.2.2.1] ::F) w_) (g:=s) ?_ ?_
 ·refine AH a rfl (fun _ a=> ?_) (fun _ a=> ?_)
  ·refine AA (x:=p_0.1) j rfl ?_
   obtain rfl:=iS a
   exact AN ((decide (sym_1< ((p_0.1.2.1:Nat):Int))),()) rfl ⟨φ,(Sub.refl _),(by rw [q]),j⟩
  obtain rfl:=iS a
  exact AN (false,()) rfl ⟨φ,(Sub.refl _),rfl,j⟩
 rintro z2 a6 ⟨t,u,rfl,w⟩
 try dsimp only at hd
 obtain rfl:=iS hd
 have z:=w.tail
 exact AC ⟨t,z2.1,u,rfl,rfl,z⟩
noncomputable def BG (s_0:List BI) (v_1:BI):Option Int:=
 (CI (σ:=Unit) (β:=Int) (0:Int) (((List.length s_0):Nat):Int) () fun i_z3 z3=>
  (idx s_0 i_z3).bind fun e25=>
  cond ((v_1.1==e25.1) && ((v_1.2==e25.2) && true))
  (some (AR.done i_z3))
  (some (AR.next ()))).bind fun e_z2=>match e_z2 with
 | .next z2=>
  some (-1:Int)
 | .done q42=>some q42
theorem Cj {φ:AE} {h:AF} {F:List Chk} {s_0:Slc} {b:List BI} {v_1:Int×Int×Unit} (s0:St φ (cR 44 Bx s_0 b::F) h) {r:Int} (hd:BG b (v_1.1,v_1.2.1)=some r):
 CallsH Tryd.prog 57 [(.slice s_0.1 s_0.2.1 s_0.2.2),(.agg #[(.int .i64 v_1.1),(.int .i64 v_1.2.1)])] h (BO fun v h'=> ∃ψ:AE,∃y:Int,Sub φ ψ∧v=((.one (.atom (.int .i64))):Sh).val y∧y=r∧St ψ (cR 44 Bx s_0 b::F) h'):=by
 refine Aa mixed Tryd.func57 ?_
 rw [DE]
 unfold CF
 unfold BG at hd
 have d:s_0.2.1=List.length b:=(s0).rowLen
 refine Ac (vs:= [.int .i64 v_1.1, .int .i64 v_1.2.1]) s0 fun r1 ai m=> ?_
 have n:=m.at1
 have o:=n.at1
 obtain ⟨p,q,hd⟩:=bS hd
 refine Ad (fun (y:Int×Int×Unit) w_ g=> ∃ψ:AE,Sub φ ψ∧AR.next ()=g∧St ψ (cW 44 r1 [.int .i64 v_1.1, .int .i64 v_1.2.1] ::cR 44 Bx s_0 b::F) w_) (g:=p) ?_ ?_
 ·refine BQ q (fun s (y:Int×Int×Unit) w_ g=> ∃ψ:AE,Sub φ ψ∧y.1=s∧()=g∧St ψ (cW 44 r1 [.int .i64 v_1.1, .int .i64 v_1.2.1] ::cR 44 Bx s_0 b::F) w_) ((0:Int),(0:Int),()) rfl ⟨φ,(Sub.refl _),rfl,rfl,o⟩ ?_ ?_
  ·rintro _ z3 aj _ _ ⟨e,f,rfl,rfl,c⟩ a t i j u
   try dsimp only at a t i j
   refine Az (by rw [d]; exact decide_eq_true i) ?_
   refine AA (x:=v_1.1) c rfl ?_
   refine AA (x:=v_1.2.1) c rfl ?_
   obtain ⟨k,w,a⟩:=bS a
   obtain ⟨ak,al,z,a0,a1,l⟩:=(c.at1).get w
   refine AG _ z (AZ a0 ?_)
   obtain ⟨_,_,rfl,a2,a3⟩:=a1
   obtain rfl:=a2
   obtain rfl:=a3
   refine AL (x:=k.1) (l 0 _ rfl) rfl ?_
   refine AL (x:=k.2) (by rw [AV]; exact (l 1 _ rfl)) rfl ?_
   refine AH a rfl (fun _ a=> ?_) (fun _ a=> ?_)
   ·obtain rfl:=iS a
    obtain rfl:=u _ rfl
    try dsimp only at hd
    obtain rfl:=iS hd
    have a4:=c.tail
    exact AU (AY (AC ⟨e,z3.1,f,rfl,rfl,a4⟩))
   have a5:=c.at1
   have a6:=a5.at1
   obtain rfl:=iS a
   exact Ar ((IntKind.wrap .i64 (z3.1+(1:Int))),z3.2.1,()) _ rfl rfl ⟨e,f,j,rfl,a6⟩
  ·rintro _ z3 am _ ⟨a7,a8,rfl,rfl,a9⟩ aa ab
   subst ab
   refine Al (by rw [d]; exact decide_eq_false (Int.not_lt.2 aa)) ?_
   have ac:=a9.at1
   have ad:=ac.at1
   exact AO (AS (z3.1,z3.2.1,()) rfl ⟨a7,a8,rfl,ad⟩)
 rintro z2 an ⟨ae,af,rfl,ag⟩
 try dsimp only at hd
 obtain rfl:=iS hd
 have ah:=ag.tail
 exact AC ⟨ae,(-1:Int),af,rfl,rfl,ah⟩
noncomputable def Aw (s_0:List BI) (v_1:BI):Option Bool:=
 (BG s_0 (v_1.1,v_1.2)).bind fun t4=>
 some (decide (t4≥ (0:Int)))
theorem CV {φ:AE} {h:AF} {F:List Chk} {s_0:Slc} {a:List BI} {v_1:Int×Int×Unit} (s0:St φ (cR 44 Bx s_0 a::F) h) {r:Bool} (hd:Aw a (v_1.1,v_1.2.1)=some r):
 CallsH Tryd.prog 46 [(.slice s_0.1 s_0.2.1 s_0.2.2),(.agg #[(.int .i64 v_1.1),(.int .i64 v_1.2.1)])] h (BO fun v h'=> ∃ψ:AE,∃y:Bool,Sub φ ψ∧v=((.one (.atom .bool)):Sh).val y∧y=r∧St ψ (cR 44 Bx s_0 a::F) h'):=by
 refine Aa mixed Tryd.func46 ?_
 rw [Cq]
 unfold B7
 unfold Aw at hd
 have j:s_0.2.1=List.length a:=(s0).rowLen
 refine Ac (vs:= [.int .i64 v_1.1, .int .i64 v_1.2.1]) s0 fun r1 k b=> ?_
 refine AA (x:=v_1.1) b rfl ?_
 refine AA (x:=v_1.2.1) b rfl ?_
 have c:=b.at1
 obtain ⟨l,d,hd⟩:=bS hd
 refine AK (Cj (v_1:=(v_1.1,v_1.2.1,())) c d) ?_
 rintro _ m ⟨e,t4,f,rfl,rfl,g⟩
 refine ⟨t4,rfl,?_⟩
 obtain rfl:=iS hd
 have i:=g.at1.tail
 exact AC ⟨e,(decide (t4≥ (0:Int))),f,rfl,rfl,i⟩
noncomputable def Bk (c_0:Int):Option Bool:=
 (cond (c_0==(95:Int))
 (some true)
 (cond (decide (c_0≥ (97:Int)))
  (cond (decide (c_0≤(122:Int)))
   (some true)
   (cond (decide (c_0≥ (65:Int)))
    (some (decide (c_0≤(90:Int))))
    (some false)))
  (cond (decide (c_0≥ (65:Int)))
   (some (decide (c_0≤(90:Int))))
   (some false)))).bind fun z1=>
 some z1
theorem FB {φ:AE} {h:AF} {F:List Chk} {c_0:Int} (s0:St φ (F) h) {r:Bool} (hd:Bk c_0=some r):
 CallsH Tryd.prog 85 [(.int .u8 c_0)] h (BO fun v h'=> ∃ψ:AE,∃y:Bool,Sub φ ψ∧v=((.one (.atom .bool)):Sh).val y∧y=r∧St ψ (F) h'):=by
 refine Aa mixed Tryd.func85 ?_
 rw [E9]
 unfold Db
 unfold Bk at hd
 obtain ⟨b,a,hd⟩:=bS hd
 refine Ak (fun (y:Bool×Unit) w_ g=> ∃ψ:AE,Sub φ ψ∧y.1=g∧St ψ (F) w_) (g:=b) ?_ ?_
 ·refine AH a rfl (fun _ a=> ?_) (fun _ a=> ?_)
  ·obtain rfl:=iS a
   exact AN (true,()) rfl ⟨φ,(Sub.refl _),rfl,s0⟩
  refine AH a rfl (fun _ a=> ?_) (fun _ a=> ?_)
  ·refine AH a rfl (fun _ a=> ?_) (fun _ a=> ?_)
   ·obtain rfl:=iS a
    exact AN (true,()) rfl ⟨φ,(Sub.refl _),rfl,s0⟩
   refine AH a rfl (fun _ a=> ?_) (fun _ a=> ?_)
   ·obtain rfl:=iS a
    exact AN ((decide (c_0≤(90:Int))),()) rfl ⟨φ,(Sub.refl _),rfl,s0⟩
   obtain rfl:=iS a
   exact AN (false,()) rfl ⟨φ,(Sub.refl _),rfl,s0⟩
  refine AH a rfl (fun _ a=> ?_) (fun _ a=> ?_)
  ·obtain rfl:=iS a
   exact AN ((decide (c_0≤(90:Int))),()) rfl ⟨φ,(Sub.refl _),rfl,s0⟩
  obtain rfl:=iS a
  exact AN (false,()) rfl ⟨φ,(Sub.refl _),rfl,s0⟩
 rintro z1 f ⟨c,d,rfl,e⟩
 try dsimp only at hd
 obtain rfl:=iS hd
 exact AC ⟨c,z1.1,d,rfl,rfl,e⟩
noncomputable def Ck (c_0:Int):Option Bool:=
 (cond (decide (c_0≥ (48:Int)))
 (some (decide (c_0≤(57:Int))))
 (some false)).bind fun z1=>
 some z1
theorem FX {φ:AE} {h:AF} {F:List Chk} {c_0:Int} (s0:St φ (F) h) {r:Bool} (hd:Ck c_0=some r):
 CallsH Tryd.prog 86 [(.int .u8 c_0)] h (BO fun v h'=> ∃ψ:AE,∃y:Bool,Sub φ ψ∧v=((.one (.atom .bool)):Sh).val y∧y=r∧St ψ (F) h'):=by
 refine Aa mixed Tryd.func86 ?_
 rw [FW]
 unfold Dw
 unfold Ck at hd
 obtain ⟨b,a,hd⟩:=bS hd
 refine Ak (fun (y:Bool×Unit) w_ g=> ∃ψ:AE,Sub φ ψ∧y.1=g∧St ψ (F) w_) (g:=b) ?_ ?_
 ·refine AH a rfl (fun _ a=> ?_) (fun _ a=> ?_)
  ·obtain rfl:=iS a
   exact AN ((decide (c_0≤(57:Int))),()) rfl ⟨φ,(Sub.refl _),rfl,s0⟩
  obtain rfl:=iS a
  exact AN (false,()) rfl ⟨φ,(Sub.refl _),rfl,s0⟩
 rintro z1 f ⟨c,d,rfl,e⟩
 try dsimp only at hd
 obtain rfl:=iS hd
 exact AC ⟨c,z1.1,d,rfl,rfl,e⟩
noncomputable def CM (s_0:ByteArray):Option Bool:=
 (CI (σ:=Unit) (β:=Bool) (0:Int) ((ByteArray.size s_0:Nat):Int) () fun i_z2 z2=>
  (need (0≤i_z2∧i_z2< (ByteArray.size s_0:Nat)) <|
  (Bk ((UInt8.toNat (C9 s_0 (Int.toNat i_z2)):Nat):Int)).bind fun t4=>
  cond (!t4)
  (cond (i_z2==(0:Int))
   (some true)
   (need (0≤i_z2∧i_z2< (ByteArray.size s_0:Nat)) <|
    (Ck ((UInt8.toNat (C9 s_0 (Int.toNat i_z2)):Nat):Int)).bind fun t5=>
    some (!t5)))
  (some false)).bind fun z3=>
  cond z3
  (some (AR.done false))
  (some (AR.next ()))).bind fun e_z1=>match e_z1 with
 | .next z1=>
  some (!(ByteArray.toList s_0==ByteArray.toList {data:= #[] }))
 | .done q47=>some q47
theorem Fm {φ:AE} {h:AF} {F:List Chk} {s_0:ByteArray} (s0:St φ (F) h) {r:Bool} (hd:CM s_0=some r):
 CallsH Tryd.prog 63 [(.string s_0)] h (BO fun v h'=> ∃ψ:AE,∃y:Bool,Sub φ ψ∧v=((.one (.atom .bool)):Sh).val y∧y=r∧St ψ (F) h'):=by
 refine Aa mixed Tryd.func63 ?_
 rw [Fl]
 unfold EJ
 unfold CM at hd
 obtain ⟨n,o,hd⟩:=bS hd
 refine Ad (fun (y:Int×Bool×Unit) w_ g=> ∃ψ:AE,Sub φ ψ∧AR.next ()=g∧St ψ (F) w_) (g:=n) ?_ ?_
 ·refine BQ o (fun p (y:Int×Bool×Unit) w_ g=> ∃ψ:AE,Sub φ ψ∧y.1=p∧()=g∧St ψ (F) w_) ((0:Int),false,()) rfl ⟨φ,(Sub.refl _),rfl,rfl,s0⟩ ?_ ?_
  ·rintro _ z2 ab _ _ ⟨q,e,rfl,rfl,s⟩ b t f i u
   try dsimp only at b t f i
   refine Az (by exact decide_eq_true f) ?_
   obtain ⟨w,a,b⟩:=bS b
   refine Ak (fun (y:Bool×Unit) w_ g=> ∃ψ:AE,Sub q ψ∧y.1=g∧St ψ (F) w_) (g:=w) ?_ ?_
   ·refine CP a id fun ac a=> ?_
    obtain ⟨ad,x,a⟩:=bS a
    refine AK (FB s x) ?_
    rintro _ ae ⟨j,t4,c,rfl,rfl,d⟩
    refine ⟨t4,rfl,?_⟩
    refine AH a rfl (fun _ a=> ?_) (fun _ a=> ?_)
    ·refine AH a rfl (fun _ a=> ?_) (fun _ a=> ?_)
     ·obtain rfl:=iS a
      exact AN (true,()) rfl ⟨j,c,rfl,d⟩
     refine CP a id fun af a=> ?_
     obtain ⟨ag,z,a⟩:=bS a
     refine AK (FX d z) ?_
     rintro _ ah ⟨a0,t5,a1,rfl,rfl,a2⟩
     refine ⟨t5,rfl,?_⟩
     obtain rfl:=iS a
     exact AN ((!t5),()) rfl ⟨a0,(c.trans a1),rfl,a2⟩
    obtain rfl:=iS a
    exact AN (false,()) rfl ⟨j,c,rfl,d⟩
   rintro z3 ai ⟨k,l,rfl,m⟩
   try dsimp only at b
   refine AH b rfl (fun _ b=> ?_) (fun _ b=> ?_)
   ·obtain rfl:=iS b
    obtain rfl:=u _ rfl
    try dsimp only at hd
    obtain rfl:=iS hd
    exact AU (AY (AC ⟨k,false,(e.trans l),rfl,rfl,m⟩))
   obtain rfl:=iS b
   exact Ar ((IntKind.wrap .i64 (z2.1+(1:Int))),z2.2.1,()) _ rfl rfl ⟨k,(e.trans l),i,rfl,m⟩
  ·rintro _ z2 aj _ ⟨a3,a4,rfl,rfl,a5⟩ a6 a7
   subst a7
   refine Al (by exact decide_eq_false (Int.not_lt.2 a6)) ?_
   exact AO (AS (z2.1,z2.2.1,()) rfl ⟨a3,a4,rfl,a5⟩)
 rintro z1 ak ⟨a8,a9,rfl,aa⟩
 try dsimp only at hd
 obtain rfl:=iS hd
 exact AC ⟨a8,(!(ByteArray.toList s_0==ByteArray.toList {data:= #[] })),a9,rfl,rfl,aa⟩
noncomputable def Ay (s_0:ByteArray):Option Bool:=
 (cond (decide (((ByteArray.size s_0:Nat):Int) ≤(32:Int)))
 ((CM s_0).bind fun t2=>
  some t2)
 (some false)).bind fun z1=>
 some z1
theorem Bl {φ:AE} {h:AF} {F:List Chk} {s_0:ByteArray} (s0:St φ (F) h) {r:Bool} (hd:Ay s_0=some r):
 CallsH Tryd.prog 52 [(.string s_0)] h (BO fun v h'=> ∃ψ:AE,∃y:Bool,Sub φ ψ∧v=((.one (.atom .bool)):Sh).val y∧y=r∧St ψ (F) h'):=by
 refine Aa mixed Tryd.func52 ?_
 rw [Fj]
 unfold EH
 unfold Ay at hd
 obtain ⟨b,a,hd⟩:=bS hd
 refine Ak (fun (y:Bool×Unit) w_ g=> ∃ψ:AE,Sub φ ψ∧y.1=g∧St ψ (F) w_) (g:=b) ?_ ?_
 ·refine AH a rfl (fun _ a=> ?_) (fun _ a=> ?_)
  ·obtain ⟨l,c,a⟩:=bS a
   refine AK (Fm s0 c) ?_
   rintro _ m ⟨d,t2,e,rfl,rfl,f⟩
   refine ⟨t2,rfl,?_⟩
   obtain rfl:=iS a
   exact AN (t2,()) rfl ⟨d,e,rfl,f⟩
  obtain rfl:=iS a
  exact AN (false,()) rfl ⟨φ,(Sub.refl _),rfl,s0⟩
 rintro z1 n ⟨i,j,rfl,k⟩
 try dsimp only at hd
 obtain rfl:=iS hd
 exact AC ⟨i,z1.1,j,rfl,rfl,k⟩
noncomputable def BP (p_0:HT):Option Bool:=
 cond (!(ByteArray.toList p_0.1==ByteArray.toList {data:= #[] }))
 ((cond (decide (((ByteArray.size p_0.1:Nat):Int) ≤(32:Int)))
  (cond (ByteArray.toList p_0.2.1==ByteArray.toList {data:= #[] })
   (some (!p_0.2.2))
   (some false))
  (some false)).bind fun z3=>
  some z3)
 ((CI (σ:=Unit) (β:=Bool) (1:Int) ((ByteArray.size p_0.2.1:Nat):Int) () fun i_z8 z8=>
  need (0≤i_z8∧i_z8< (ByteArray.size p_0.2.1:Nat)) <|
  need (0≤(IntKind.wrap .i64 (i_z8 - (1:Int)))∧(IntKind.wrap .i64 (i_z8 - (1:Int))) < (ByteArray.size p_0.2.1:Nat)) <|
  cond (decide (((UInt8.toNat (C9 p_0.2.1 (Int.toNat i_z8)):Nat):Int) ≤((UInt8.toNat (C9 p_0.2.1 (Int.toNat (IntKind.wrap .i64 (i_z8 - (1:Int))))):Nat):Int)))
  (some (AR.done false))
  (some (AR.next ()))).bind fun e_z7=>match e_z7 with
  | .next z7=>
   some (!(ByteArray.toList p_0.2.1==ByteArray.toList {data:= #[] }))
  | .done q40=>some q40)
theorem C3 {φ:AE} {h:AF} {F:List Chk} {p_0:ByteArray×ByteArray×Bool×Unit} (s0:St φ (F) h) {r:Bool} (hd:BP (p_0.1,p_0.2.1,p_0.2.2.1)=some r):
 CallsH Tryd.prog 53 [(.agg #[(.string p_0.1),(.string p_0.2.1),(.bool p_0.2.2.1)])] h (BO fun v h'=> ∃ψ:AE,∃y:Bool,Sub φ ψ∧v=((.one (.atom .bool)):Sh).val y∧y=r∧St ψ (F) h'):=by
 refine Aa mixed Tryd.func53 ?_
 rw [Ev]
 unfold DP
 unfold BP at hd
 refine Ac (vs:= [.string p_0.1, .string p_0.2.1, .bool p_0.2.2.1]) s0 fun r1 a8 c=> ?_
 refine AA (x:=p_0.1) c rfl ?_
 refine AH hd rfl (fun _ hd=> ?_) (fun _ hd=> ?_)
 ·obtain ⟨m,b,hd⟩:=bS hd
  refine Ak (fun (y:Bool×Unit) w_ g=> ∃ψ:AE,Sub φ ψ∧y.1=g∧St ψ (cW 92 r1 [.string p_0.1, .string p_0.2.1, .bool p_0.2.2.1] ::F) w_) (g:=m) ?_ ?_
  ·refine AA (x:=p_0.1) c rfl ?_
   refine AH b rfl (fun _ b=> ?_) (fun _ b=> ?_)
   ·refine AA (x:=p_0.2.1) c rfl ?_
    refine AH b rfl (fun _ b=> ?_) (fun _ b=> ?_)
    ·refine AA (x:=p_0.2.2.1) c rfl ?_
     obtain rfl:=iS b
     exact AN ((!p_0.2.2.1),()) rfl ⟨φ,(Sub.refl _),rfl,c⟩
    obtain rfl:=iS b
    exact AN (false,()) rfl ⟨φ,(Sub.refl _),rfl,c⟩
   obtain rfl:=iS b
   exact AN (false,()) rfl ⟨φ,(Sub.refl _),rfl,c⟩
  rintro z3 a9 ⟨n,o,rfl,p⟩
  try dsimp only at hd
  obtain rfl:=iS hd
  have q:=p.tail
  exact AC ⟨n,z3.1,o,rfl,rfl,q⟩
 obtain ⟨s,t,hd⟩:=bS hd
 refine Ad (fun (y:Int×Bool×Unit) w_ g=> ∃ψ:AE,Sub φ ψ∧AR.next ()=g∧St ψ (cW 92 r1 [.string p_0.1, .string p_0.2.1, .bool p_0.2.2.1] ::F) w_) (g:=s) ?_ ?_
 ·refine BQ t (fun u (y:Int×Bool×Unit) w_ g=> ∃ψ:AE,Sub φ ψ∧y.1=u∧()=g∧St ψ (cW 92 r1 [.string p_0.1, .string p_0.2.1, .bool p_0.2.2.1] ::F) w_) ((1:Int),false,()) rfl ⟨φ,(Sub.refl _),rfl,rfl,c⟩ ?_ ?_
  ·rintro _ z8 aa _ _ ⟨e,f,rfl,rfl,d⟩ a w i j z
   try dsimp only at a w i j
   refine AA (x:=p_0.2.1) d rfl ?_
   refine Az (by exact decide_eq_true i) ?_
   refine AA (x:=p_0.2.1) d rfl ?_
   refine CP a id fun ab a=> ?_
   refine AA (x:=p_0.2.1) d rfl ?_
   refine CP a id fun ac a=> ?_
   refine AH a rfl (fun _ a=> ?_) (fun _ a=> ?_)
   ·obtain rfl:=iS a
    obtain rfl:=z _ rfl
    try dsimp only at hd
    obtain rfl:=iS hd
    have a0:=d.tail
    exact AU (AY (AC ⟨e,false,f,rfl,rfl,a0⟩))
   obtain rfl:=iS a
   exact Ar ((IntKind.wrap .i64 (z8.1+(1:Int))),z8.2.1,()) _ rfl rfl ⟨e,f,j,rfl,d⟩
  ·rintro _ z8 ad _ ⟨a1,a2,rfl,rfl,k⟩ a3 a4
   subst a4
   refine AA (x:=p_0.2.1) k rfl ?_
   refine Al (by exact decide_eq_false (Int.not_lt.2 a3)) ?_
   exact AO (AS (z8.1,z8.2.1,()) rfl ⟨a1,a2,rfl,k⟩)
 rintro z7 ae ⟨a5,a6,rfl,l⟩
 try dsimp only at hd
 refine AA (x:=p_0.2.1) l rfl ?_
 obtain rfl:=iS hd
 have a7:=l.tail
 exact AC ⟨a5,(!(ByteArray.toList p_0.2.1==ByteArray.toList {data:= #[] })),a6,rfl,rfl,a7⟩
noncomputable def Bm (s_0:ByteArray):Option Bool:=
 cond (decide (((ByteArray.size s_0:Nat):Int) >(200:Int)))
 (some false)
 ((CI (σ:=Int) (β:=Bool) (0:Int) ((ByteArray.size s_0:Nat):Int) (1:Int) fun i_z2 z2=>
  need (0≤i_z2∧i_z2< (ByteArray.size s_0:Nat)) <|
  (cond (((UInt8.toNat (C9 s_0 (Int.toNat i_z2)):Nat):Int)==(123:Int))
  (some (IntKind.wrap .i64 (z2+(1:Int))))
  (some z2)).bind fun z3=>
  need (0≤i_z2∧i_z2< (ByteArray.size s_0:Nat)) <|
  (cond (((UInt8.toNat (C9 s_0 (Int.toNat i_z2)):Nat):Int)==(125:Int))
  (some (IntKind.wrap .i64 (z3 - (1:Int))))
  (some z3)).bind fun z4=>
  (cond (decide (z4>(4:Int)))
  (some true)
  (some (z4==(0:Int)))).bind fun z5=>
  cond z5
  (some (AR.done false))
  (some (AR.next z4))).bind fun e_z1=>match e_z1 with
  | .next z1=>
   some (z1==(1:Int))
  | .done q48=>some q48)
theorem DG {φ:AE} {h:AF} {F:List Chk} {s_0:ByteArray} (s0:St φ (F) h) {r:Bool} (hd:Bm s_0=some r):
 CallsH Tryd.prog 54 [(.string s_0)] h (BO fun v h'=> ∃ψ:AE,∃y:Bool,Sub φ ψ∧v=((.one (.atom .bool)):Sh).val y∧y=r∧St ψ (F) h'):=by
 refine Aa mixed Tryd.func54 ?_
 rw [E8]
 unfold Da
 unfold Bm at hd
 refine AH hd rfl (fun _ hd=> ?_) (fun _ hd=> ?_)
 ·obtain rfl:=iS hd
  exact AC ⟨φ,false,(Sub.refl _),rfl,rfl,s0⟩
 obtain ⟨w,x,hd⟩:=bS hd
 refine Ad (fun (y:Int×Int×Bool×Unit) w_ g=> ∃ψ:AE,Sub φ ψ∧AR.next y.2.1=g∧St ψ (F) w_) (g:=w) ?_ ?_
 ·refine BQ x (fun z (y:Int×Int×Bool×Unit) w_ g=> ∃ψ:AE,Sub φ ψ∧y.1=z∧y.2.1=g∧St ψ (F) w_) ((0:Int),(1:Int),false,()) rfl ⟨φ,(Sub.refl _),rfl,rfl,s0⟩ ?_ ?_
  ·rintro _ z2 ad _ _ ⟨e,j,rfl,rfl,k⟩ a a0 l m a1
   try dsimp only at a a0 l m
   refine Az (by exact decide_eq_true l) ?_
   refine CP a id fun ae a=> ?_
   obtain ⟨a2,b,a⟩:=bS a
   refine Ak (fun (y:Int×Unit) w_ g=> ∃ψ:AE,Sub e ψ∧y.1=g∧St ψ (F) w_) (g:=a2) ?_ ?_
   ·refine AH b rfl (fun _ b=> ?_) (fun _ b=> ?_)
    ·obtain rfl:=iS b
     exact AN ((IntKind.wrap .i64 (z2.2.1+(1:Int))),()) rfl ⟨e,(Sub.refl _),rfl,k⟩
    obtain rfl:=iS b
    exact AN (z2.2.1,()) rfl ⟨e,(Sub.refl _),rfl,k⟩
   rintro z3 af ⟨f,n,rfl,o⟩
   try dsimp only at a
   refine CP a id fun ag a=> ?_
   obtain ⟨a3,c,a⟩:=bS a
   refine Ak (fun (y:Int×Unit) w_ g=> ∃ψ:AE,Sub f ψ∧y.1=g∧St ψ (F) w_) (g:=a3) ?_ ?_
   ·refine AH c rfl (fun _ c=> ?_) (fun _ c=> ?_)
    ·obtain rfl:=iS c
     exact AN ((IntKind.wrap .i64 (z3.1 - (1:Int))),()) rfl ⟨f,(Sub.refl _),rfl,o⟩
    obtain rfl:=iS c
    exact AN (z3.1,()) rfl ⟨f,(Sub.refl _),rfl,o⟩
   rintro z4 ah ⟨i,p,rfl,q⟩
   try dsimp only at a
   obtain ⟨a4,d,a⟩:=bS a
   refine Ak (fun (y:Bool×Unit) w_ g=> ∃ψ:AE,Sub i ψ∧y.1=g∧St ψ (F) w_) (g:=a4) ?_ ?_
   ·refine AH d rfl (fun _ d=> ?_) (fun _ d=> ?_)
    ·obtain rfl:=iS d
     exact AN (true,()) rfl ⟨i,(Sub.refl _),rfl,q⟩
    obtain rfl:=iS d
    exact AN ((z4.1==(0:Int)),()) rfl ⟨i,(Sub.refl _),rfl,q⟩
   rintro z5 ai ⟨s,t,rfl,u⟩
   try dsimp only at a
   refine AH a rfl (fun _ a=> ?_) (fun _ a=> ?_)
   ·obtain rfl:=iS a
    obtain rfl:=a1 _ rfl
    try dsimp only at hd
    obtain rfl:=iS hd
    exact AU (AY (AC ⟨s,false,(((j.trans n).trans p).trans t),rfl,rfl,u⟩))
   obtain rfl:=iS a
   exact Ar ((IntKind.wrap .i64 (z2.1+(1:Int))),z4.1,z2.2.2.1,()) _ rfl rfl ⟨s,(((j.trans n).trans p).trans t),m,rfl,u⟩
  ·rintro _ z2 aj _ ⟨a5,a6,rfl,rfl,a7⟩ a8 a9
   subst a9
   refine Al (by exact decide_eq_false (Int.not_lt.2 a8)) ?_
   exact AO (AS (z2.1,z2.2.1,z2.2.2.1,()) rfl ⟨a5,a6,rfl,a7⟩)
 rintro z1 ak ⟨aa,ab,rfl,ac⟩
 try dsimp only at hd
 obtain rfl:=iS hd
 exact AC ⟨aa,(z1.2.1==(1:Int)),ab,rfl,rfl,ac⟩
noncomputable def BB (l_0:List ByteArray):Option Bool:=
 (CI (σ:=Unit) (β:=Bool) (0:Int) (((List.length l_0):Nat):Int) () fun i_z2 z2=>
  (idx l_0 i_z2).bind fun e23=>
  (Ay e23).bind fun t5=>
  cond (!t5)
  (some (AR.done false))
  ((CI (σ:=Unit) (β:=Bool) (0:Int) i_z2 () fun i_z7 z7=>
   (idx l_0 i_z7).bind fun e50=>
   (idx l_0 i_z2).bind fun e59=>
   cond (ByteArray.toList e50==ByteArray.toList e59)
   (some (AR.done false))
   (some (AR.next ()))).bind fun e_z6=>match e_z6 with
   | .next z6=>
    some (AR.next ())
   | .done q72=>some (AR.done q72))).bind fun e_z1=>match e_z1 with
 | .next z1=>
  some true
 | .done q85=>some q85
theorem Dc {φ:AE} {h:AF} {F:List Chk} {l_0:Slc} {k:List ByteArray} (e:Ro.SliceIs Ro.str φ l_0 k) (s0:St φ (F) h) {r:Bool} (hd:BB k=some r):
 CallsH Tryd.prog 55 [(.slice l_0.1 l_0.2.1 l_0.2.2)] h (BO fun v h'=> ∃ψ:AE,∃y:Bool,Sub φ ψ∧v=((.one (.atom .bool)):Sh).val y∧y=r∧St ψ (F) h'):=by
 refine Aa mixed Tryd.func55 ?_
 rw [Fk]
 unfold EI
 unfold BB at hd
 have l:l_0.2.1=List.length k:=e.length
 obtain ⟨w,z,hd⟩:=bS hd
 refine Ad (fun (y:Int×Bool×Unit) w_ g=> ∃ψ:AE,Sub φ ψ∧AR.next ()=g∧St ψ (F) w_) (g:=w) ?_ ?_
 ·refine BQ z (fun a0 (y:Int×Bool×Unit) w_ g=> ∃ψ:AE,Sub φ ψ∧y.1=a0∧()=g∧St ψ (F) w_) ((0:Int),false,()) rfl ⟨φ,(Sub.refl _),rfl,rfl,s0⟩ ?_ ?_
  ·rintro _ z2 b8 _ _ ⟨b9,c,rfl,rfl,m⟩ a a1 n o p
   try dsimp only at a a1 n o
   refine Az (by rw [l]; exact decide_eq_true n) ?_
   obtain ⟨a2,a3,a⟩:=bS a
   obtain ⟨ba,bb,a4,a5,a6,a7⟩:=(e.mono c).get a3
   refine AG _ a4 (AZ a5 ?_)
   obtain rfl:=a6
   refine AL (x:=a2) (AB (Sub.trans (Sub.refl _) m.sub) (a7 0 _ rfl)) rfl ?_
   obtain ⟨bc,a8,a⟩:=bS a
   refine AK (Bl m a8) ?_
   rintro _ bd ⟨f,t5,d,rfl,rfl,q⟩
   refine ⟨t5,rfl,?_⟩
   refine AH a rfl (fun _ a=> ?_) (fun _ a=> ?_)
   ·obtain rfl:=iS a
    obtain rfl:=p _ rfl
    try dsimp only at hd
    obtain rfl:=iS hd
    exact AU (AY (AC ⟨f,false,(c.trans d),rfl,rfl,q⟩))
   obtain ⟨a9,aa,a⟩:=bS a
   refine Ad (fun (y:Int×Bool×Unit) w_ g=> ∃ψ:AE,Sub f ψ∧AR.next ()=g∧St ψ (F) w_) (g:=a9) ?_ ?_
   ·refine BQ aa (fun ab (y:Int×Bool×Unit) w_ g=> ∃ψ:AE,Sub f ψ∧y.1=ab∧()=g∧St ψ (F) w_) ((0:Int),z2.2.1,()) rfl ⟨f,(Sub.refl _),rfl,rfl,q⟩ ?_ ?_
    ·rintro _ z7 be _ _ ⟨s,i,rfl,rfl,j⟩ b ac t u ad
     try dsimp only at b ac t u
     refine Az (by exact decide_eq_true t) ?_
     obtain ⟨ae,af,b⟩:=bS b
     obtain ⟨bf,bg,ag,ah,ai,aj⟩:=(e.mono ((c.trans d).trans i)).get af
     refine AG _ ag (AZ ah ?_)
     obtain rfl:=ai
     refine AL (x:=ae) (AB (Sub.trans (Sub.refl _) j.sub) (aj 0 _ rfl)) rfl ?_
     obtain ⟨ak,al,b⟩:=bS b
     obtain ⟨bh,bi,am,an,ao,ap⟩:=(e.mono ((c.trans d).trans i)).get al
     refine AG _ am (AZ an ?_)
     obtain rfl:=ao
     refine AL (x:=ak) (AB (Sub.trans (Sub.refl _) j.sub) (ap 0 _ rfl)) rfl ?_
     refine AH b rfl (fun _ b=> ?_) (fun _ b=> ?_)
     ·obtain rfl:=iS b
      obtain rfl:=ad _ rfl
      try dsimp only at a
      obtain rfl:=iS a
      obtain rfl:=p _ rfl
      try dsimp only at hd
      obtain rfl:=iS hd
      exact AU (AY (AU (AY (AC ⟨s,false,((c.trans d).trans i),rfl,rfl,j⟩))))
     obtain rfl:=iS b
     exact Ar ((IntKind.wrap .i64 (z7.1+(1:Int))),z7.2.1,()) _ rfl rfl ⟨s,i,u,rfl,j⟩
    ·rintro _ z7 bj _ ⟨aq,ar,rfl,rfl,au⟩ av aw
     subst aw
     refine Al (by exact decide_eq_false (Int.not_lt.2 av)) ?_
     exact AO (AS (z7.1,z7.2.1,()) rfl ⟨aq,ar,rfl,au⟩)
   rintro z6 bk ⟨ax,ay,rfl,az⟩
   try dsimp only at a
   obtain rfl:=iS a
   exact Ar ((IntKind.wrap .i64 (z2.1+(1:Int))),z6.2.1,()) _ rfl rfl ⟨ax,((c.trans d).trans ay),o,rfl,az⟩
  ·rintro _ z2 bl _ ⟨b0,b1,rfl,rfl,b2⟩ b3 b4
   subst b4
   refine Al (by rw [l]; exact decide_eq_false (Int.not_lt.2 b3)) ?_
   exact AO (AS (z2.1,z2.2.1,()) rfl ⟨b0,b1,rfl,b2⟩)
 rintro z1 bm ⟨b5,b6,rfl,b7⟩
 try dsimp only at hd
 obtain rfl:=iS hd
 exact AC ⟨b5,true,b6,rfl,rfl,b7⟩
def D9 {α:Type} (l:List α):Option (List α):=if l.length≤1073741824 then some l else none
theorem Hn {α:Type} {l r:List α} (h:D9 l=some r):l.length≤1073741824∧r=l:=by
 unfold D9 at h
 split at h
 ·rename_i g; exact ⟨g,(Option.some.inj h).symm⟩
 ·cases h
theorem N0:G6 Tryd.prog 40 40 44 2:=⟨Tryd.underlying40, .inl Tryd.underlying40,⟨Tryd.t44,by kernel_rfl,rfl,⟨_,rfl,rfl⟩,by decide,by decide⟩,by decide⟩
theorem No:G6 Tryd.prog 54 54 57 2:=⟨Tryd.underlying54, .inl Tryd.underlying54,⟨Tryd.t57,by kernel_rfl,rfl,⟨_,rfl,rfl⟩,by decide,by decide⟩,by decide⟩
section
variable {φ:AE} {h:AF} {F:List Chk}
theorem GB {t:Slc} {l r:List BI} (k:Ro.SliceIs Bx φ t l) (s0:St φ F h) (hd:D9 l=some r):
 CallsH Tryd.prog 34 [.slice t.1 t.2.1 t.2.2] h (BO fun v h'=> ∃ψ:AE,∃y:Slc,∃l1:List BI,Sub φ ψ∧v=((.one (.atom .slice)):Sh).val y∧l1=r∧St ψ (cR 44 Bx y l1::F) h'):=by
 obtain ⟨hb,rfl⟩:=Hn hd
 refine Aa mixed Tryd.func34 ?_
 rw [DC]
 unfold CD
 cases hp:t.1 with
 | none=>
  rw [k.2.2.2.1 hp]
  exact AC ⟨φ,(none,0,0), [],Sub.refl _,rfl,rfl,s0.nil _ _⟩
 | some a=>
  rw [Option.isNone_some]
  refine Ac (vs:= []) s0 fun b h1 s1=> ?_
  have s2:=St.lit (r:=Bx) (l:= []) (n:=0) s1 .nil rfl (by decide)
  obtain ⟨ws,ha,hc⟩:=k.heap s1.sub
  rw [hp] at hc
  refine Aq (r:=Bx) (ms:=r) (l':=r) N0 s2 rfl hc ha k.length.symm (by unfold app; rw [if_pos (by simpa using hb)]; rfl) fun y h2 s3=> ?_
  exact AC ⟨φ,y,_,Sub.refl _,rfl,rfl,s3⟩
theorem Jh {t:Slc} {l r:List Hr} (k:Ro.SliceIs Gt φ t l) (s0:St φ F h) (hd:D9 l=some r):
 CallsH Tryd.prog 37 [.slice t.1 t.2.1 t.2.2] h (BO fun v h'=> ∃ψ:AE,∃y:Slc,∃l1:List Hr,Sub φ ψ∧v=((.one (.atom .slice)):Sh).val y∧l1=r∧St ψ (cR 57 Gt y l1::F) h'):=by
 obtain ⟨hb,rfl⟩:=Hn hd
 refine Aa mixed Tryd.func37 ?_
 rw [DD]
 unfold CE
 cases hp:t.1 with
 | none=>
  rw [k.2.2.2.1 hp]
  exact AC ⟨φ,(none,0,0), [],Sub.refl _,rfl,rfl,s0.nil _ _⟩
 | some a=>
  rw [Option.isNone_some]
  refine Ac (vs:= []) s0 fun b h1 s1=> ?_
  have s2:=St.lit (r:=Gt) (l:= []) (n:=0) s1 .nil rfl (by decide)
  obtain ⟨ws,ha,hc⟩:=k.heap s1.sub
  rw [hp] at hc
  refine Aq (r:=Gt) (ms:=r) (l':=r) No s2 rfl hc ha k.length.symm (by unfold app; rw [if_pos (by simpa using hb)]; rfl) fun y h2 s3=> ?_
  exact AC ⟨φ,y,_,Sub.refl _,rfl,rfl,s3⟩
end
end Go.Proofs.YtnkmpgldbddnkaaDoor
namespace Go.Proofs.YtnkmpgldbddnkaaDoor
open Go Go.Shelf Go.Proofs
set_option maxRecDepth 100000
def Cv:Ren:=⟨fun x=>bif Nat.beq x 129 then 74 else bif Nat.beq x 176 then 43 else bif Nat.beq x 249 then 56 else bif Nat.beq x 283 then 87 else bif Nat.beq x 284 then 88 else bif Nat.beq x 285 then 89 else bif Nat.beq x 286 then 90 else bif Nat.beq x 288 then 64 else bif Nat.beq x 317 then 99 else bif Nat.beq x 318 then 100 else bif Nat.beq x 319 then 101 else bif Nat.beq x 320 then 102 else bif Nat.beq x 337 then 105 else bif Nat.beq x 338 then 106 else 0,fun x=>bif Nat.beq x 0 then 0 else bif Nat.beq x 2 then 2 else bif Nat.beq x 3 then 3 else bif Nat.beq x 4 then 4 else bif Nat.beq x 5 then 5 else bif Nat.beq x 9 then 9 else bif Nat.beq x 20 then 20 else bif Nat.beq x 37 then 22 else bif Nat.beq x 46 then 115 else bif Nat.beq x 51 then 128 else bif Nat.beq x 53 then 118 else bif Nat.beq x 171 then 138 else bif Nat.beq x 173 then 140 else bif Nat.beq x 212 then 151 else bif Nat.beq x 213 then 152 else bif Nat.beq x 232 then 157 else bif Nat.beq x 233 then 158 else 0,fun x=>bif Nat.beq x 17 then 0 else bif Nat.beq x 18 then 1 else bif Nat.beq x 19 then 2 else 0⟩
theorem Mo:Lays.n176 Tryd.prog Cv where
 mixed:=by kernel_rfl
 f129:=(Tryd.func74).trans (congrArg some (show Tryd.f74=Body.n129 Cv by kernel_rfl))
 f176:=(Tryd.func43).trans (congrArg some (show Tryd.f43=Body.n176 Cv by kernel_rfl))
 f249:=(Tryd.func56).trans (congrArg some (show Tryd.f56=Body.n249 Cv by kernel_rfl))
 f283:=(Tryd.func87).trans (congrArg some (show Tryd.f87=Body.n283 Cv by kernel_rfl))
 f284:=(Tryd.func88).trans (congrArg some (show Tryd.f88=Body.n284 Cv by kernel_rfl))
 f285:=(Tryd.func89).trans (congrArg some (show Tryd.f89=Body.n285 Cv by kernel_rfl))
 f286:=(Tryd.func90).trans (congrArg some (show Tryd.f90=Body.n286 Cv by kernel_rfl))
 f288:=(Tryd.func64).trans (congrArg some (show Tryd.f64=Body.n288 Cv by kernel_rfl))
 f317:=(Tryd.func99).trans (congrArg some (show Tryd.f99=Body.n317 Cv by kernel_rfl))
 f318:=(Tryd.func100).trans (congrArg some (show Tryd.f100=Body.n318 Cv by kernel_rfl))
 f319:=(Tryd.func101).trans (congrArg some (show Tryd.f101=Body.n319 Cv by kernel_rfl))
 f320:=(Tryd.func102).trans (congrArg some (show Tryd.f102=Body.n320 Cv by kernel_rfl))
 f337:=(Tryd.func105).trans (congrArg some (show Tryd.f105=Body.n337 Cv by kernel_rfl))
 f338:=(Tryd.func106).trans (congrArg some (show Tryd.f106=Body.n338 Cv by kernel_rfl))
 t0:=Tryd.underlying0
 a0:=Tryd.isAgg0
 z0:=Tryd.sizeOf0
 v0:=Tryd.zeroValue0
 t2:=Tryd.underlying2
 a2:=Tryd.isAgg2
 z2:=Tryd.sizeOf2
 v2:=Tryd.zeroValue2
 t3:=Tryd.underlying3
 a3:=Tryd.isAgg3
 z3:=Tryd.sizeOf3
 v3:=Tryd.zeroValue3
 t4:=Tryd.underlying4
 a4:=Tryd.isAgg4
 z4:=Tryd.sizeOf4
 v4:=Tryd.zeroValue4
 t5:=Tryd.underlying5
 a5:=Tryd.isAgg5
 z5:=Tryd.sizeOf5
 v5:=Tryd.zeroValue5
 t9:=Tryd.underlying9
 a9:=Tryd.isAgg9
 z9:=Tryd.sizeOf9
 v9:=Tryd.zeroValue9
 t20:=Tryd.underlying20
 a20:=Tryd.isAgg20
 z20:=Tryd.sizeOf20
 v20:=Tryd.zeroValue20
 t37:=Tryd.underlying22
 a37:=Tryd.isAgg22
 z37:=Tryd.sizeOf22
 v37:=Tryd.zeroValue22
 t46:=Tryd.underlying115
 a46:=Tryd.isAgg115
 z46:=Tryd.sizeOf115
 v46:=Tryd.zeroValue115
 t51:=Tryd.underlying128
 a51:=Tryd.isAgg128
 z51:=Tryd.sizeOf128
 v51:=Tryd.zeroValue128
 t53:=Tryd.underlying118
 a53:=Tryd.isAgg118
 z53:=Tryd.sizeOf118
 v53:=Tryd.zeroValue118
 t171:=Tryd.underlying138
 a171:=Tryd.isAgg138
 z171:=Tryd.sizeOf138
 v171:=Tryd.zeroValue138
 t173:=Tryd.underlying140
 a173:=Tryd.isAgg140
 z173:=Tryd.sizeOf140
 v173:=Tryd.zeroValue140
 t212:=Tryd.underlying151
 a212:=Tryd.isAgg151
 z212:=Tryd.sizeOf151
 v212:=Tryd.zeroValue151
 t213:=Tryd.underlying152
 a213:=Tryd.isAgg152
 z213:=Tryd.sizeOf152
 t232:=Tryd.underlying157
 a232:=Tryd.isAgg157
 z232:=Tryd.sizeOf157
 v232:=Tryd.zeroValue157
 t233:=Tryd.underlying158
 a233:=Tryd.isAgg158
 z233:=Tryd.sizeOf158
 v233:=Tryd.zeroValue158
 g17:=by kernel_rfl
 g18:=by kernel_rfl
 g19:=by kernel_rfl
theorem L0:LaysM.n176 Tryd.prog Cv:= {Mo with
 i0:=by kernel_rfl
 i2:=by kernel_rfl
 i3:=by kernel_rfl
 i4:=by kernel_rfl
 i5:=by kernel_rfl
 i9:=by kernel_rfl
 i20:=by kernel_rfl
 i37:=by kernel_rfl
 i46:=by kernel_rfl
 i51:=by kernel_rfl
 i53:=by kernel_rfl
 i171:=by kernel_rfl
 i173:=by kernel_rfl
 i212:=by kernel_rfl
 i232:=by kernel_rfl
 i233:=by kernel_rfl
 m17:=by kernel_rfl
 m18:=by kernel_rfl
 m19:=by kernel_rfl
 }
end Go.Proofs.YtnkmpgldbddnkaaDoor
namespace Go.Proofs.YtnkmpgldbddnkaaDoor
open Go Go.Eng Go.RowKit
set_option linter.unusedVariables false
set_option maxRecDepth 100000
def FC (φ:AE):Prop:= ∃g t f,Tryd.prog.globalNamed "internal/strconv.uint64pow10" =some g∧φ g=some (.cells (Lib.pow10Tab.map fun z=>Value.int .u64 z).toArray t f)
theorem FC.mono {φ ψ:AE} (H:FC φ) (hs:Sub φ ψ):FC ψ:=by
 obtain ⟨g,t,f,h1,h2⟩:=H
 exact ⟨g,t,f,h1,hs _ _ h2⟩
def B2 (i:Int):List Int:=(Lib.itoa i).map fun b=>(b.toNat:Int)
def Cm (l:List Int) (i b:Int):Option (List Int):=if b=10∧ -9223372036854775808≤i∧i≤9223372036854775807∧l.length≤1000000 then some (l++B2 i) else none
theorem JE (i:Int):Lib.byteCells (Lib.itoa i)=(B2 i).map (Bj.int .u8).val:=by
 unfold Lib.byteCells B2
 rw [List.map_map]
 rfl
class Mp (G:List Chk):Prop where
 off: ∀c ∈ G,∀φ h F,Chk.on φ h F c→ ∀k,F k→ ∃o:Obj,h[k]? =some o∧ ∀cs f,o ≠ .cells cs 5 f
instance Ny:Mp [] :=⟨fun c hc=>by cases hc⟩
instance Nq {b:Nat} {vs:List Value} {G:List Chk} [H:Mp G] :Mp (⟨Rep.raw 44, [.pointer (some ⟨b,0,none⟩)],vs⟩::G):=⟨fun c hc φ h F hon k hk=>by
 rcases List.mem_cons.1 hc with rfl | hc
 ·obtain ⟨b',e,hb,hF⟩:=hon
  have hkb:=(hF k).1 hk
  subst hkb
  exact ⟨_,hb,fun cs f e=>by cases e⟩
 ·exact H.off c hc φ h F hon k hk⟩
theorem Ji {φ:AE} {h h':AF} {X X':Fc} (hk: ∀(k:Nat) (o:Obj),h[k]? =some o→(∀cs f,o ≠ .cells cs 5 f)→h'[k]? =some o) (hX: ∀k,X' k→ ∃cs f,h'[k]? =some (.cells cs 5 f)) (hs:Sub φ (BT h')):
 ∀ {G:List Chk} {Y:Fc},(∀c ∈ G,∀φ h F,Chk.on φ h F c→ ∀k,F k→ ∃o:Obj,h[k]? =some o∧ ∀cs f,o ≠ .cells cs 5 f)→StX φ h G (fun k=>X k∨Y k)→StX φ h' G (fun k=>X' k∨Y k):=by
 intro G
 induction G with
 | nil=>intro Y _ _; exact hs
 | cons c G ih=>
  intro Y hG ⟨F,h1,h2,H⟩
  have hoff:=hG c (by simp) φ h F h1
  refine ⟨F,c.R.loc (fun k hF=> ?_) h1,fun k hF=>⟨(h2 k hF).1,fun g=> ?_⟩,(ih (Y:=fun k=>Y k∨F k) (fun c hc=>hG c (by simp [hc])) (H.less fun k hk=> ?_)).less fun k hk=> ?_⟩
  ·obtain ⟨o,ho,hno⟩:=hoff k hF
   rw [ho]; exact hk k o ho hno
  ·rcases g with g | g
   ·obtain ⟨o,ho,hno⟩:=hoff k hF
    obtain ⟨cs,f,hc⟩:=hX k g
    rw [hk k o ho hno] at hc
    exact hno cs f (Option.some.inj hc)
   ·exact (h2 k hF).2 (.inr g)
  ·rcases hk with hk | hk | hk
   ·exact .inl (.inl hk)
   ·exact .inl (.inr hk)
   ·exact .inr hk
  ·rcases hk with (hk | hk) | hk
   ·exact .inl hk
   ·exact .inr (.inl hk)
   ·exact .inr (.inr hk)
theorem Gi {h0 h:AF} {G:List Chk} [hG:Mp G] {t:Slc} {l:List Int} {i b:Int} (gk:FC (BT h0)) (s0:St (BT h0) (⟨Rep.row 5 (Ro.int .u8), [.slice t.1 t.2.1 t.2.2],l⟩::G) h) {r:List Int} (hd:Cm l i b=some r):
 CallsH Tryd.prog 43 [(.slice t.1 t.2.1 t.2.2),(.int .i64 i),(.int .i64 b)] h (BO fun v h'=> ∃ψ:AE,∃y:Option Addr×Nat×Nat,∃l':List Int,Sub (BT h0) ψ∧ψ=BT h0∧v=((.one (.atom .slice)):Sh).val y∧l'=r∧St ψ (⟨Rep.row 5 (Ro.int .u8), [.slice y.1 y.2.1 y.2.2],l'⟩::G) h'):=by
 unfold Cm at hd
 split at hd
 ·rename_i hg
  obtain ⟨rfl,h1,h2,hlen⟩:=hg
  cases hd
  obtain ⟨F,⟨p,n,c,vs,e,hn,hc,hf,ho,ha,hF⟩,hX,H⟩:=s0
  have hn:l.length=n:=hn
  have ha':vs=l.map (Bj.int .u8).val:=ET ha
  simp only [List.cons.injEq,Value.slice.injEq,and_true] at e
  obtain ⟨e1,e2,e3⟩:=e
  rw [e1,e2,e3]
  have hs:Sub (BT h0) (BT h):=H.sub
  have hB:h0.size≤h.size:=by
   rcases Nat.lt_or_ge h.size h0.size with g | g
   ·have h1:BT h0 h.size=some h0[h.size] :=Array.getElem?_eq_getElem g
    have:=A8 (hs _ _ h1)
    omega
   ·exact g
  have hold: ∀k,k<h0.size→(BT h0) k ≠ none:=fun k hk g=>by
   have h1:BT h0 k=some h0[k] :=Array.getElem?_eq_getElem hk
   rw [h1] at g; cases g
  have own:World.ownsRow (Cu h) h0.size 5 1 (.slice p n c) n vs:=by
   refine ⟨by rw [ha',List.length_map,hn,Nat.mul_one],?_⟩
   rcases ho with ⟨rfl,rfl,rfl,rfl⟩ | ⟨b,off,arr,rfl,hb,g1,g2,g3,g4⟩
   ·exact .inl ⟨rfl,rfl⟩
   ·obtain ⟨q1,q2⟩:=hf _ _ _ rfl
    subst q1
    have hsz:=q2 _ _ _ hb
    have hsz:arr.size=c * 1:=hsz
    have g1:vs.length=n * 1:=g1
    refine .inr ⟨b,c,arr,rfl,?_,hb,g2,hc,hsz,?_⟩
    ·rcases Nat.lt_or_ge b h0.size with g | g
     ·exact absurd (hX b ((hF b).2 (by simp [blk]))).1 (hold b g)
     ·exact g
    ·refine List.ext_getElem? fun i=> ?_
     rw [List.getElem?_take]
     split
     ·rename_i hi
      have hi':i<vs.length:=by omega
      have:=g4 i vs[i] (List.getElem?_eq_getElem hi')
      rw [List.getElem?_eq_getElem hi']
      simpa using this
     ·rw [List.getElem?_eq_none (by omega)]
  intro w hw
  subst hw
  refine (Any.strconv_AppendInt_10 L0 h0.size n i h1 h2 (.slice p n c) vs w own hB (by omega) (fun w' hb=> ?_)).mono ?_
  ·obtain ⟨g,t',f,g1,g2⟩:=gk
   have hg:w.heap[g]? =some (.cells (Lib.pow10Tab.map fun z=>Value.int .u64 z).toArray t' f):=hs _ _ g2
   have hlt:=A8 (h:=h0) g2
   show (Tryd.prog.globalNamed _).bind _=_
   rw [g1]
   show (match w'.heap[g]? with | some (.cells cs _ _)=>some cs | _=>none)=_
   rw [hb.block g hlt,hg]
  ·rintro e w' ⟨v',rfl,hown,hb,hoth⟩
   have hkeep: ∀(k:Nat) (o:Obj),w.heap[k]? =some o→(∀cs f,o ≠ .cells cs 5 f)→w'.heap[k]? =some o:=fun k o ho hno=>hoth k o ho (by simp) hno
   refine ⟨⟨hb.os,hb.tape,hb.output,hb.size⟩,v',rfl,BT h0,?_⟩
   obtain ⟨k1,k2⟩:=hown
   have hsub:Sub (BT h0) (BT w'.heap):=fun i o ho=>by
    have hlt:=A8 (h:=h0) ho
    show w'.heap[i]? =some o
    rw [hb.block i hlt]
    exact hs i o ho
   have hvs:vs++Lib.byteCells (Lib.itoa i)=(l++B2 i).map (Bj.int .u8).val:=by rw [List.map_append,ha',JE]
   have hdl:(B2 i).length=(Lib.itoa i).length:=by unfold B2; simp
   have hall: ∀(l:List Int),(Ro.int .u8).All (BT h0) (l.map (Bj.int .u8).val) l:=fun l=>by
    induction l with
    | nil=>exact .nil
    | cons x l ih=>exact .cons (a:= [_]) rfl ih
   rcases k2 with ⟨rfl,hz⟩ | ⟨g,cap,cur,rfl,hBg,hg,hle,hm,hcs,hcur⟩
   ·refine ⟨(none,0,0),l++B2 i,Sub.refl _,rfl,rfl,rfl,fun _=>False,⟨none,0,0, [],rfl,(by rw [List.length_append,hdl,hn]; exact hz),Nat.zero_le _,(fun _ _ _ h=>by cases h), .inl ⟨rfl,rfl,rfl,rfl⟩,?_,fun i=>by simp [blk]⟩,fun _ hk=>hk.elim,(Ji (X:=F) (X':=fun _=>False) (Y:=fun _=>False) hkeep (fun _ g=>g.elim) hsub hG.off (H.less fun k hk=>hk.elim .inr .inl)).less fun k hk=>hk.elim (fun g=> .inl g) (fun g=> .inl g)⟩
    have:l++B2 i= [] :=List.eq_nil_of_length_eq_zero (by rw [List.length_append,hdl,hn]; exact hz)
    show (Ro.int .u8).All (BT h0) [] (l++B2 i)
    rw [this]; exact .nil
   ·refine ⟨(some ⟨g,0,none⟩,n+(Lib.itoa i).length,cap),l++B2 i,Sub.refl _,rfl,rfl,rfl,fun k=>k=g,⟨_,_,cap,(l++B2 i).map (Bj.int .u8).val,rfl,by simp; omega,hm,(fun b' off s e=>by cases e; exact ⟨rfl,fun arr ty f harr=>by
     rw [hg] at harr; cases harr; exact hcs⟩), .inr ⟨g,0,cur,rfl,hg,by show _=_ * 1; simp; omega,hle,by show 0+cap * 1≤_; omega,fun j v hv=> ?_⟩,hall _,fun k=>by simp [blk]⟩,fun k hk=>⟨?_,fun g=>g⟩,(Ji (X:=F) (X':=fun k=>k=g) (Y:=fun _=>False) hkeep (fun k hk=>by subst hk; exact ⟨_,_,hg⟩) hsub hG.off (H.less fun k hk=>hk.elim .inr .inl)).less fun k hk=>hk.elim (fun g=> .inr g) (fun g=> .inl g)⟩
    ·rw [← hvs,← hcur,List.getElem?_take] at hv
     split at hv
     ·simpa using hv
     ·cases hv
    ·subst hk
     exact Array.getElem?_eq_none hBg
 ·cases hd
end Go.Proofs.YtnkmpgldbddnkaaDoor
namespace Go.Proofs.YtnkmpgldbddnkaaDoor
open Go Go.Shelf Go.Proofs
set_option maxRecDepth 100000
def At:Ren:=⟨fun x=>bif Nat.beq x 125 then 59 else bif Nat.beq x 128 then 73 else bif Nat.beq x 129 then 74 else bif Nat.beq x 189 then 50 else bif Nat.beq x 215 then 75 else bif Nat.beq x 216 then 82 else bif Nat.beq x 257 then 62 else bif Nat.beq x 294 then 76 else bif Nat.beq x 295 then 77 else bif Nat.beq x 296 then 78 else bif Nat.beq x 297 then 79 else bif Nat.beq x 298 then 80 else bif Nat.beq x 299 then 81 else bif Nat.beq x 300 then 83 else bif Nat.beq x 301 then 84 else bif Nat.beq x 328 then 96 else bif Nat.beq x 329 then 92 else bif Nat.beq x 330 then 93 else bif Nat.beq x 331 then 97 else bif Nat.beq x 332 then 98 else bif Nat.beq x 343 then 104 else 0,fun x=>bif Nat.beq x 0 then 0 else bif Nat.beq x 3 then 3 else bif Nat.beq x 4 then 4 else bif Nat.beq x 5 then 5 else bif Nat.beq x 9 then 9 else bif Nat.beq x 28 then 30 else bif Nat.beq x 46 then 115 else bif Nat.beq x 51 then 128 else bif Nat.beq x 53 then 118 else bif Nat.beq x 131 then 74 else bif Nat.beq x 182 then 121 else bif Nat.beq x 183 then 122 else bif Nat.beq x 218 then 142 else bif Nat.beq x 222 then 146 else bif Nat.beq x 228 then 153 else bif Nat.beq x 229 then 154 else 0,fun _=>0⟩
theorem HE:Lays.n189 Tryd.prog At where
 mixed:=by kernel_rfl
 f125:=Tryd.func59.trans (congrArg some (show Tryd.f59=Body.n125 At by kernel_rfl))
 f128:=Tryd.func73.trans (congrArg some (show Tryd.f73=Body.n128 At by kernel_rfl))
 f129:=Tryd.func74.trans (congrArg some (show Tryd.f74=Body.n129 At by kernel_rfl))
 f189:=Tryd.func50.trans (congrArg some (show Tryd.f50=Body.n189 At by kernel_rfl))
 f215:=Tryd.func75.trans (congrArg some (show Tryd.f75=Body.n215 At by kernel_rfl))
 f216:=Tryd.func82.trans (congrArg some (show Tryd.f82=Body.n216 At by kernel_rfl))
 f257:=Tryd.func62.trans (congrArg some (show Tryd.f62=Body.n257 At by kernel_rfl))
 f294:=Tryd.func76.trans (congrArg some (show Tryd.f76=Body.n294 At by kernel_rfl))
 f295:=Tryd.func77.trans (congrArg some (show Tryd.f77=Body.n295 At by kernel_rfl))
 f296:=Tryd.func78.trans (congrArg some (show Tryd.f78=Body.n296 At by kernel_rfl))
 f297:=Tryd.func79.trans (congrArg some (show Tryd.f79=Body.n297 At by kernel_rfl))
 f298:=Tryd.func80.trans (congrArg some (show Tryd.f80=Body.n298 At by kernel_rfl))
 f299:=Tryd.func81.trans (congrArg some (show Tryd.f81=Body.n299 At by kernel_rfl))
 f300:=Tryd.func83.trans (congrArg some (show Tryd.f83=Body.n300 At by kernel_rfl))
 f301:=Tryd.func84.trans (congrArg some (show Tryd.f84=Body.n301 At by kernel_rfl))
 f328:=Tryd.func96.trans (congrArg some (show Tryd.f96=Body.n328 At by kernel_rfl))
 f329:=Tryd.func92.trans (congrArg some (show Tryd.f92=Body.n329 At by kernel_rfl))
 f330:=Tryd.func93.trans (congrArg some (show Tryd.f93=Body.n330 At by kernel_rfl))
 f331:=Tryd.func97.trans (congrArg some (show Tryd.f97=Body.n331 At by kernel_rfl))
 f332:=Tryd.func98.trans (congrArg some (show Tryd.f98=Body.n332 At by kernel_rfl))
 f343:=Tryd.func104.trans (congrArg some (show Tryd.f104=Body.n343 At by kernel_rfl))
 t0:=Tryd.underlying0
 a0:=Tryd.isAgg0
 z0:=Tryd.sizeOf0
 v0:=Tryd.zeroValue0
 t3:=Tryd.underlying3
 a3:=Tryd.isAgg3
 z3:=Tryd.sizeOf3
 v3:=Tryd.zeroValue3
 t4:=Tryd.underlying4
 a4:=Tryd.isAgg4
 z4:=Tryd.sizeOf4
 v4:=Tryd.zeroValue4
 t5:=Tryd.underlying5
 a5:=Tryd.isAgg5
 z5:=Tryd.sizeOf5
 v5:=Tryd.zeroValue5
 t9:=Tryd.underlying9
 a9:=Tryd.isAgg9
 z9:=Tryd.sizeOf9
 v9:=Tryd.zeroValue9
 t28:=Tryd.underlying30
 a28:=Tryd.isAgg30
 z28:=Tryd.sizeOf30
 v28:=Tryd.zeroValue30
 t46:=Tryd.underlying115
 a46:=Tryd.isAgg115
 z46:=Tryd.sizeOf115
 v46:=Tryd.zeroValue115
 t51:=Tryd.underlying128
 a51:=Tryd.isAgg128
 z51:=Tryd.sizeOf128
 v51:=Tryd.zeroValue128
 t53:=Tryd.underlying118
 a53:=Tryd.isAgg118
 z53:=Tryd.sizeOf118
 v53:=Tryd.zeroValue118
 t131:=Tryd.underlying74
 a131:=Tryd.isAgg74
 z131:=Tryd.sizeOf74
 v131:=Tryd.zeroValue74
 t182:=Tryd.underlying121
 a182:=Tryd.isAgg121
 z182:=Tryd.sizeOf121
 v182:=Tryd.zeroValue121
 t183:=Tryd.underlying122
 a183:=Tryd.isAgg122
 z183:=Tryd.sizeOf122
 v183:=Tryd.zeroValue122
 t218:=Tryd.underlying142
 a218:=Tryd.isAgg142
 z218:=Tryd.sizeOf142
 v218:=Tryd.zeroValue142
 t222:=Tryd.underlying146
 a222:=Tryd.isAgg146
 z222:=Tryd.sizeOf146
 v222:=Tryd.zeroValue146
 t228:=Tryd.underlying153
 a228:=Tryd.isAgg153
 z228:=Tryd.sizeOf153
 v228:=Tryd.zeroValue153
 t229:=Tryd.underlying154
 a229:=Tryd.isAgg154
 z229:=Tryd.sizeOf154
 v229:=Tryd.zeroValue154
def CW:Ren:=⟨fun x=>bif Nat.beq x 6 then 47 else bif Nat.beq x 14 then 58 else bif Nat.beq x 15 then 59 else bif Nat.beq x 20 then 65 else bif Nat.beq x 21 then 66 else bif Nat.beq x 22 then 67 else bif Nat.beq x 23 then 68 else bif Nat.beq x 24 then 69 else bif Nat.beq x 25 then 70 else bif Nat.beq x 26 then 71 else bif Nat.beq x 27 then 72 else bif Nat.beq x 28 then 73 else bif Nat.beq x 29 then 74 else bif Nat.beq x 46 then 91 else bif Nat.beq x 47 then 92 else bif Nat.beq x 48 then 93 else bif Nat.beq x 49 then 94 else bif Nat.beq x 50 then 95 else bif Nat.beq x 57 then 103 else 0,fun x=>bif Nat.beq x 0 then 0 else bif Nat.beq x 3 then 3 else bif Nat.beq x 4 then 4 else bif Nat.beq x 5 then 5 else bif Nat.beq x 9 then 9 else bif Nat.beq x 22 then 40 else bif Nat.beq x 24 then 44 else bif Nat.beq x 25 then 107 else bif Nat.beq x 39 then 115 else bif Nat.beq x 45 then 121 else bif Nat.beq x 46 then 122 else bif Nat.beq x 50 then 74 else bif Nat.beq x 53 then 128 else bif Nat.beq x 55 then 118 else bif Nat.beq x 66 then 142 else bif Nat.beq x 70 then 146 else bif Nat.beq x 76 then 153 else bif Nat.beq x 77 then 154 else 0,fun _=>0⟩
theorem GC:SlLaysF0.n6 Tryd.prog CW where
 mixed:=by kernel_rfl
 f6:=⟨ "slices.SortFunc[[]tronage/api.Item,tronage/api.Item]",by decide,Tryd.func47.trans (congrArg some (by kernel_rfl))⟩
 f14:=⟨ "slices.pdqsortCmpFunc[tronage/api.Item]",by decide,Tryd.func58.trans (congrArg some (by kernel_rfl))⟩
 f15:=Tryd.func59.trans (congrArg some (show Tryd.f59=SlBodyF.n15 CW by kernel_rfl))
 f20:=⟨ "slices.insertionSortCmpFunc[tronage/api.Item]",by decide,Tryd.func65.trans (congrArg some (by kernel_rfl))⟩
 f21:=⟨ "slices.heapSortCmpFunc[tronage/api.Item]",by decide,Tryd.func66.trans (congrArg some (by kernel_rfl))⟩
 f22:=⟨ "slices.breakPatternsCmpFunc[tronage/api.Item]",by decide,Tryd.func67.trans (congrArg some (by kernel_rfl))⟩
 f23:=⟨ "slices.choosePivotCmpFunc[tronage/api.Item]",by decide,Tryd.func68.trans (congrArg some (by kernel_rfl))⟩
 f24:=⟨ "slices.reverseRangeCmpFunc[tronage/api.Item]",by decide,Tryd.func69.trans (congrArg some (by kernel_rfl))⟩
 f25:=⟨ "slices.partialInsertionSortCmpFunc[tronage/api.Item]",by decide,Tryd.func70.trans (congrArg some (by kernel_rfl))⟩
 f26:=⟨ "slices.partitionEqualCmpFunc[tronage/api.Item]",by decide,Tryd.func71.trans (congrArg some (by kernel_rfl))⟩
 f27:=⟨ "slices.partitionCmpFunc[tronage/api.Item]",by decide,Tryd.func72.trans (congrArg some (by kernel_rfl))⟩
 f28:=Tryd.func73.trans (congrArg some (show Tryd.f73=SlBodyF.n28 CW by kernel_rfl))
 f29:=Tryd.func74.trans (congrArg some (show Tryd.f74=SlBodyF.n29 CW by kernel_rfl))
 f46:=⟨ "slices.siftDownCmpFunc[tronage/api.Item]",by decide,Tryd.func91.trans (congrArg some (by kernel_rfl))⟩
 f47:=Tryd.func92.trans (congrArg some (show Tryd.f92=SlBodyF.n47 CW by kernel_rfl))
 f48:=Tryd.func93.trans (congrArg some (show Tryd.f93=SlBodyF.n48 CW by kernel_rfl))
 f49:=⟨ "slices.medianAdjacentCmpFunc[tronage/api.Item]",by decide,Tryd.func94.trans (congrArg some (by kernel_rfl))⟩
 f50:=⟨ "slices.medianCmpFunc[tronage/api.Item]",by decide,Tryd.func95.trans (congrArg some (by kernel_rfl))⟩
 f57:=⟨ "slices.order2CmpFunc[tronage/api.Item]",by decide,Tryd.func103.trans (congrArg some (by kernel_rfl))⟩
 t0:=Tryd.underlying0
 a0:=Tryd.isAgg0
 z0:=Tryd.sizeOf0
 v0:=Tryd.zeroValue0
 t3:=Tryd.underlying3
 a3:=Tryd.isAgg3
 z3:=Tryd.sizeOf3
 v3:=Tryd.zeroValue3
 t4:=Tryd.underlying4
 a4:=Tryd.isAgg4
 z4:=Tryd.sizeOf4
 v4:=Tryd.zeroValue4
 t5:=Tryd.underlying5
 a5:=Tryd.isAgg5
 z5:=Tryd.sizeOf5
 v5:=Tryd.zeroValue5
 t9:=Tryd.underlying9
 a9:=Tryd.isAgg9
 z9:=Tryd.sizeOf9
 v9:=Tryd.zeroValue9
 t22:=Tryd.underlying40
 a22:=Tryd.isAgg40
 z22:=Tryd.sizeOf40
 v22:=Tryd.zeroValue40
 t25:=Tryd.underlying107
 a25:=Tryd.isAgg107
 z25:=Tryd.sizeOf107
 v25:=Tryd.zeroValue107
 t39:=Tryd.underlying115
 a39:=Tryd.isAgg115
 z39:=Tryd.sizeOf115
 v39:=Tryd.zeroValue115
 t45:=Tryd.underlying121
 a45:=Tryd.isAgg121
 z45:=Tryd.sizeOf121
 v45:=Tryd.zeroValue121
 t46:=Tryd.underlying122
 a46:=Tryd.isAgg122
 z46:=Tryd.sizeOf122
 v46:=Tryd.zeroValue122
 t50:=Tryd.underlying74
 a50:=Tryd.isAgg74
 z50:=Tryd.sizeOf74
 v50:=Tryd.zeroValue74
 t53:=Tryd.underlying128
 a53:=Tryd.isAgg128
 z53:=Tryd.sizeOf128
 v53:=Tryd.zeroValue128
 t55:=Tryd.underlying118
 a55:=Tryd.isAgg118
 z55:=Tryd.sizeOf118
 v55:=Tryd.zeroValue118
 t66:=Tryd.underlying142
 a66:=Tryd.isAgg142
 z66:=Tryd.sizeOf142
 v66:=Tryd.zeroValue142
 t70:=Tryd.underlying146
 a70:=Tryd.isAgg146
 z70:=Tryd.sizeOf146
 v70:=Tryd.zeroValue146
 t76:=Tryd.underlying153
 a76:=Tryd.isAgg153
 z76:=Tryd.sizeOf153
 v76:=Tryd.zeroValue153
 t77:=Tryd.underlying154
 a77:=Tryd.isAgg154
 z77:=Tryd.sizeOf154
 v77:=Tryd.zeroValue154
def Ho:Ren:=⟨fun x=>bif Nat.beq x 20 then 51 else 0,fun x=>bif Nat.beq x 0 then 0 else bif Nat.beq x 3 then 3 else bif Nat.beq x 4 then 4 else bif Nat.beq x 22 then 30 else 0,fun _=>0⟩
theorem HF:Lays2.n20 Tryd.prog Ho where
 mixed:=by kernel_rfl
 f20:=Tryd.func51.trans (congrArg some (show Tryd.f51=Body2.n20 Ho by kernel_rfl))
 t0:=Tryd.underlying0
 a0:=Tryd.isAgg0
 z0:=Tryd.sizeOf0
 v0:=Tryd.zeroValue0
 t3:=Tryd.underlying3
 a3:=Tryd.isAgg3
 z3:=Tryd.sizeOf3
 v3:=Tryd.zeroValue3
 t4:=Tryd.underlying4
 a4:=Tryd.isAgg4
 z4:=Tryd.sizeOf4
 v4:=Tryd.zeroValue4
 t22:=Tryd.underlying30
 a22:=Tryd.isAgg30
 z22:=Tryd.sizeOf30
 v22:=Tryd.zeroValue30
 i3:=by kernel_rfl
def GD:Ren:=⟨fun x=>bif Nat.beq x 122 then 61 else bif Nat.beq x 215 then 75 else 0,fun x=>bif Nat.beq x 3 then 3 else bif Nat.beq x 4 then 4 else 0,fun _=>0⟩
theorem HG:Lays.n122 Tryd.prog GD where
 mixed:=by kernel_rfl
 f122:=Tryd.func61.trans (congrArg some (show Tryd.f61=Body.n122 GD by kernel_rfl))
 f215:=Tryd.func75.trans (congrArg some (show Tryd.f75=Body.n215 GD by kernel_rfl))
 t3:=Tryd.underlying3
 a3:=Tryd.isAgg3
 z3:=Tryd.sizeOf3
 v3:=Tryd.zeroValue3
 t4:=Tryd.underlying4
 a4:=Tryd.isAgg4
 z4:=Tryd.sizeOf4
 v4:=Tryd.zeroValue4
end Go.Proofs.YtnkmpgldbddnkaaDoor
namespace Go.Proofs.YtnkmpgldbddnkaaDoor
open Go Go.Eng Go.RowKit Go.Shelf Go.Sort
set_option linter.unusedVariables false
set_option maxRecDepth 100000
theorem Jj {k:IntKind} {φ:AE} (l:List Int):(Ro.int k).All φ (l.map (Bj.int k).val) l:=by
 induction l with
 | nil=>exact .nil
 | cons x l ih=>exact Ro.All.cons (a:= [(Bj.int k).val x]) rfl ih
def ins {α:Type} (le:α→α→Bool) (x:α):List α→List α
 | [] => [x]
 | y::l=>if le x y then x::y::l else y::ins le x l
def Iv {α:Type} (le:α→α→Bool):List α→List α
 | [] => []
 | x::l=>ins le x (Iv le l)
theorem Jk {α:Type} (le:α→α→Bool) (x:α) (l:List α):(ins le x l).Perm (x::l):=by
 induction l with
 | nil=>exact .refl _
 | cons y l ih=>
  unfold ins
  split
  ·exact .refl _
  ·exact (ih.cons y).trans (.swap x y l)
theorem CK {α:Type} (le:α→α→Bool) (l:List α):(Iv le l).Perm l:=by
 induction l with
 | nil=>exact .refl _
 | cons x l ih=>exact (Jk le x _).trans (ih.cons x)
theorem NQ {α:Type} {le:α→α→Bool} (ht: ∀a b c,le a b=true→le b c=true→le a c=true) (hl: ∀a b,(le a b || le b a)=true) (x:α) {l:List α} (h:l.Pairwise fun a b=>le a b=true):(ins le x l).Pairwise fun a b=>le a b=true:=by
 induction l with
 | nil=>exact List.pairwise_singleton _ _
 | cons y l ih=>
  unfold ins
  rw [List.pairwise_cons] at h
  split
  ·rename_i hxy
   refine List.pairwise_cons.2 ⟨fun z hz=> ?_,List.pairwise_cons.2 h⟩
   rcases List.mem_cons.1 hz with rfl | hz
   ·exact hxy
   ·exact ht _ _ _ hxy (h.1 z hz)
  ·rename_i hxy
   refine List.pairwise_cons.2 ⟨fun z hz=> ?_,ih h.2⟩
   rcases List.mem_cons.1 ((Jk le x l).mem_iff.1 hz) with rfl | hz
   ·have:=hl z y
    rw [Bool.or_eq_true] at this
    rcases this with g | g
    ·exact absurd g hxy
    ·exact g
   ·exact h.1 z hz
theorem IE {α:Type} {le:α→α→Bool} (ht: ∀a b c,le a b=true→le b c=true→le a c=true) (hl: ∀a b,(le a b || le b a)=true) (l:List α):(Iv le l).Pairwise fun a b=>le a b=true:=by
 induction l with
 | nil=>exact .nil
 | cons x l ih=>exact NQ ht hl x ih
theorem Jl {α:Type} {le:α→α→Bool} (ht: ∀a b c,le a b=true→le b c=true→le a c=true) (hl: ∀a b,(le a b || le b a)=true) (ha: ∀a b,le a b=true→le b a=true→a=b) (l:List α):Iv le l=l.mergeSort le:=
 List.Perm.eq_of_pairwise (fun a b _ _ h1 h2=>ha a b h1 h2) (IE ht hl l) (List.pairwise_mergeSort ht hl l) ((CK le l).trans (List.mergeSort_perm l le).symm)
def GE (l:List Int):List Int:=Iv (fun x y=>decide (x≤y)) l
theorem L1 (l:List Int):GE l=l.mergeSort fun x y=>decide (x≤y):=
 Jl (fun a b c h1 h2=>by simp only [decide_eq_true_eq] at *; omega) (fun a b=>by simp only [Bool.or_eq_true,decide_eq_true_eq]; omega) (fun a b h1 h2=>by simp only [decide_eq_true_eq] at *; omega) l
theorem Kl {k:IntKind} {a b:List Int} (h:a.map (Value.int k)=b.map (Value.int k)):a=b:=
 (List.map_inj_right (f:=Value.int k) fun x y hxy=>by cases hxy; rfl).1 h
def Km (l:List Int):Option (List Int):=if l.length<4611686018427387904 then some (GE l) else none
def HH (l:List Int):Option (List Int):=if l.length<4611686018427387904 then some (Lib.compact l) else none
theorem St.rowTake {α:Type} {φ:AE} {h:AF} {Γ:List Chk} {ty:TypeId} {r:Ro α} {t:Slc} {l:List α} (H:St φ (⟨Rep.row ty r, [.slice t.1 t.2.1 t.2.2],l⟩::Γ) h) {k:Nat} (hk:k≤l.length):
 St φ (⟨Rep.row ty r, [.slice t.1 k t.2.2],l.take k⟩::Γ) h:=by
 obtain ⟨F,⟨p,n,c,vs,e,hn,hc,hfu,ho,hall,hF⟩,h2,H⟩:=H
 have hn:l.length=n:=hn
 simp only [List.cons.injEq,Value.slice.injEq,and_true] at e
 obtain ⟨e1,e2,e3⟩:=e
 refine ⟨F,⟨p,k,c,vs.take (k * r.sz),by rw [e1,e3],by rw [List.length_take]; omega,hc,hfu,?_,hall.take k,hF⟩,h2,H⟩
 rcases ho with ⟨hp,hn0,hc0,hv0⟩ | ⟨b,off,arr,hp,hb0,g1,g2,g3,g4⟩
 ·exact .inl ⟨hp,by omega,hc0,by rw [hv0]; exact List.take_nil⟩
 ·refine .inr ⟨b,off,arr,hp,hb0,?_,by omega,g3,fun i v hv=> ?_⟩
  ·rw [List.length_take,g1]
   exact Nat.min_eq_left (Nat.mul_le_mul_right _ (by omega))
  ·rw [List.getElem?_take] at hv
   split at hv
   ·exact g4 i v hv
   ·cases hv
theorem St.rowCap {α:Type} {φ:AE} {h:AF} {Γ:List Chk} {ty:TypeId} {r:Ro α} {t:Slc} {l:List α} (H:St φ (⟨Rep.row ty r, [.slice t.1 t.2.1 t.2.2],l⟩::Γ) h):l.length≤t.2.2:=by
 obtain ⟨F,⟨p,n,c,vs,e,hn,hc,hfu,ho,hall,hF⟩,h2,H⟩:=H
 have hn:l.length=n:=hn
 simp only [List.cons.injEq,Value.slice.injEq,and_true] at e
 obtain ⟨e1,e2,e3⟩:=e
 rcases ho with ⟨hp,hn0,hc0,hv0⟩ | ⟨b,off,arr,hp,hb0,g1,g2,g3,g4⟩ <;>omega
theorem St.rowHoldsF {α:Type} {φ:AE} {w:World} {Γ:List Chk} {ty:TypeId} {r:Ro α} {t:Slc} {l:List α} (H:St φ (⟨Rep.row ty r, [.slice t.1 t.2.1 t.2.2],l⟩::Γ) w.heap):
 (l= [] ∧t.2.1=0)∨ ∃(b off:Nat) (vs:List Value),t.1=some ⟨b,off,none⟩∧r.All φ vs l∧t.2.1=l.length∧b<w.heap.size∧(∀arr,w.heap[b]? =some (.cells arr ty (0,0))→off+vs.length≤arr.size)∧Sort.Holds id w b off vs.toArray:=by
 obtain ⟨F,⟨p,n,c,vs,e,hn,hc,hfu,ho,hall,hF⟩,h2,H⟩:=H
 have hn:l.length=n:=hn
 simp only [List.cons.injEq,Value.slice.injEq,and_true] at e
 obtain ⟨e1,e2,e3⟩:=e
 rcases ho with ⟨hp,hn0,hc0,hv0⟩ | ⟨b,off,arr,hp,hb0,g1,g2,g3,g4⟩
 ·exact .inl ⟨List.eq_nil_of_length_eq_zero (by omega),by omega⟩
 ·right
  refine ⟨b,off,vs,by rw [e1,hp],hall,by omega,A8 hb0,fun arr' ha=> ?_,fun j hj=> ?_⟩
  ·rw [hb0] at ha
   cases ha
   have:=Nat.mul_le_mul_right r.sz g2
   omega
  have hj':j<vs.length:=by simpa using hj
  have hc:=g4 j vs[j] (List.getElem?_eq_getElem hj')
  refine ⟨?_,?_⟩
  ·unfold World.cell?
   dsimp only
   rw [hb0]
   dsimp only
   rw [getElem!_pos _ j hj]
   simpa using hc
  ·unfold World.frozen?
   dsimp only
   rw [hb0]
   simp
theorem St.rowSortedF {α:Type} {φ:AE} {w:World} {Γ:List Chk} {ty:TypeId} {r:Ro α} {t:Slc} {l m:List α} (H:St φ (⟨Rep.row ty r, [.slice t.1 t.2.1 t.2.2],l⟩::Γ) w.heap)
 {b off:Nat} (ht:t.1=some ⟨b,off,none⟩) (ms:List Value) (hall:r.All φ ms m) (hm:m.length=l.length) (hfit: ∀arr,w.heap[b]? =some (.cells arr ty (0,0))→off+ms.length≤arr.size) (k:Nat) (os:Array Obj):
 St φ (⟨Rep.row ty r, [.slice t.1 t.2.1 t.2.2],m⟩::Γ) (grow (putRow id (Sort.ahead w k) b off ms.toArray) os).heap:=by
 have hheap:(grow (putRow id (Sort.ahead w k) b off ms.toArray) os).heap=w.heap.modify b (onCells (putCells id off ms.toArray)) ++os:=rfl
 rw [hheap]
 refine H.rowPut hall hm (fun b' off' he arr harr=> ?_) fun j hj hne=> ?_
 ·rw [ht] at he
  cases he
  have hlt:=A8 harr
  refine ⟨putCells id off ms.toArray arr,?_,by simp [putCells],fun i v hv=> ?_⟩
  ·rw [Array.getElem?_append_left (by simpa using hlt),Array.getElem?_modify,if_pos rfl,harr]
   rfl
  ·have hi:i<ms.length:=by
    rcases Nat.lt_or_ge i ms.length with g | g
    ·exact g
    ·rw [List.getElem?_eq_none g] at hv; cases hv
   have hf:=hfit arr harr
   unfold putCells
   rw [Array.getElem?_mapIdx,Array.getElem?_eq_getElem (by omega)]
   have hc:off≤off+i∧off+i<off+ms.toArray.size:=by simp; exact hi
   simp only [Option.map_some]
   rw [if_pos hc,Nat.add_sub_cancel_left,getElem!_pos _ i (by simpa using hi)]
   rw [List.getElem?_eq_getElem hi] at hv
   cases hv
   simp
 ·rw [Array.getElem?_append_left (by simpa using hj),Array.getElem?_modify,if_neg fun e=>hne b off ht e.symm]
section
variable {φ:AE} {h:AF} {F:List Chk}
theorem LL {t:Slc} {l r:List Int} (s0:St φ (cR 3 (Ro.int .i64) t l::F) h) (hd:Km l=some r):
 CallsH Tryd.prog 50 [.slice t.1 t.2.1 t.2.2] h (BO fun v h'=> ∃ψ:AE,∃y:Unit,∃l1:List Int,Sub φ ψ∧v=((.tuple []):Sh).val y∧l1=r∧St ψ (cR 3 (Ro.int .i64) t l1::F) h'):=by
 unfold Km at hd
 split at hd
 ·rename_i hb
  cases hd
  intro w hw
  subst hw
  rcases s0.rowHolds rfl (Value.int .i64) (fun vs ha=>⟨l,ET ha⟩) with ⟨hl,hn⟩ | ⟨b,off,bs,ht,hall,hn,hlen,hlt,hfit,hH⟩
  ·subst hl
   rw [hn]
   have hc:=Any.slices_Sort_int_none HE t.1 t.2.2 w
   refine (show Calls Tryd.prog 50 #[.slice t.1 0 t.2.2] w _ from hc).mono ?_
   rintro e w' ⟨rfl,rfl⟩
   exact ⟨Bz.refl _,_,rfl,φ,(),_,Sub.refl _,rfl,rfl,by rw [show GE [] = [] from rfl]; exact s0⟩
  ·have hbl:bs=l:=Kl (ET hall)
   subst hbl
   rw [ht,hn]
   have hc:=Any.slices_Sort_int HE b off t.2.2 bs w hH hlt hb
   rw [← L1] at hc
   refine (show Calls Tryd.prog 50 #[.slice (some ⟨b,off,none⟩) bs.length t.2.2] w _ from hc).mono ?_
   rintro e w' ⟨rfl,k,os,rfl⟩
   refine ⟨⟨rfl,rfl,rfl,by rw [Go.Sort.size_grow,Go.Sort.size_putRow]; exact Nat.le_add_right _ _⟩,_,rfl,φ,(),_,Sub.refl _,rfl,rfl,?_⟩
   exact s0.rowSorted ht (Value.int .i64) (GE bs) (Jj _) (CK _ _).length_eq (CK _ _).length_eq hfit k os
 ·cases hd
theorem IF (l:List Int):(Lib.compact l).length≤l.length:=by
 unfold Lib.compact Lib.compactUpTo
 rw [List.length_map]
 refine Nat.le_trans (List.length_filter_le _ _) ?_
 simp
theorem Jm {t:Slc} {l r:List Int} (s0:St φ (cR 3 (Ro.int .i64) t l::F) h) (hd:HH l=some r):
 CallsH Tryd.prog 51 [.slice t.1 t.2.1 t.2.2] h (BO fun v h'=> ∃ψ:AE,∃y:Slc,∃l1:List Int,Sub φ ψ∧v=((.one (.atom .slice)):Sh).val y∧l1=r∧St ψ (cR 3 (Ro.int .i64) y l1::F) h'):=by
 unfold HH at hd
 split at hd
 ·rename_i hb
  cases hd
  intro w hw
  subst hw
  have hcap:=St.rowCap s0
  rcases s0.rowHolds rfl (Value.int .i64) (fun vs ha=>⟨l,ET ha⟩) with ⟨hl,hn⟩ | ⟨b,off,bs,ht,hall,hn,hlen,hlt,hfit,hH⟩
  ·subst hl
   rw [hn]
   have hc:=Any.slices_Compact_int_empty HF t.1 t.2.2 w
   refine (show Calls Tryd.prog 51 #[.slice t.1 0 t.2.2] w _ from hc).mono ?_
   rintro e w' ⟨rfl,rfl⟩
   rw [show t=(t.1,t.2.1,t.2.2) from rfl,hn] at s0
   exact ⟨Bz.refl _,_,rfl,φ,(t.1,0,t.2.2),_,Sub.refl _,rfl,rfl,s0⟩
  ·have hbl:bs=l:=Kl (ET hall)
   subst hbl
   rw [ht,hn]
   have hc:=Any.slices_Compact_int HF b off t.2.2 bs w hH (by omega) hcap
   refine (show Calls Tryd.prog 51 #[.slice (some ⟨b,off,none⟩) bs.length t.2.2] w _ from hc).mono ?_
   rintro e w' ⟨rfl,k,rfl⟩
   have hle:=IF bs
   have hlz:(Lib.compact bs++List.replicate (bs.length - (Lib.compact bs).length) 0).length=bs.length:=by simp; omega
   have s1:=s0.rowSorted ht (Value.int .i64) (Lib.compact bs++List.replicate (bs.length - (Lib.compact bs).length) 0) (Jj _) hlz hlz hfit k #[]
   have s2:=St.rowTake s1 (k:=(Lib.compact bs).length) (by rw [hlz]; exact hle)
   rw [List.take_left,grow_empty] at s2
   refine ⟨⟨rfl,rfl,rfl,by rw [Go.Sort.size_putRow]; exact Nat.le_refl _⟩,_,rfl,φ,(t.1,(Lib.compact bs).length,t.2.2),_,Sub.refl _,by rw [ht]; rfl,rfl,s2⟩
 ·cases hd
end
end Go.Proofs.YtnkmpgldbddnkaaDoor
namespace Go.Proofs.YtnkmpgldbddnkaaDoor
open Go Go.Eng
set_option linter.unusedVariables false
set_option maxRecDepth 100000
theorem IG:G6 Tryd.prog 40 40 44 2:=⟨Tryd.underlying40, .inl Tryd.underlying40,⟨Tryd.t44,by kernel_rfl,rfl,⟨_,rfl,rfl⟩,by decide,by decide⟩,by decide⟩
noncomputable def A9 (s_0:List Int):Option (List Int):=
 (loop (σ:=(Int×Int×List Int)) (β:=List Int) ((IntKind.wrap .i64 ((((List.length s_0):Nat):Int) - (1:Int))),(0:Int),s_0) fun z2=>
  cond (decide (z2.2.1<z2.1))
  ((idx z2.2.2 z2.1).bind fun e24=>
   (idx z2.2.2 z2.2.1).bind fun e33=>
   (Gq z2.2.2 z2.2.1 e24).bind fun m46=>
   (Gq m46 z2.1 e33).bind fun m60=>
   some (AR.next ((IntKind.wrap .i64 (z2.1 - (1:Int))),(IntKind.wrap .i64 (z2.2.1+(1:Int))),m60)))
  (some (AR.done z2.2.2))).bind fun z1=>
 some z1
theorem Ee {φ:AE} {h:AF} {F:List Chk} {s_0:Slc} {c:List Int} (s0:St φ (cR 3 (Ro.int .i64) s_0 c::F) h) {r:(List Int)} (hd:A9 c=some r):
 CallsH Tryd.prog 36 [(.slice s_0.1 s_0.2.1 s_0.2.2)] h (BO fun v h'=> ∃ψ:AE,∃y:Unit,∃e:List Int,Sub φ ψ∧v=((.tuple []):Sh).val y∧e=r∧St ψ (cR 3 (Ro.int .i64) s_0 e::F) h'):=by
 refine Aa mixed Tryd.func36 ?_
 rw [Eb]
 unfold C2
 unfold A9 at hd
 have s:s_0.2.1=List.length c:=(s0).rowLen
 obtain ⟨t,u,hd⟩:=bS hd
 refine Ad (fun (y:Int×Int×Unit) w_ g=> ∃ψ:AE,∃f:List Int,Sub φ ψ∧f=g∧St ψ (cR 3 (Ro.int .i64) s_0 f::F) w_) (g:=t) ?_ ?_
 ·refine FO u (fun (y:Int×Int×Unit) w_ g=> ∃ψ:AE,∃i:List Int,Sub φ ψ∧(y.1,y.2.1,i)=g∧St ψ (cR 3 (Ro.int .i64) s_0 i::F) w_) ((IntKind.wrap .i64 (((s_0.2.1:Nat):Int) - (1:Int))),(0:Int),()) rfl ⟨φ,c,(Sub.refl _),(by rw [s]),s0⟩ ?_
  ·rintro z2 ai _ _ ⟨j,w,k,rfl,b⟩ a z
   try dsimp only at a
   have aj:=b.rowLen
   refine AH a rfl (fun _ a=> ?_) (fun _ a=> ?_)
   ·obtain ⟨a0,a1,a⟩:=bS a
    obtain ⟨ak,al,a2,a3,a4,a5⟩:=(b).get a1
    refine AG _ a2 (AZ a3 ?_)
    obtain rfl:=a4
    refine AL (x:=a0) (a5 0 _ rfl) rfl ?_
    obtain ⟨a6,a7,a⟩:=bS a
    obtain ⟨am,an,a8,a9,aa,ab⟩:=(b).get a7
    refine AG _ a8 (AZ a9 ?_)
    obtain rfl:=aa
    refine AL (x:=a6) (ab 0 _ rfl) rfl ?_
    obtain ⟨ao,l,a⟩:=bS a
    obtain ⟨ap,m,ac⟩:=b.there l
    refine AG _ m (AZ ac (Ly b l rfl m ?_))
    intro aq d
    have ar:=d.rowLen
    obtain ⟨ad,n,a⟩:=bS a
    obtain ⟨au,o,ae⟩:=d.there n
    refine AG _ o (AZ ae (Ly d n rfl o ?_))
    intro av p
    have aw:=p.rowLen
    obtain rfl:=iS a
    exact Ar ((IntKind.wrap .i64 (z2.1 - (1:Int))),(IntKind.wrap .i64 (z2.2.1+(1:Int))),()) _ rfl rfl ⟨j,ad,k,rfl,p⟩
   obtain rfl:=iS a
   obtain rfl:=z _ rfl
   exact AO (AS (z2.1,z2.2.1,()) rfl ⟨j,w,k,rfl,b⟩)
 rintro z1 ax ⟨af,ag,ah,rfl,q⟩
 try dsimp only at hd
 have ay:=q.rowLen
 obtain rfl:=iS hd
 exact AC ⟨af,(()),ag,ah,rfl,rfl,q⟩
noncomputable def BV (a_0:Gg) (items_1:List BI) (sym_2:Int):Option (List BI):=
 (Fe (σ:=List BI) (0:Int) (((List.length items_1):Nat):Int) ([] :List BI) fun i_z2 z2=>
  (idx items_1 i_z2).bind fun e31=>
  (BM a_0 (e31.1,e31.2)).bind fun t9=>
  (cond (t9==sym_2)
  ((app z2 ([(e31.1,(IntKind.wrap .i64 (e31.2+(1:Int))))] :List BI)).bind fun t14=>
   some t14)
  (some z2)).bind fun z10=>
  some z10).bind fun z1=>
 some z1
theorem GF {φ:AE} {h:AF} {F:List Chk} {a_0:Option Addr} {e:Gg} {items_1:Slc} {j:List BI} {sym_2:Int} (m:Ro.SliceIs Bx φ items_1 j) (s0:St φ (cO 70 (Rep.ro CL) a_0 e::F) h) {r:(List BI)} (hd:BV e j sym_2=some r):
 CallsH Tryd.prog 32 [(.pointer a_0),(.slice items_1.1 items_1.2.1 items_1.2.2),(.int .i64 sym_2)] h (BO fun v h'=> ∃ψ:AE,∃y:Option Addr×Nat×Nat,∃n:List BI,Sub φ ψ∧v=((.one (.atom .slice)):Sh).val y∧n=r∧Ro.SliceIs Bx ψ y n∧St ψ (cO 70 (Rep.ro CL) a_0 e::F) h'):=by
 refine Aa mixed Tryd.func32 ?_
 rw [F5]
 unfold EZ
 unfold BV at hd
 have o:items_1.2.1=List.length j:=m.length
 have a6:=s0.nil 44 Bx
 have a7:=a6.at1
 have a8:=a7.at1
 obtain ⟨a9,aa,hd⟩:=bS hd
 refine Ad (fun (y:Int×(Option Addr×Nat×Nat)×Unit) w_ g=> ∃ψ:AE,∃p:List BI,Sub φ ψ∧p=g∧St ψ (cR 44 Bx y.2.1 p::cO 70 (Rep.ro CL) a_0 e::F) w_) (g:=a9) ?_ ?_
 ·refine D4 aa (fun ab (y:Int×(Option Addr×Nat×Nat)×Unit) w_ g=> ∃ψ:AE,∃q:List BI,Sub φ ψ∧y.1=ab∧q=g∧St ψ (cR 44 Bx y.2.1 q::cO 70 (Rep.ro CL) a_0 e::F) w_) ((0:Int),((none,0,0):Slc),()) rfl ⟨φ,([] :List BI),(Sub.refl _),rfl,rfl,a8⟩ ?_ ?_
  ·rintro _ z2 bm _ _ ⟨bn,ac,s,rfl,rfl,f⟩ c ad u w
   try dsimp only at c ad u w
   have bo:=f.rowLen
   refine Az (by rw [o]; exact decide_eq_true u) ?_
   obtain ⟨b,ae,c⟩:=bS c
   obtain ⟨bp,bq,af,ag,ah,z⟩:=(m.mono s).get ae
   refine AG _ af (AZ ag ?_)
   obtain ⟨_,_,rfl,ai,aj⟩:=ah
   obtain rfl:=ai
   obtain rfl:=aj
   refine AL (x:=b.1) (AB (Sub.trans (Sub.refl _) f.sub) (z 0 _ rfl)) rfl ?_
   refine AL (x:=b.2) (by rw [AV]; exact (AB (Sub.trans (Sub.refl _) f.sub) (z 1 _ rfl))) rfl ?_
   refine Ac (vs:= [.int .i64 (0:Int), .int .i64 (0:Int)]) f fun r6 br ak=> ?_
   refine AJ ak rfl rfl fun bs al=> ?_
   refine AJ al rfl rfl fun bt k=> ?_
   refine AA (x:=b.1) k rfl ?_
   refine AA (x:=b.2) k rfl ?_
   have am:=k.at2
   obtain ⟨bu,an,c⟩:=bS c
   refine AK (CS (x_1:=(b.1,b.2,())) am an) ?_
   rintro _ bv ⟨l,t9,ao,rfl,rfl,i⟩
   refine ⟨t9,rfl,?_⟩
   obtain ⟨ap,d,c⟩:=bS c
   refine Ak (fun (y:(Option Addr×Nat×Nat)×Unit) w_ g=> ∃ψ:AE,∃a0:List BI,Sub l ψ∧a0=g∧St ψ (cR 44 Bx y.1 a0::cO 70 (Rep.ro CL) a_0 e::cW 44 r6 [.int .i64 b.1, .int .i64 b.2] ::F) w_) (g:=ap) ?_ ?_
   ·refine AH d rfl (fun _ d=> ?_) (fun _ d=> ?_)
    ·refine AA (x:=b.1) i.at1 rfl ?_
     refine AA (x:=b.2) i.at1 rfl ?_
     refine Ac (vs:= [.int .i64 b.1, .int .i64 (IntKind.wrap .i64 (b.2+(1:Int)))]) i fun r13 bw a1=> ?_
     have aq:=St.cells a1
     have ar:=a1.tail
     have au:=ar.at2
     obtain ⟨av,aw,d⟩:=bS d
     refine Aq (r:=Bx) (ms:=([(b.1,(IntKind.wrap .i64 (b.2+(1:Int))))] :List BI)) IG au rfl aq (.cons (a:= [_,_]) ⟨[_],_,rfl,rfl,rfl⟩ .nil) rfl aw ?_
     intro t14 bx a2
     have bz:=a2.rowLen
     have ax:=a2.at2
     have ay:=ax.at2
     have az:=ay.at2
     obtain rfl:=iS d
     exact AN (t14,()) rfl ⟨l,av,(Sub.refl _),rfl,az⟩
    have b0:=i.at2
    have b1:=b0.at2
    have b2:=b1.at2
    have b3:=b2.at2
    obtain rfl:=iS d
    exact AN (z2.2.1,()) rfl ⟨l,ac,(Sub.refl _),rfl,b3⟩
   rintro z10 c0 ⟨b4,b5,b6,rfl,a3⟩
   try dsimp only at c
   have c1:=a3.rowLen
   have b7:=a3.at2.tail
   have b8:=b7.at1
   have b9:=b8.at1
   obtain rfl:=iS c
   exact Ar ((IntKind.wrap .i64 (z2.1+(1:Int))),z10.1,()) _ rfl rfl ⟨b4,b5,((s.trans ao).trans b6),w,rfl,b9⟩
  ·rintro _ z2 c2 ⟨ba,bb,bc,rfl,rfl,a4⟩ bd
   have c3:=a4.rowLen
   refine Al (by rw [o]; exact decide_eq_false (Int.not_lt.2 bd)) ?_
   have be:=a4.at1
   have bf:=be.at1
   exact AO (AS (z2.1,z2.2.1,()) rfl ⟨ba,bb,bc,rfl,bf⟩)
 rintro z1 c4 ⟨c5,bg,bh,rfl,a5⟩
 try dsimp only at hd
 have c6:=a5.rowLen
 obtain ⟨bi,bj,bk,bl⟩:=St.freezeRow (t:=z1.2.1) a5
 obtain rfl:=iS hd
 exact AC ⟨bi,z1.2.1,bg,(bh.trans bj),rfl,rfl,bk,bl⟩
noncomputable def BA (a_0:EP) (n_1:Int):Option (List BI×List BI×List Hr×Int×Int):=
 (cond (decide (n_1< (0:Int)))
 (some true)
 (some (decide (n_1≥ (((List.length a_0.2.2.2.2.2.2.1):Nat):Int))))).bind fun z2=>
 cond z2
 (some (([] :List BI),([] :List BI),([] :List Hr),(0:Int),(0:Int)))
 ((idx a_0.2.2.2.2.2.2.1 n_1).bind fun e83=>
  some (e83.1,e83.2.1,e83.2.2.1,e83.2.2.2.1,e83.2.2.2.2))
theorem Bp {φ:AE} {h:AF} {F:List Chk} {a_0:Option Addr} {o:EP} {n_1:Int} (p:Pt H8 φ a_0 o) (s0:St φ (F) h) {r:(List BI×List BI×List Hr×Int×Int)} (hd:BA o n_1=some r):
 CallsH Tryd.prog 35 [(.pointer a_0),(.int .i64 n_1)] h (BO fun v h'=> ∃ψ:AE,∃y:(Option Addr×Nat×Nat)×(Option Addr×Nat×Nat)×(Option Addr×Nat×Nat)×Int×Int×Unit,∃q:List BI,∃s:List BI,∃t:List Hr,Sub φ ψ∧v=((.one (.agg [.slice, .slice, .slice,(.int .i64),(.int .i64)])):Sh).val y∧(q,s,t,y.2.2.2.1,y.2.2.2.2.1)=r∧Ro.SliceIs Bx ψ y.1 q∧Ro.SliceIs Bx ψ y.2.1 s∧Ro.SliceIs Gt ψ y.2.2.1 t∧St ψ (F) h'):=by
 refine Aa mixed Tryd.func35 ?_
 rw [Gy]
 unfold E7
 unfold BA at hd
 refine Ac (vs:= [.slice none 0 0, .slice none 0 0, .slice none 0 0, .int .i64 (0:Int), .int .i64 (0:Int)]) s0 fun r1 ba k=> ?_
 obtain ⟨a2,e,hd⟩:=bS hd
 refine Ak (fun (y:Bool×Unit) w_ g=> ∃ψ:AE,Sub φ ψ∧y.1=g∧St ψ (cW 78 r1 [.slice none 0 0, .slice none 0 0, .slice none 0 0, .int .i64 (0:Int), .int .i64 (0:Int)] ::F) w_) (g:=a2) ?_ ?_
 ·refine AH e rfl (fun _ e=> ?_) (fun _ e=> ?_)
  ·obtain rfl:=iS e
   exact AN (true,()) rfl ⟨φ,(Sub.refl _),rfl,k⟩
  obtain ⟨bb,bc,a3,⟨_,_,rfl,⟨bd,rfl,a4⟩,_,_,rfl,⟨be,rfl,a5⟩,_,_,rfl,⟨bf,rfl,a6⟩,_,_,rfl,⟨bg,rfl,a7⟩,_,_,rfl,⟨bh,rfl,a8⟩,_,_,rfl,⟨bi,rfl,a9⟩,_,_,rfl,⟨u,rfl,aa⟩,rfl⟩,ab⟩:=id p
  have bj:=a4.length
  have bk:=a5.length
  have bl:=a6.length
  have bm:=a7.length
  have bn:=a8.length
  have bo:=a9.length
  have ac:=aa.length
  refine AG _ a3 ?_
  refine AL (x:=u) (AB (Sub.trans (Sub.refl _) k.sub) (ab.at 6 rfl)) rfl ?_
  obtain rfl:=iS e
  exact AN ((decide (n_1≥ ((u.2.1:Nat):Int))),()) rfl ⟨φ,(Sub.refl _),(by rw [ac]),k⟩
 rintro z2 bp ⟨f,j,rfl,b⟩
 try dsimp only at hd
 refine AH hd rfl (fun _ hd=> ?_) (fun _ hd=> ?_)
 ·refine AJ b rfl rfl fun bq ad=> ?_
  refine AJ ad rfl rfl fun br ae=> ?_
  refine AJ ae rfl rfl fun bs af=> ?_
  refine AJ af rfl rfl fun bt ag=> ?_
  refine AJ ag rfl rfl fun bu c=> ?_
  refine AA (x:=((none,0,0):Slc)) c rfl ?_
  refine AA (x:=((none,0,0):Slc)) c rfl ?_
  refine AA (x:=((none,0,0):Slc)) c rfl ?_
  refine AA (x:=(0:Int)) c rfl ?_
  refine AA (x:=(0:Int)) c rfl ?_
  obtain rfl:=iS hd
  have ah:=c.tail
  exact AC ⟨f,(((none,0,0):Slc),((none,0,0):Slc),((none,0,0):Slc),(0:Int),(0:Int),()),([] :List BI),([] :List BI),([] :List Hr),j,rfl,rfl,(Ro.SliceIs.nil Bx f),(Ro.SliceIs.nil Bx f),(Ro.SliceIs.nil Gt f),ah⟩
 obtain ⟨bv,bw,ai,⟨_,_,rfl,⟨bx,rfl,aj⟩,_,_,rfl,⟨bz,rfl,ak⟩,_,_,rfl,⟨c0,rfl,al⟩,_,_,rfl,⟨c1,rfl,am⟩,_,_,rfl,⟨c2,rfl,an⟩,_,_,rfl,⟨c3,rfl,ao⟩,_,_,rfl,⟨ap,rfl,w⟩,rfl⟩,aq⟩:=id p
 have c4:=aj.length
 have c5:=ak.length
 have c6:=al.length
 have c7:=am.length
 have c8:=an.length
 have c9:=ao.length
 have ca:=w.length
 refine AG _ ai ?_
 refine AL (x:=ap) (AB (Sub.trans j b.sub) (aq.at 6 rfl)) rfl ?_
 obtain ⟨a,ar,hd⟩:=bS hd
 obtain ⟨cb,cc,au,av,aw,i⟩:=(w.mono j).get ar
 refine AG _ au (AZ av ?_)
 obtain ⟨_,_,rfl,ax,ay⟩:=aw
 obtain ⟨l,rfl,z⟩:=ax
 have cd:=z.length
 obtain ⟨_,_,rfl,az,b0⟩:=ay
 obtain ⟨m,rfl,a0⟩:=az
 have ce:=a0.length
 obtain ⟨_,_,rfl,b1,b2⟩:=b0
 obtain ⟨n,rfl,a1⟩:=b1
 have cf:=a1.length
 obtain ⟨_,_,rfl,b3,b4⟩:=b2
 obtain rfl:=b3
 obtain rfl:=b4
 refine AL (x:=l) (AB (Sub.trans (Sub.refl _) b.sub) (i 0 _ rfl)) rfl ?_
 refine AL (x:=m) (by rw [AV]; exact (AB (Sub.trans (Sub.refl _) b.sub) (i 1 _ rfl))) rfl ?_
 refine AL (x:=n) (by rw [AV]; exact (AB (Sub.trans (Sub.refl _) b.sub) (i 2 _ rfl))) rfl ?_
 refine AL (x:=a.2.2.2.1) (by rw [AV]; exact (AB (Sub.trans (Sub.refl _) b.sub) (i 3 _ rfl))) rfl ?_
 refine AL (x:=a.2.2.2.2) (by rw [AV]; exact (AB (Sub.trans (Sub.refl _) b.sub) (i 4 _ rfl))) rfl ?_
 refine AJ b rfl rfl fun cg b5=> ?_
 refine AJ b5 rfl rfl fun ch b6=> ?_
 refine AJ b6 rfl rfl fun ci b7=> ?_
 refine AJ b7 rfl rfl fun cj b8=> ?_
 refine AJ b8 rfl rfl fun ck d=> ?_
 refine AA (x:=l) d rfl ?_
 refine AA (x:=m) d rfl ?_
 refine AA (x:=n) d rfl ?_
 refine AA (x:=a.2.2.2.1) d rfl ?_
 refine AA (x:=a.2.2.2.2) d rfl ?_
 obtain rfl:=iS hd
 have b9:=d.tail
 exact AC ⟨f,(l,m,n,a.2.2.2.1,a.2.2.2.2,()),a.1,a.2.1,a.2.2.1,j,rfl,rfl,z,a0,a1,b9⟩
noncomputable def Af (a_0:EP):Option Int:=
 some (((List.length a_0.2.2.2.2.2.2.1):Nat):Int)
theorem Av {φ:AE} {h:AF} {F:List Chk} {a_0:Option Addr} {a:EP} (c:Pt H8 φ a_0 a) (s0:St φ (F) h) {r:Int} (hd:Af a=some r):
 CallsH Tryd.prog 12 [(.pointer a_0)] h (BO fun v h'=> ∃ψ:AE,∃y:Int,Sub φ ψ∧v=((.one (.atom (.int .i64))):Sh).val y∧y=r∧St ψ (F) h'):=by
 refine Aa mixed Tryd.func12 ?_
 rw [GZ]
 unfold El
 unfold Af at hd
 obtain ⟨o,p,d,⟨_,_,rfl,⟨q,rfl,e⟩,_,_,rfl,⟨s,rfl,f⟩,_,_,rfl,⟨t,rfl,g⟩,_,_,rfl,⟨u,rfl,i⟩,_,_,rfl,⟨w,rfl,j⟩,_,_,rfl,⟨z,rfl,k⟩,_,_,rfl,⟨b,rfl,l⟩,rfl⟩,m⟩:=id c
 have a0:=e.length
 have a1:=f.length
 have a2:=g.length
 have a3:=i.length
 have a4:=j.length
 have a5:=k.length
 have n:=l.length
 refine AG _ d ?_
 refine AL (x:=b) (AB (Sub.trans (Sub.refl _) s0.sub) (m.at 6 rfl)) rfl ?_
 obtain rfl:=iS hd
 exact AC ⟨φ,((b.2.1:Nat):Int),(Sub.refl _),rfl,(by rw [n]),s0⟩
noncomputable def Bf (a_0:EP):Option Int:=
 some a_0.2.2.2.2.2.2.2
theorem B9 {φ:AE} {h:AF} {F:List Chk} {a_0:Option Addr} {a:EP} (b:Pt H8 φ a_0 a) (s0:St φ (F) h) {r:Int} (hd:Bf a=some r):
 CallsH Tryd.prog 13 [(.pointer a_0)] h (BO fun v h'=> ∃ψ:AE,∃y:Int,Sub φ ψ∧v=((.one (.atom (.int .i64))):Sh).val y∧y=r∧St ψ (F) h'):=by
 refine Aa mixed Tryd.func13 ?_
 rw [Fg]
 unfold EE
 unfold Bf at hd
 obtain ⟨m,n,c,⟨_,_,rfl,⟨o,rfl,d⟩,_,_,rfl,⟨p,rfl,e⟩,_,_,rfl,⟨q,rfl,f⟩,_,_,rfl,⟨s,rfl,g⟩,_,_,rfl,⟨t,rfl,i⟩,_,_,rfl,⟨u,rfl,j⟩,_,_,rfl,⟨w,rfl,k⟩,rfl⟩,l⟩:=id b
 have z:=d.length
 have a0:=e.length
 have a1:=f.length
 have a2:=g.length
 have a3:=i.length
 have a4:=j.length
 have a5:=k.length
 refine AG _ c ?_
 refine AL (x:=a.2.2.2.2.2.2.2) (AB (Sub.trans (Sub.refl _) s0.sub) (l.at 7 rfl)) rfl ?_
 obtain rfl:=iS hd
 exact AC ⟨φ,a.2.2.2.2.2.2.2,(Sub.refl _),rfl,rfl,s0⟩
noncomputable def A2 (a_0:EP) (n_1:Int) (sym_2:Int):Option Int:=
 (BA a_0 n_1).bind fun t1=>
 (CI (σ:=Unit) (β:=Int) (0:Int) (((List.length t1.2.2.1):Nat):Int) () fun i_z3 z3=>
  (idx t1.2.2.1 i_z3).bind fun e37=>
  cond (e37.1==sym_2)
  (some (AR.done e37.2))
  (some (AR.next ()))).bind fun e_z2=>match e_z2 with
 | .next z2=>
  some (-1:Int)
 | .done q60=>some q60
theorem B8 {φ:AE} {h:AF} {F:List Chk} {a_0:Option Addr} {i:EP} {n_1:Int} {sym_2:Int} (q:Pt H8 φ a_0 i) (s0:St φ (F) h) {r:Int} (hd:A2 i n_1 sym_2=some r):
 CallsH Tryd.prog 23 [(.pointer a_0),(.int .i64 n_1),(.int .i64 sym_2)] h (BO fun v h'=> ∃ψ:AE,∃y:Int,Sub φ ψ∧v=((.one (.atom (.int .i64))):Sh).val y∧y=r∧St ψ (F) h'):=by
 refine Aa mixed Tryd.func23 ?_
 rw [Gw]
 unfold E1
 unfold A2 at hd
 obtain ⟨am,s,hd⟩:=bS hd
 refine AK (Bp q s0 s) ?_
 rintro _ an ⟨d,t1,ao,ap,aq,j,rfl,rfl,t,u,k,w⟩
 refine ⟨t1,rfl,?_⟩
 try dsimp only at hd
 have ar:=t.length
 have au:=u.length
 have l:=k.length
 obtain ⟨z,a0,hd⟩:=bS hd
 refine Ad (fun (y:Int×Int×Unit) w_ g=> ∃ψ:AE,Sub d ψ∧AR.next ()=g∧St ψ (F) w_) (g:=z) ?_ ?_
 ·refine BQ a0 (fun a1 (y:Int×Int×Unit) w_ g=> ∃ψ:AE,Sub d ψ∧y.1=a1∧()=g∧St ψ (F) w_) ((0:Int),(0:Int),()) rfl ⟨d,(Sub.refl _),rfl,rfl,w⟩ ?_ ?_
  ·rintro _ z3 av _ _ ⟨m,e,rfl,rfl,f⟩ a a2 n o a3
   try dsimp only at a a2 n o
   refine Az (by rw [l]; exact decide_eq_true n) ?_
   obtain ⟨b,a4,a⟩:=bS a
   obtain ⟨aw,ax,a5,a6,a7,p⟩:=(k.mono e).get a4
   refine AG _ a5 (AZ a6 ?_)
   obtain ⟨_,_,rfl,a8,a9⟩:=a7
   obtain rfl:=a8
   obtain rfl:=a9
   refine AL (x:=b.1) (AB (Sub.trans (Sub.refl _) f.sub) (p 0 _ rfl)) rfl ?_
   refine AL (x:=b.2) (by rw [AV]; exact (AB (Sub.trans (Sub.refl _) f.sub) (p 1 _ rfl))) rfl ?_
   refine Ac (vs:= [.int .i64 (0:Int), .int .i64 (0:Int)]) f fun r7 ay aa=> ?_
   refine AJ aa rfl rfl fun az ab=> ?_
   refine AJ ab rfl rfl fun b0 c=> ?_
   refine AA (x:=b.1) c rfl ?_
   refine AH a rfl (fun _ a=> ?_) (fun _ a=> ?_)
   ·refine AA (x:=b.2) c rfl ?_
    obtain rfl:=iS a
    obtain rfl:=a3 _ rfl
    try dsimp only at hd
    obtain rfl:=iS hd
    have ac:=c.tail
    exact AU (AY (AC ⟨m,b.2,(j.trans e),rfl,rfl,ac⟩))
   have ad:=c.tail
   obtain rfl:=iS a
   exact Ar ((IntKind.wrap .i64 (z3.1+(1:Int))),z3.2.1,()) _ rfl rfl ⟨m,e,o,rfl,ad⟩
  ·rintro _ z3 b1 _ ⟨ae,af,rfl,rfl,ag⟩ ah ai
   subst ai
   refine Al (by rw [l]; exact decide_eq_false (Int.not_lt.2 ah)) ?_
   exact AO (AS (z3.1,z3.2.1,()) rfl ⟨ae,af,rfl,ag⟩)
 rintro z2 b2 ⟨aj,ak,rfl,al⟩
 try dsimp only at hd
 obtain rfl:=iS hd
 exact AC ⟨aj,(-1:Int),(j.trans ak),rfl,rfl,al⟩
noncomputable def Ag (a_0:EP) (n_1:Int) (seq_2:List Int):Option Int:=
 (cond (decide (n_1< (0:Int)))
 (some true)
 (some (decide (n_1≥ (((List.length a_0.2.2.2.2.2.2.1):Nat):Int))))).bind fun z1=>
 cond z1
 (some (-1:Int))
 (((CI (σ:=Int) (β:=Int) (0:Int) (((List.length seq_2):Nat):Int) n_1 fun i_z5 z5=>
  (idx seq_2 i_z5).bind fun e59=>
  (A2 a_0 z5 e59).bind fun t8=>
  cond (decide (t8< (0:Int)))
  (some (AR.done t8))
  (some (AR.next t8))).map AR.get).bind fun z4=>
  some z4)
theorem BN {φ:AE} {h:AF} {F:List Chk} {a_0:Option Addr} {i:EP} {n_1:Int} {seq_2:Slc} {f:List Int} (j:Pt H8 φ a_0 i) (k:Ro.SliceIs (Ro.int .i64) φ seq_2 f) (s0:St φ (F) h) {r:Int} (hd:Ag i n_1 f=some r):
 CallsH Tryd.prog 19 [(.pointer a_0),(.int .i64 n_1),(.slice seq_2.1 seq_2.2.1 seq_2.2.2)] h (BO fun v h'=> ∃ψ:AE,∃y:Int,Sub φ ψ∧v=((.one (.atom (.int .i64))):Sh).val y∧y=r∧St ψ (F) h'):=by
 refine Aa mixed Tryd.func19 ?_
 rw [F2]
 unfold EW
 unfold Ag at hd
 have l:seq_2.2.1=List.length f:=k.length
 obtain ⟨w,b,hd⟩:=bS hd
 refine Ak (fun (y:Bool×Unit) w_ g=> ∃ψ:AE,Sub φ ψ∧y.1=g∧St ψ (F) w_) (g:=w) ?_ ?_
 ·refine AH b rfl (fun _ b=> ?_) (fun _ b=> ?_)
  ·obtain rfl:=iS b
   exact AN (true,()) rfl ⟨φ,(Sub.refl _),rfl,s0⟩
  obtain ⟨ay,az,z,⟨_,_,rfl,⟨b0,rfl,a0⟩,_,_,rfl,⟨b1,rfl,a1⟩,_,_,rfl,⟨b2,rfl,a2⟩,_,_,rfl,⟨b3,rfl,a3⟩,_,_,rfl,⟨b4,rfl,a4⟩,_,_,rfl,⟨b5,rfl,a5⟩,_,_,rfl,⟨m,rfl,a6⟩,rfl⟩,a7⟩:=id j
  have b6:=a0.length
  have b7:=a1.length
  have b8:=a2.length
  have b9:=a3.length
  have ba:=a4.length
  have bb:=a5.length
  have a8:=a6.length
  refine AG _ z ?_
  refine AL (x:=m) (AB (Sub.trans (Sub.refl _) s0.sub) (a7.at 6 rfl)) rfl ?_
  obtain rfl:=iS b
  exact AN ((decide (n_1≥ ((m.2.1:Nat):Int))),()) rfl ⟨φ,(Sub.refl _),(by rw [a8]),s0⟩
 rintro z1 bc ⟨c,d,rfl,n⟩
 try dsimp only at hd
 refine AH hd rfl (fun _ hd=> ?_) (fun _ hd=> ?_)
 ·obtain rfl:=iS hd
  exact AC ⟨c,(-1:Int),d,rfl,rfl,n⟩
 obtain ⟨bd,a9,hd⟩:=bS hd
 obtain ⟨aa,ab,ac⟩:=Option.map_eq_some_iff.1 a9
 subst ac
 refine Ad (fun (y:Int×Int×Unit) w_ g=> ∃ψ:AE,Sub c ψ∧y.2.1=g∧St ψ (F) w_) (g:=(AR.get aa)) ?_ ?_
 ·refine BQ ab (fun ad (y:Int×Int×Unit) w_ g=> ∃ψ:AE,Sub c ψ∧y.1=ad∧y.2.1=g∧St ψ (F) w_) ((0:Int),n_1,()) rfl ⟨c,(Sub.refl _),rfl,rfl,n⟩ ?_ ?_
  ·rintro _ z5 be _ _ ⟨bf,e,rfl,rfl,o⟩ a ae p q af
   try dsimp only at a ae p q
   refine Az (by rw [l]; exact decide_eq_true p) ?_
   obtain ⟨ag,ah,a⟩:=bS a
   obtain ⟨bg,bh,ai,aj,ak,al⟩:=(k.mono (d.trans e)).get ah
   refine AG _ ai (AZ aj ?_)
   obtain rfl:=ak
   refine AL (x:=ag) (AB (Sub.trans (Sub.refl _) o.sub) (al 0 _ rfl)) rfl ?_
   obtain ⟨bi,am,a⟩:=bS a
   refine AK (B8 (j.mono (d.trans e)) o am) ?_
   rintro _ bj ⟨s,t8,t,rfl,rfl,u⟩
   refine ⟨t8,rfl,?_⟩
   refine AH a rfl (fun _ a=> ?_) (fun _ a=> ?_)
   ·obtain rfl:=iS a
    obtain rfl:=af _ rfl
    exact AO (AS (z5.1,t8,()) rfl ⟨s,(e.trans t),rfl,u⟩)
   obtain rfl:=iS a
   exact Ar ((IntKind.wrap .i64 (z5.1+(1:Int))),t8,()) _ rfl rfl ⟨s,(e.trans t),q,rfl,u⟩
  ·rintro _ z5 bk _ ⟨an,ao,rfl,rfl,ap⟩ aq ar
   subst ar
   refine Al (by rw [l]; exact decide_eq_false (Int.not_lt.2 aq)) ?_
   exact AO (AS (z5.1,z5.2.1,()) rfl ⟨an,ao,rfl,ap⟩)
 rintro z4 bl ⟨au,av,aw,ax⟩
 rw [← aw] at hd
 try dsimp only at hd
 obtain rfl:=iS hd
 exact AC ⟨au,z4.2.1,(d.trans av),rfl,rfl,ax⟩
end Go.Proofs.YtnkmpgldbddnkaaDoor
