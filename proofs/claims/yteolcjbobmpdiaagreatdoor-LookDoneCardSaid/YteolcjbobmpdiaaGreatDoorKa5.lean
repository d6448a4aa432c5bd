/-
  DenL, FirstS, FirstT, FirstU, FirstV, SimL, LookS, LookE, LookR, LookI, LookJ, LookG, LookH, LookO, F3, F4, F5, F6, put together.
  Conditions: none; each part tells its own.
-/
import Derived.Test.YteolcjbobmpdiaaGreatDoorKa1
import Derived.Test.YteolcjbobmpdiaaGreatDoorProg
import Derived.KernelRfl
import Derived.Test.YteolcjbobmpdiaaGreatDoorKa4
import Derived.Test.YteolcjbobmpdiaaGreatDoorKa3
import Derived.Test.YteolcjbobmpdiaaGreatDoorKa2
namespace Go.Proofs.YteolcjbobmpdiaaGreatDoor
open Go Go.Eng
set_option linter.unusedVariables false
set_option maxRecDepth 100000
noncomputable def Mb (p_0:Slc×Slc×Slc×Slc×Slc×Slc×Unit):T:=
 T.new (.cells #[(sv p_0.1),(sv p_0.2.1),(sv p_0.2.2.1),(sv p_0.2.2.2.1),(sv p_0.2.2.2.2.1),(sv p_0.2.2.2.2.2.1)] 32 (0,0)) fun r1=>
 T.new (.cells #[(.slice none 0 0),(.slice none 0 0),(.slice none 0 0),(.int .i64 (0:Int))] 133 (0,0)) fun r2=>
 T.load .slice ⟨r1,0,none⟩ fun (t3:Slc)=>
 T.load .slice ⟨r1,1,none⟩ fun (t4:Slc)=>
 T.load .slice ⟨r1,2,none⟩ fun (t5:Slc)=>
 T.load .slice ⟨r1,3,none⟩ fun (t6:Slc)=>
 T.load .slice ⟨r1,4,none⟩ fun (t7:Slc)=>
 T.load .slice ⟨r1,5,none⟩ fun (t8:Slc)=>
 T.load .slice ⟨r1,1,none⟩ fun (t9:Slc)=>
 T.load .slice ⟨r1,0,none⟩ fun (t10:Slc)=>
 T.load .slice ⟨r1,1,none⟩ fun (t11:Slc)=>
 T.load .slice ⟨r1,2,none⟩ fun (t12:Slc)=>
 T.load .slice ⟨r1,3,none⟩ fun (t13:Slc)=>
 T.load .slice ⟨r1,4,none⟩ fun (t14:Slc)=>
 T.load .slice ⟨r1,5,none⟩ fun (t15:Slc)=>
 T.load .slice ⟨r1,0,none⟩ fun (t16:Slc)=>
 T.load .slice ⟨r1,1,none⟩ fun (t17:Slc)=>
 T.load .slice ⟨r1,2,none⟩ fun (t18:Slc)=>
 T.load .slice ⟨r1,3,none⟩ fun (t19:Slc)=>
 T.load .slice ⟨r1,4,none⟩ fun (t20:Slc)=>
 T.load .slice ⟨r1,5,none⟩ fun (t21:Slc)=>
 T.both
 (T.sem (Instr.makeSlice 60 (.int .i64 (IntKind.wrap .i64 (((t9.2.1:Nat):Int) +(1:Int)))) (.int .i64 (IntKind.wrap .i64 (((t9.2.1:Nat):Int) +(1:Int))))) (.one aS) fun (t22:Slc)=>
 T.still ⟨r1,0,none⟩ (sv t16) <|
 T.still ⟨r1,1,none⟩ (sv t17) <|
 T.still ⟨r1,2,none⟩ (sv t18) <|
 T.still ⟨r1,3,none⟩ (sv t19) <|
 T.still ⟨r1,4,none⟩ (sv t20) <|
 T.still ⟨r1,5,none⟩ (sv t21) <|
 T.still ⟨r1,0,none⟩ (sv t10) <|
 T.still ⟨r1,1,none⟩ (sv t11) <|
 T.still ⟨r1,2,none⟩ (sv t12) <|
 T.still ⟨r1,3,none⟩ (sv t13) <|
 T.still ⟨r1,4,none⟩ (sv t14) <|
 T.still ⟨r1,5,none⟩ (sv t15) <|
 T.still ⟨r1,0,none⟩ (sv t3) <|
 T.still ⟨r1,1,none⟩ (sv t4) <|
 T.still ⟨r1,2,none⟩ (sv t5) <|
 T.still ⟨r1,3,none⟩ (sv t6) <|
 T.still ⟨r1,4,none⟩ (sv t7) <|
 T.still ⟨r1,5,none⟩ (sv t8) <|
 T.call 132 [(.agg #[(sv t10),(sv t11),(sv t12),(sv t13),(sv t14),(sv t15)])] (.one aS) fun (t23:Slc)=>
 T.still ⟨r1,0,none⟩ (sv t16) <|
 T.still ⟨r1,1,none⟩ (sv t17) <|
 T.still ⟨r1,2,none⟩ (sv t18) <|
 T.still ⟨r1,3,none⟩ (sv t19) <|
 T.still ⟨r1,4,none⟩ (sv t20) <|
 T.still ⟨r1,5,none⟩ (sv t21) <|
 T.still ⟨r1,0,none⟩ (sv t3) <|
 T.still ⟨r1,1,none⟩ (sv t4) <|
 T.still ⟨r1,2,none⟩ (sv t5) <|
 T.still ⟨r1,3,none⟩ (sv t6) <|
 T.still ⟨r1,4,none⟩ (sv t7) <|
 T.still ⟨r1,5,none⟩ (sv t8) <|
 T.call 132 [(.agg #[(sv t16),(sv t17),(sv t18),(sv t19),(sv t20),(sv t21)])] (.one aS) fun (t24:Slc)=>
 T.still ⟨r1,0,none⟩ (sv t3) <|
 T.still ⟨r1,1,none⟩ (sv t4) <|
 T.still ⟨r1,2,none⟩ (sv t5) <|
 T.still ⟨r1,3,none⟩ (sv t6) <|
 T.still ⟨r1,4,none⟩ (sv t7) <|
 T.still ⟨r1,5,none⟩ (sv t8) <|
 T.new (.cells #[(sv t3),(sv t4),(sv t5),(sv t6),(sv t7),(sv t8),(sv t22),(sv t23),(sv t24)] 221 (0,0)) fun r25=>
 T.block 0 [aI]
 (T.loop [aI] [(.int .i64 (1:Int))] fun (z27:Int×Unit)=>
 T.call 133 [(.pointer (some ⟨r25,0,none⟩))] (.one aB) fun (t28:Bool)=>
 cond t28
 (T.out [(.int .i64 (wN z27.1))])
 (T.brk 0 [(.int .i64 z27.1)])) fun (z26:Int×Unit)=>
 T.load .slice ⟨r25,8,none⟩ fun (t29:Slc)=>
 T.load .slice ⟨r1,1,none⟩ fun (t30:Slc)=>
 deref t29.1 fun a31=>
 chk (0≤((t30.2.1:Nat):Int)∧((t30.2.1:Nat):Int) < (t29.2.1:Nat)) <|
 T.load .pointer (a31.add (Int.toNat ((t30.2.1:Nat):Int) * 1)) fun (t32:Option Addr)=>
 T.call 134 [(.pointer t32),(.int .i64 (0:Int))] (.one aB) fun (t33:Bool)=>
 T.block 2 []
 (T.loop [] [] fun (z35:Unit)=>
 T.call 135 [(.pointer (some ⟨r25,0,none⟩))] (.one aB) fun (t36:Bool)=>
 cond t36
 (T.out [])
 (T.brk 2 [])) fun (z34:Unit)=>
 T.load .slice ⟨r25,6,none⟩ fun (t37:Slc)=>
 T.load .slice ⟨r25,7,none⟩ fun (t38:Slc)=>
 T.load .slice ⟨r25,8,none⟩ fun (t39:Slc)=>
 T.call 136 [(sv t38)] (.one aS) fun (t40:Slc)=>
 T.still ⟨r25,8,none⟩ (sv t39) <|
 T.still ⟨r25,6,none⟩ (sv t37) <|
 T.call 136 [(sv t39)] (.one aS) fun (t41:Slc)=>
 T.still ⟨r25,6,none⟩ (sv t37) <|
 T.store ⟨r2,0,none⟩ (sv t37) <|
 T.store ⟨r2,1,none⟩ (sv t40) <|
 T.store ⟨r2,2,none⟩ (sv t41) <|
 T.store ⟨r2,3,none⟩ (.int .i64 z26.1) <|
 T.load .slice ⟨r2,0,none⟩ fun (res42:Slc)=>
 T.load .slice ⟨r2,1,none⟩ fun (res43:Slc)=>
 T.load .slice ⟨r2,2,none⟩ fun (res44:Slc)=>
 T.load (.int .i64) ⟨r2,3,none⟩ fun (res45:Int)=>
 T.ret (.agg #[(sv res42),(sv res43),(sv res44),(.int .i64 res45)]))
 (T.call 132 [(.agg #[(sv t10),(sv t11),(sv t12),(sv t13),(sv t14),(sv t15)])] (.one aS) fun (t46:Slc)=>
 T.still ⟨r1,0,none⟩ (sv t16) <|
 T.still ⟨r1,1,none⟩ (sv t17) <|
 T.still ⟨r1,2,none⟩ (sv t18) <|
 T.still ⟨r1,3,none⟩ (sv t19) <|
 T.still ⟨r1,4,none⟩ (sv t20) <|
 T.still ⟨r1,5,none⟩ (sv t21) <|
 T.still ⟨r1,1,none⟩ (sv t9) <|
 T.still ⟨r1,0,none⟩ (sv t3) <|
 T.still ⟨r1,1,none⟩ (sv t4) <|
 T.still ⟨r1,2,none⟩ (sv t5) <|
 T.still ⟨r1,3,none⟩ (sv t6) <|
 T.still ⟨r1,4,none⟩ (sv t7) <|
 T.still ⟨r1,5,none⟩ (sv t8) <|
 T.both
 (T.sem (Instr.makeSlice 60 (.int .i64 (IntKind.wrap .i64 (((t9.2.1:Nat):Int) +(1:Int)))) (.int .i64 (IntKind.wrap .i64 (((t9.2.1:Nat):Int) +(1:Int))))) (.one aS) fun (t47:Slc)=>
 T.still ⟨r1,0,none⟩ (sv t16) <|
 T.still ⟨r1,1,none⟩ (sv t17) <|
 T.still ⟨r1,2,none⟩ (sv t18) <|
 T.still ⟨r1,3,none⟩ (sv t19) <|
 T.still ⟨r1,4,none⟩ (sv t20) <|
 T.still ⟨r1,5,none⟩ (sv t21) <|
 T.still ⟨r1,0,none⟩ (sv t3) <|
 T.still ⟨r1,1,none⟩ (sv t4) <|
 T.still ⟨r1,2,none⟩ (sv t5) <|
 T.still ⟨r1,3,none⟩ (sv t6) <|
 T.still ⟨r1,4,none⟩ (sv t7) <|
 T.still ⟨r1,5,none⟩ (sv t8) <|
 T.call 132 [(.agg #[(sv t16),(sv t17),(sv t18),(sv t19),(sv t20),(sv t21)])] (.one aS) fun (t48:Slc)=>
 T.still ⟨r1,0,none⟩ (sv t3) <|
 T.still ⟨r1,1,none⟩ (sv t4) <|
 T.still ⟨r1,2,none⟩ (sv t5) <|
 T.still ⟨r1,3,none⟩ (sv t6) <|
 T.still ⟨r1,4,none⟩ (sv t7) <|
 T.still ⟨r1,5,none⟩ (sv t8) <|
 T.new (.cells #[(sv t3),(sv t4),(sv t5),(sv t6),(sv t7),(sv t8),(sv t47),(sv t46),(sv t48)] 221 (0,0)) fun r49=>
 T.block 0 [aI]
 (T.loop [aI] [(.int .i64 (1:Int))] fun (z51:Int×Unit)=>
 T.call 133 [(.pointer (some ⟨r49,0,none⟩))] (.one aB) fun (t52:Bool)=>
 cond t52
 (T.out [(.int .i64 (wN z51.1))])
 (T.brk 0 [(.int .i64 z51.1)])) fun (z50:Int×Unit)=>
 T.load .slice ⟨r49,8,none⟩ fun (t53:Slc)=>
 T.load .slice ⟨r1,1,none⟩ fun (t54:Slc)=>
 deref t53.1 fun a55=>
 chk (0≤((t54.2.1:Nat):Int)∧((t54.2.1:Nat):Int) < (t53.2.1:Nat)) <|
 T.load .pointer (a55.add (Int.toNat ((t54.2.1:Nat):Int) * 1)) fun (t56:Option Addr)=>
 T.call 134 [(.pointer t56),(.int .i64 (0:Int))] (.one aB) fun (t57:Bool)=>
 T.block 2 []
 (T.loop [] [] fun (z59:Unit)=>
 T.call 135 [(.pointer (some ⟨r49,0,none⟩))] (.one aB) fun (t60:Bool)=>
 cond t60
 (T.out [])
 (T.brk 2 [])) fun (z58:Unit)=>
 T.load .slice ⟨r49,6,none⟩ fun (t61:Slc)=>
 T.load .slice ⟨r49,7,none⟩ fun (t62:Slc)=>
 T.load .slice ⟨r49,8,none⟩ fun (t63:Slc)=>
 T.call 136 [(sv t62)] (.one aS) fun (t64:Slc)=>
 T.still ⟨r49,8,none⟩ (sv t63) <|
 T.still ⟨r49,6,none⟩ (sv t61) <|
 T.call 136 [(sv t63)] (.one aS) fun (t65:Slc)=>
 T.still ⟨r49,6,none⟩ (sv t61) <|
 T.store ⟨r2,0,none⟩ (sv t61) <|
 T.store ⟨r2,1,none⟩ (sv t64) <|
 T.store ⟨r2,2,none⟩ (sv t65) <|
 T.store ⟨r2,3,none⟩ (.int .i64 z50.1) <|
 T.load .slice ⟨r2,0,none⟩ fun (res66:Slc)=>
 T.load .slice ⟨r2,1,none⟩ fun (res67:Slc)=>
 T.load .slice ⟨r2,2,none⟩ fun (res68:Slc)=>
 T.load (.int .i64) ⟨r2,3,none⟩ fun (res69:Int)=>
 T.ret (.agg #[(sv res66),(sv res67),(sv res68),(.int .i64 res69)]))
 (T.call 132 [(.agg #[(sv t16),(sv t17),(sv t18),(sv t19),(sv t20),(sv t21)])] (.one aS) fun (t70:Slc)=>
 T.still ⟨r1,1,none⟩ (sv t9) <|
 T.still ⟨r1,0,none⟩ (sv t3) <|
 T.still ⟨r1,1,none⟩ (sv t4) <|
 T.still ⟨r1,2,none⟩ (sv t5) <|
 T.still ⟨r1,3,none⟩ (sv t6) <|
 T.still ⟨r1,4,none⟩ (sv t7) <|
 T.still ⟨r1,5,none⟩ (sv t8) <|
 T.sem (Instr.makeSlice 60 (.int .i64 (IntKind.wrap .i64 (((t9.2.1:Nat):Int) +(1:Int)))) (.int .i64 (IntKind.wrap .i64 (((t9.2.1:Nat):Int) +(1:Int))))) (.one aS) fun (t71:Slc)=>
 T.still ⟨r1,0,none⟩ (sv t3) <|
 T.still ⟨r1,1,none⟩ (sv t4) <|
 T.still ⟨r1,2,none⟩ (sv t5) <|
 T.still ⟨r1,3,none⟩ (sv t6) <|
 T.still ⟨r1,4,none⟩ (sv t7) <|
 T.still ⟨r1,5,none⟩ (sv t8) <|
 T.new (.cells #[(sv t3),(sv t4),(sv t5),(sv t6),(sv t7),(sv t8),(sv t71),(sv t46),(sv t70)] 221 (0,0)) fun r72=>
 T.block 0 [aI]
 (T.loop [aI] [(.int .i64 (1:Int))] fun (z74:Int×Unit)=>
 T.call 133 [(.pointer (some ⟨r72,0,none⟩))] (.one aB) fun (t75:Bool)=>
 cond t75
 (T.out [(.int .i64 (wN z74.1))])
 (T.brk 0 [(.int .i64 z74.1)])) fun (z73:Int×Unit)=>
 T.load .slice ⟨r72,8,none⟩ fun (t76:Slc)=>
 T.load .slice ⟨r1,1,none⟩ fun (t77:Slc)=>
 deref t76.1 fun a78=>
 chk (0≤((t77.2.1:Nat):Int)∧((t77.2.1:Nat):Int) < (t76.2.1:Nat)) <|
 T.load .pointer (a78.add (Int.toNat ((t77.2.1:Nat):Int) * 1)) fun (t79:Option Addr)=>
 T.call 134 [(.pointer t79),(.int .i64 (0:Int))] (.one aB) fun (t80:Bool)=>
 T.block 2 []
 (T.loop [] [] fun (z82:Unit)=>
 T.call 135 [(.pointer (some ⟨r72,0,none⟩))] (.one aB) fun (t83:Bool)=>
 cond t83
 (T.out [])
 (T.brk 2 [])) fun (z81:Unit)=>
 T.load .slice ⟨r72,6,none⟩ fun (t84:Slc)=>
 T.load .slice ⟨r72,7,none⟩ fun (t85:Slc)=>
 T.load .slice ⟨r72,8,none⟩ fun (t86:Slc)=>
 T.call 136 [(sv t85)] (.one aS) fun (t87:Slc)=>
 T.still ⟨r72,8,none⟩ (sv t86) <|
 T.still ⟨r72,6,none⟩ (sv t84) <|
 T.call 136 [(sv t86)] (.one aS) fun (t88:Slc)=>
 T.still ⟨r72,6,none⟩ (sv t84) <|
 T.store ⟨r2,0,none⟩ (sv t84) <|
 T.store ⟨r2,1,none⟩ (sv t87) <|
 T.store ⟨r2,2,none⟩ (sv t88) <|
 T.store ⟨r2,3,none⟩ (.int .i64 z73.1) <|
 T.load .slice ⟨r2,0,none⟩ fun (res89:Slc)=>
 T.load .slice ⟨r2,1,none⟩ fun (res90:Slc)=>
 T.load .slice ⟨r2,2,none⟩ fun (res91:Slc)=>
 T.load (.int .i64) ⟨r2,3,none⟩ fun (res92:Int)=>
 T.ret (.agg #[(sv res89),(sv res90),(sv res91),(.int .i64 res92)])))
theorem OA (p_0:Slc×Slc×Slc×Slc×Slc×Slc×Unit):Ab Tryz.prog Tryz.f106 [(.agg #[(sv p_0.1),(sv p_0.2.1),(sv p_0.2.2.1),(sv p_0.2.2.2.1),(sv p_0.2.2.2.2.1),(sv p_0.2.2.2.2.2.1)])] =Mb p_0:=by kernel_rfl
noncomputable def Jn (p_0:Slc×Slc×Slc×Slc×Slc×Slc×Unit):T:=
 T.new (.cells #[(sv p_0.1),(sv p_0.2.1),(sv p_0.2.2.1),(sv p_0.2.2.2.1),(sv p_0.2.2.2.2.1),(sv p_0.2.2.2.2.2.1)] 32 (0,0)) fun r1=>
 T.load .slice ⟨r1,1,none⟩ fun (t2:Slc)=>
 T.block 0 [aI,aS]
 (T.loop [aI,aS] [(.int .i64 (0:Int)),(.slice none 0 0)] fun (z4:Int×Slc×Unit)=>
 cond (decide (z4.1< (IntKind.wrap .i64 (((t2.2.1:Nat):Int) +(1:Int)))))
 (T.load .slice ⟨r1,0,none⟩ fun (t5:Slc)=>
 T.call 138 [(.int .i64 ((t5.2.1:Nat):Int))] (.one aP) fun (t6:Option Addr)=>
 T.new (.cells #[(.pointer t6)] 139 (0,0)) fun r7=>
 T.sem (Builtin.append_ #[195,195] 195 #[(sv z4.2.1),(.slice (some ⟨r7,0,none⟩) 1 1)]) (.one aS) fun (t8:Slc)=>
 T.out [(.int .i64 (wN z4.1)),(sv t8)])
 (T.brk 0 [(.int .i64 z4.1),(sv z4.2.1)])) fun (z3:Int×Slc×Unit)=>
 T.ret (sv z3.2.1)
theorem Li (p_0:Slc×Slc×Slc×Slc×Slc×Slc×Unit):Ab Tryz.prog Tryz.f132 [(.agg #[(sv p_0.1),(sv p_0.2.1),(sv p_0.2.2.1),(sv p_0.2.2.2.1),(sv p_0.2.2.2.2.1),(sv p_0.2.2.2.2.2.1)])] =Jn p_0:=by kernel_rfl
noncomputable def GF (s_0:Option Addr):T:=
 deref s_0 fun a1=>
 T.load .slice (a1.add 2) fun (t2:Slc)=>
 T.block 0 [aI,aB]
 (T.loop [aI,aB] [(.int .i64 (0:Int)),(.bool false)] fun (z4:Int×Bool×Unit)=>
 cond (decide (z4.1< ((t2.2.1:Nat):Int)))
 (deref t2.1 fun a5=>
 chk (0≤z4.1∧z4.1< (t2.2.1:Nat)) <|
 T.load (.int .i64) (a5.add (Int.toNat z4.1 * 3)) fun (t6:Int)=>
 T.load .slice ((a5.add (Int.toNat z4.1 * 3)).add 1) fun (t7:Slc)=>
 T.load (.int .i64) ((a5.add (Int.toNat z4.1 * 3)).add 2) fun (t8:Int)=>
 T.new (.cells #[(.int .i64 (0:Int)),(.slice none 0 0),(.int .i64 (0:Int))] 65 (0,0)) fun r9=>
 T.store ⟨r9,0,none⟩ (.int .i64 t6) <|
 T.store ⟨r9,1,none⟩ (sv t7) <|
 T.store ⟨r9,2,none⟩ (.int .i64 t8) <|
 T.load (.int .i64) ⟨r9,0,none⟩ fun (t10:Int)=>
 T.call 160 [(.pointer s_0),(.int .i64 t10)] (.one aI) fun (t11:Int)=>
 T.load .slice ⟨r9,1,none⟩ fun (t12:Slc)=>
 deref s_0 fun a13=>
 T.load .slice (a13.add 7) fun (t14:Slc)=>
 deref t14.1 fun a15=>
 chk (0≤t11∧t11< (t14.2.1:Nat)) <|
 T.load .pointer (a15.add (Int.toNat t11 * 1)) fun (t16:Option Addr)=>
 T.call 161 [(.pointer s_0),(sv t12),(.func (.func 139) #[(.pointer t16)] #[])] (.tuple [aB,aB]) fun (t17:Bool×Bool×Unit)=>
 T.join [aB]
 (cond z4.2.1
 (T.out [(.bool true)])
 (cond t17.1
 (T.out [(.bool true)])
 (cond t17.2.1
 (deref s_0 fun a19=>
 T.load .slice (a19.add 6) fun (t20:Slc)=>
 deref t20.1 fun a21=>
 chk (0≤t11∧t11< (t20.2.1:Nat)) <|
 T.load .bool (a21.add (Int.toNat t11 * 1)) fun (t22:Bool)=>
 T.out [(.bool (!t22))])
 (T.out [(.bool false)])))) fun (z18:Bool×Unit)=>
 T.join []
 (deref s_0 fun a24=>
 T.load .slice (a24.add 6) fun (t25:Slc)=>
 deref s_0 fun a26=>
 T.load .slice (a26.add 6) fun (t27:Slc)=>
 deref t27.1 fun a28=>
 chk (0≤t11∧t11< (t27.2.1:Nat)) <|
 T.load .bool (a28.add (Int.toNat t11 * 1)) fun (t29:Bool)=>
 cond t29
 (deref t25.1 fun a30=>
 chk (0≤t11∧t11< (t25.2.1:Nat)) <|
 T.store (a30.add (Int.toNat t11 * 1)) (.bool true) <|
 T.out [])
 (deref t25.1 fun a31=>
 chk (0≤t11∧t11< (t25.2.1:Nat)) <|
 T.store (a31.add (Int.toNat t11 * 1)) (.bool t17.2.1) <|
 T.out [])) fun (z23:Unit)=>
 T.out [(.int .i64 (wN z4.1)),(.bool z18.1)])
 (T.brk 0 [(.int .i64 z4.1),(.bool z4.2.1)])) fun (z3:Int×Bool×Unit)=>
 T.ret (.bool z3.2.1)
theorem Iz (s_0:Option Addr):Ab Tryz.prog Tryz.f133 [(.pointer s_0)] =GF s_0:=by kernel_rfl
noncomputable def FW (s_0:Option Addr):T:=
 deref s_0 fun a1=>
 T.load .slice (a1.add 2) fun (t2:Slc)=>
 T.block 0 [aI,aB]
 (T.loop [aI,aB] [(.int .i64 (0:Int)),(.bool false)] fun (z4:Int×Bool×Unit)=>
 cond (decide (z4.1< ((t2.2.1:Nat):Int)))
 (deref t2.1 fun a5=>
 chk (0≤z4.1∧z4.1< (t2.2.1:Nat)) <|
 T.load (.int .i64) (a5.add (Int.toNat z4.1 * 3)) fun (t6:Int)=>
 T.load .slice ((a5.add (Int.toNat z4.1 * 3)).add 1) fun (t7:Slc)=>
 T.load (.int .i64) ((a5.add (Int.toNat z4.1 * 3)).add 2) fun (t8:Int)=>
 T.new (.cells #[(.int .i64 (0:Int)),(.slice none 0 0),(.int .i64 (0:Int))] 65 (0,0)) fun r9=>
 T.store ⟨r9,0,none⟩ (.int .i64 t6) <|
 T.store ⟨r9,1,none⟩ (sv t7) <|
 T.store ⟨r9,2,none⟩ (.int .i64 t8) <|
 T.load .slice ⟨r9,1,none⟩ fun (t10:Slc)=>
 T.block 2 [aI,aB]
 (T.loop [aI,aB] [(.int .i64 (0:Int)),(.bool z4.2.1)] fun (z12:Int×Bool×Unit)=>
 cond (decide (z12.1< ((t10.2.1:Nat):Int)))
 (T.block 3 [aB]
 (deref t10.1 fun a14=>
 chk (0≤z12.1∧z12.1< (t10.2.1:Nat)) <|
 T.load (.int .i64) (a14.add (Int.toNat z12.1 * 1)) fun (t15:Int)=>
 deref s_0 fun a16=>
 T.load .slice a16 fun (t17:Slc)=>
 T.load .slice (a16.add 1) fun (t18:Slc)=>
 T.load .slice (a16.add 2) fun (t19:Slc)=>
 T.load .slice (a16.add 3) fun (t20:Slc)=>
 T.load .slice (a16.add 4) fun (t21:Slc)=>
 T.load .slice (a16.add 5) fun (t22:Slc)=>
 T.call 86 [(.agg #[(sv t17),(sv t18),(sv t19),(sv t20),(sv t21),(sv t22)]),(.int .i64 t15)] (.one aB) fun (t23:Bool)=>
 cond t23
 (T.brk 3 [(.bool z12.2.1)])
 (deref s_0 fun a24=>
 T.load .slice (a24.add 8) fun (t25:Slc)=>
 T.call 160 [(.pointer s_0),(.int .i64 t15)] (.one aI) fun (t26:Int)=>
 T.still (a24.add 8) (sv t25) <|
 deref t25.1 fun a27=>
 chk (0≤t26∧t26< (t25.2.1:Nat)) <|
 T.load .pointer (a27.add (Int.toNat t26 * 1)) fun (t28:Option Addr)=>
 T.load .slice ⟨r9,1,none⟩ fun (t29:Slc)=>
 chk (0≤(wN z12.1)∧(wN z12.1) ≤((t29.2.1:Nat):Int)∧((t29.2.1:Nat):Int) ≤(t29.2.2:Nat)) <|
 T.call 161 [(.pointer s_0),(.slice (if t29.2.2=Int.toNat (wN z12.1) then t29.1 else Option.map (fun x=>Addr.add x (Int.toNat (wN z12.1) * 1)) t29.1) (Int.toNat ((t29.2.1:Nat):Int) - Int.toNat (wN z12.1)) (t29.2.2 - Int.toNat (wN z12.1))),(.func (.func 139) #[(.pointer t28)] #[])] (.tuple [aB,aB]) fun (t30:Bool×Bool×Unit)=>
 T.join [aB]
 (cond t30.2.1
 (T.join [aB]
 (deref s_0 fun a33=>
 T.load .slice (a33.add 8) fun (t34:Slc)=>
 T.load (.int .i64) ⟨r9,0,none⟩ fun (t35:Int)=>
 T.call 160 [(.pointer s_0),(.int .i64 t35)] (.one aI) fun (t36:Int)=>
 T.still (a33.add 8) (sv t34) <|
 deref t34.1 fun a37=>
 chk (0≤t36∧t36< (t34.2.1:Nat)) <|
 T.load .pointer (a37.add (Int.toNat t36 * 1)) fun (t38:Option Addr)=>
 T.call 139 [(.pointer t28),(.pointer t38)] (.one aB) fun (t39:Bool)=>
 cond t39
 (T.out [(.bool true)])
 (T.out [(.bool t30.1)])) fun (z32:Bool×Unit)=>
 T.out [(.bool z32.1)])
 (T.out [(.bool t30.1)])) fun (z31:Bool×Unit)=>
 T.join [aB]
 (cond z12.2.1
 (T.out [(.bool true)])
 (T.out [(.bool z31.1)])) fun (z40:Bool×Unit)=>
 T.out [(.bool z40.1)])) fun (z13:Bool×Unit)=>
 T.out [(.int .i64 (wN z12.1)),(.bool z13.1)])
 (T.brk 2 [(.int .i64 z12.1),(.bool z12.2.1)])) fun (z11:Int×Bool×Unit)=>
 T.out [(.int .i64 (wN z4.1)),(.bool z11.2.1)])
 (T.brk 0 [(.int .i64 z4.1),(.bool z4.2.1)])) fun (z3:Int×Bool×Unit)=>
 T.ret (.bool z3.2.1)
theorem IC (s_0:Option Addr):Ab Tryz.prog Tryz.f135 [(.pointer s_0)] =FW s_0:=by kernel_rfl
noncomputable def Jo (l_0_p:Option Addr) (l_0_n l_0_c:Nat):T:=
 T.block 0 [aI,aS]
 (T.loop [aI,aS] [(.int .i64 (0:Int)),(.slice none 0 0)] fun (z2:Int×Slc×Unit)=>
 cond (decide (z2.1< ((l_0_n:Nat):Int)))
 (deref l_0_p fun a3=>
 chk (0≤z2.1∧z2.1< (l_0_n:Nat)) <|
 T.load .pointer (a3.add (Int.toNat z2.1 * 1)) fun (t4:Option Addr)=>
 T.call 70 [(.pointer t4)] (.one aS) fun (t5:Slc)=>
 T.new (.cells #[(sv t5)] 30 (0,0)) fun r6=>
 T.sem (Builtin.append_ #[97,97] 97 #[(sv z2.2.1),(.slice (some ⟨r6,0,none⟩) 1 1)]) (.one aS) fun (t7:Slc)=>
 T.out [(.int .i64 (wN z2.1)),(sv t7)])
 (T.brk 0 [(.int .i64 z2.1),(sv z2.2.1)])) fun (z1:Int×Slc×Unit)=>
 T.ret (sv z1.2.1)
theorem Lj (l_0_p:Option Addr) (l_0_n l_0_c:Nat):Ab Tryz.prog Tryz.f136 [(.slice l_0_p l_0_n l_0_c)] =Jo l_0_p l_0_n l_0_c:=by kernel_rfl
noncomputable def Gf (f_0:Slc×Slc×Slc×Int×Unit) (p_1:Slc×Slc×Slc×Slc×Slc×Slc×Unit) (seq_2_p:Option Addr) (seq_2_n seq_2_c:Nat):T:=
 T.new (.cells #[(sv f_0.1),(sv f_0.2.1),(sv f_0.2.2.1),(.int .i64 f_0.2.2.2.1)] 133 (0,0)) fun r1=>
 T.new (.cells #[(sv p_1.1),(sv p_1.2.1),(sv p_1.2.2.1),(sv p_1.2.2.2.1),(sv p_1.2.2.2.2.1),(sv p_1.2.2.2.2.2.1)] 32 (0,0)) fun r2=>
 T.load .slice ⟨r2,0,none⟩ fun (t3:Slc)=>
 T.call 138 [(.int .i64 ((t3.2.1:Nat):Int))] (.one aP) fun (t4:Option Addr)=>
 T.block 0 [aI,aB,aS]
 (T.loop [aI,aB,aS] [(.int .i64 (0:Int)),(.bool false),(.slice none 0 0)] fun (z6:Int×Bool×Slc×Unit)=>
 cond (decide (z6.1< ((seq_2_n:Nat):Int)))
 (T.block 1 [aB,aS]
 (deref seq_2_p fun a8=>
 chk (0≤z6.1∧z6.1< (seq_2_n:Nat)) <|
 T.load (.int .i64) (a8.add (Int.toNat z6.1 * 1)) fun (t9:Int)=>
 T.load .slice ⟨r2,0,none⟩ fun (t10:Slc)=>
 T.load .slice ⟨r2,1,none⟩ fun (t11:Slc)=>
 T.load .slice ⟨r2,2,none⟩ fun (t12:Slc)=>
 T.load .slice ⟨r2,3,none⟩ fun (t13:Slc)=>
 T.load .slice ⟨r2,4,none⟩ fun (t14:Slc)=>
 T.load .slice ⟨r2,5,none⟩ fun (t15:Slc)=>
 T.call 86 [(.agg #[(sv t10),(sv t11),(sv t12),(sv t13),(sv t14),(sv t15)]),(.int .i64 t9)] (.one aB) fun (t16:Bool)=>
 cond t16
 (T.call 134 [(.pointer t4),(.int .i64 t9)] (.one aB) fun (t17:Bool)=>
 T.call 70 [(.pointer t4)] (.one aS) fun (t18:Slc)=>
 T.ret (.tuple #[(sv t18),(.bool false)]))
 (T.load .slice ⟨r2,0,none⟩ fun (t19:Slc)=>
 T.join [aB]
 (cond (decide ((IntKind.wrap .i64 (t9 - ((t19.2.1:Nat):Int))) < (0:Int)))
 (T.out [(.bool true)])
 (T.load .slice ⟨r1,1,none⟩ fun (t21:Slc)=>
 T.out [(.bool (decide ((IntKind.wrap .i64 (t9 - ((t19.2.1:Nat):Int))) ≥ ((t21.2.1:Nat):Int))))])) fun (z20:Bool×Unit)=>
 cond z20.1
 (T.brk 1 [(.bool z6.2.1),(sv z6.2.2.1)])
 (T.load .slice ⟨r2,0,none⟩ fun (t22:Slc)=>
 T.load .slice ⟨r1,1,none⟩ fun (t23:Slc)=>
 deref t23.1 fun a24=>
 chk (0≤(IntKind.wrap .i64 (t9 - ((t19.2.1:Nat):Int)))∧(IntKind.wrap .i64 (t9 - ((t19.2.1:Nat):Int))) < (t23.2.1:Nat)) <|
 T.load .slice (a24.add (Int.toNat (IntKind.wrap .i64 (t9 - ((t19.2.1:Nat):Int))) * 1)) fun (t25:Slc)=>
 T.call 140 [(.int .i64 ((t22.2.1:Nat):Int)),(sv t25)] (.one aP) fun (t26:Option Addr)=>
 T.call 139 [(.pointer t4),(.pointer t26)] (.one aB) fun (t27:Bool)=>
 T.load .slice ⟨r1,0,none⟩ fun (t28:Slc)=>
 deref t28.1 fun a29=>
 chk (0≤(IntKind.wrap .i64 (t9 - ((t19.2.1:Nat):Int)))∧(IntKind.wrap .i64 (t9 - ((t19.2.1:Nat):Int))) < (t28.2.1:Nat)) <|
 T.load .bool (a29.add (Int.toNat (IntKind.wrap .i64 (t9 - ((t19.2.1:Nat):Int))) * 1)) fun (t30:Bool)=>
 cond (!t30)
 (T.call 70 [(.pointer t4)] (.one aS) fun (t31:Slc)=>
 T.ret (.tuple #[(sv t31),(.bool false)]))
 (T.out [(.bool z6.2.1),(sv z6.2.2.1)])))) fun (z7:Bool×Slc×Unit)=>
 T.out [(.int .i64 (wN z6.1)),(.bool z7.1),(sv z7.2.1)])
 (T.brk 0 [(.int .i64 z6.1),(.bool z6.2.1),(sv z6.2.2.1)])) fun (z5:Int×Bool×Slc×Unit)=>
 T.call 70 [(.pointer t4)] (.one aS) fun (t32:Slc)=>
 T.ret (.tuple #[(sv t32),(.bool true)])
theorem Ja (f_0:Slc×Slc×Slc×Int×Unit) (p_1:Slc×Slc×Slc×Slc×Slc×Slc×Unit) (seq_2_p:Option Addr) (seq_2_n seq_2_c:Nat):Ab Tryz.prog Tryz.f146 [(.agg #[(sv f_0.1),(sv f_0.2.1),(sv f_0.2.2.1),(.int .i64 f_0.2.2.2.1)]),(.agg #[(sv p_1.1),(sv p_1.2.1),(sv p_1.2.2.1),(sv p_1.2.2.2.1),(sv p_1.2.2.2.2.1),(sv p_1.2.2.2.2.2.1)]),(.slice seq_2_p seq_2_n seq_2_c)] =Gf f_0 p_1 seq_2_p seq_2_n seq_2_c:=by kernel_rfl
noncomputable def Hx (s_0:Option Addr) (sym_1:Int):T:=
 deref s_0 fun a1=>
 T.load .slice a1 fun (t2:Slc)=>
 T.ret (.int .i64 (IntKind.wrap .i64 (sym_1 - ((t2.2.1:Nat):Int))))
theorem Ko (s_0:Option Addr) (sym_1:Int):Ab Tryz.prog Tryz.f160 [(.pointer s_0),(.int .i64 sym_1)] =Hx s_0 sym_1:=by kernel_rfl
noncomputable def Ei (s_0:Option Addr) (seq_1_p:Option Addr) (seq_1_n seq_1_c:Nat) (k_2:Option Addr):T:=
 T.block 0 [aI,aB,aB]
 (T.loop [aI,aB,aB] [(.int .i64 (0:Int)),(.bool false),(.bool false)] fun (z2:Int×Bool×Bool×Unit)=>
 cond (decide (z2.1< ((seq_1_n:Nat):Int)))
 (deref seq_1_p fun a3=>
 chk (0≤z2.1∧z2.1< (seq_1_n:Nat)) <|
 T.load (.int .i64) (a3.add (Int.toNat z2.1 * 1)) fun (t4:Int)=>
 deref s_0 fun a5=>
 T.load .slice a5 fun (t6:Slc)=>
 T.load .slice (a5.add 1) fun (t7:Slc)=>
 T.load .slice (a5.add 2) fun (t8:Slc)=>
 T.load .slice (a5.add 3) fun (t9:Slc)=>
 T.load .slice (a5.add 4) fun (t10:Slc)=>
 T.load .slice (a5.add 5) fun (t11:Slc)=>
 T.call 86 [(.agg #[(sv t6),(sv t7),(sv t8),(sv t9),(sv t10),(sv t11)]),(.int .i64 t4)] (.one aB) fun (t12:Bool)=>
 cond t12
 (T.join [aB,aB]
 (deref s_0 fun a14=>
 T.load .slice a14 fun (t15:Slc)=>
 T.new (.cells #[(.int .i64 t4)] 3 (0,0)) fun r16=>
 T.call 140 [(.int .i64 ((t15.2.1:Nat):Int)),(.slice (some ⟨r16,0,none⟩) 1 1)] (.one aP) fun (t17:Option Addr)=>
 T.call 139 [(.pointer k_2),(.pointer t17)] (.one aB) fun (t18:Bool)=>
 cond t18
 (T.out [(.bool true),(.bool false)])
 (T.out [(.bool z2.2.2.1),(.bool false)])) fun (z13:Bool×Bool×Unit)=>
 T.ret (.tuple #[(.bool z13.1),(.bool z13.2.1)]))
 (T.join [aB]
 (deref s_0 fun a20=>
 T.load .slice (a20.add 7) fun (t21:Slc)=>
 T.call 160 [(.pointer s_0),(.int .i64 t4)] (.one aI) fun (t22:Int)=>
 T.still (a20.add 7) (sv t21) <|
 deref t21.1 fun a23=>
 chk (0≤t22∧t22< (t21.2.1:Nat)) <|
 T.load .pointer (a23.add (Int.toNat t22 * 1)) fun (t24:Option Addr)=>
 T.call 139 [(.pointer k_2),(.pointer t24)] (.one aB) fun (t25:Bool)=>
 cond t25
 (T.out [(.bool true)])
 (T.out [(.bool z2.2.2.1)])) fun (z19:Bool×Unit)=>
 deref s_0 fun a26=>
 T.load .slice (a26.add 6) fun (t27:Slc)=>
 T.call 160 [(.pointer s_0),(.int .i64 t4)] (.one aI) fun (t28:Int)=>
 T.still (a26.add 6) (sv t27) <|
 deref t27.1 fun a29=>
 chk (0≤t28∧t28< (t27.2.1:Nat)) <|
 T.load .bool (a29.add (Int.toNat t28 * 1)) fun (t30:Bool)=>
 cond (!t30)
 (T.ret (.tuple #[(.bool z19.1),(.bool false)]))
 (T.out [(.int .i64 (wN z2.1)),(.bool z2.2.1),(.bool z19.1)])))
 (T.brk 0 [(.int .i64 z2.1),(.bool z2.2.1),(.bool z2.2.2.1)])) fun (z1:Int×Bool×Bool×Unit)=>
 T.ret (.tuple #[(.bool z1.2.2.1),(.bool true)])
theorem HE (s_0:Option Addr) (seq_1_p:Option Addr) (seq_1_n seq_1_c:Nat) (k_2:Option Addr):Ab Tryz.prog Tryz.f161 [(.pointer s_0),(.slice seq_1_p seq_1_n seq_1_c),(.func (.func 139) #[(.pointer k_2)] #[])] =Ei s_0 seq_1_p seq_1_n seq_1_c k_2:=by kernel_rfl
noncomputable def NQ (p_0:Slc×Slc×Slc×Slc×Slc×Slc×Unit) (a_1:Option Addr):T:=
 T.new (.cells #[(sv p_0.1),(sv p_0.2.1),(sv p_0.2.2.1),(sv p_0.2.2.2.1),(sv p_0.2.2.2.2.1),(sv p_0.2.2.2.2.2.1)] 32 (0,0)) fun r1=>
 T.load .slice ⟨r1,0,none⟩ fun (t2:Slc)=>
 T.load .slice ⟨r1,1,none⟩ fun (t3:Slc)=>
 T.load .slice ⟨r1,2,none⟩ fun (t4:Slc)=>
 T.load .slice ⟨r1,3,none⟩ fun (t5:Slc)=>
 T.load .slice ⟨r1,4,none⟩ fun (t6:Slc)=>
 T.load .slice ⟨r1,5,none⟩ fun (t7:Slc)=>
 T.load .slice ⟨r1,0,none⟩ fun (t8:Slc)=>
 T.load .slice ⟨r1,1,none⟩ fun (t9:Slc)=>
 T.load .slice ⟨r1,2,none⟩ fun (t10:Slc)=>
 T.load .slice ⟨r1,3,none⟩ fun (t11:Slc)=>
 T.load .slice ⟨r1,4,none⟩ fun (t12:Slc)=>
 T.load .slice ⟨r1,5,none⟩ fun (t13:Slc)=>
 T.both
 (T.call 106 [(.agg #[(sv t8),(sv t9),(sv t10),(sv t11),(sv t12),(sv t13)])] (.one (.agg [.slice, .slice, .slice,(.int .i64)])) fun (t14:Slc×Slc×Slc×Int×Unit)=>
 T.still ⟨r1,0,none⟩ (sv t2) <|
 T.still ⟨r1,1,none⟩ (sv t3) <|
 T.still ⟨r1,2,none⟩ (sv t4) <|
 T.still ⟨r1,3,none⟩ (sv t5) <|
 T.still ⟨r1,4,none⟩ (sv t6) <|
 T.still ⟨r1,5,none⟩ (sv t7) <|
 T.both
 (T.new (.map #[] 0) fun r15=>
 T.still ⟨r1,0,none⟩ (sv t2) <|
 T.still ⟨r1,1,none⟩ (sv t3) <|
 T.still ⟨r1,2,none⟩ (sv t4) <|
 T.still ⟨r1,3,none⟩ (sv t5) <|
 T.still ⟨r1,4,none⟩ (sv t6) <|
 T.still ⟨r1,5,none⟩ (sv t7) <|
 T.new (.map #[] 0) fun r16=>
 T.still ⟨r1,0,none⟩ (sv t2) <|
 T.still ⟨r1,1,none⟩ (sv t3) <|
 T.still ⟨r1,2,none⟩ (sv t4) <|
 T.still ⟨r1,3,none⟩ (sv t5) <|
 T.still ⟨r1,4,none⟩ (sv t6) <|
 T.still ⟨r1,5,none⟩ (sv t7) <|
 T.new (.cells #[(sv t2),(sv t3),(sv t4),(sv t5),(sv t6),(sv t7),(.pointer a_1),(sv t14.1),(sv t14.2.1),(sv t14.2.2.1),(.int .i64 t14.2.2.2.1),(.slice none 0 0),(.map (some r15)),(.map (some r16))] 138 (0,0)) fun r17=>
 T.call 107 [(.pointer (some ⟨r17,0,none⟩)),(.func (.func 108) #[(.pointer (some ⟨r17,0,none⟩))] #[])] (.tuple []) fun (t18:Unit)=>
 T.call 109 [(.pointer (some ⟨r17,0,none⟩))] (.tuple [aS,aS]) fun (t19:Slc×Slc×Unit)=>
 T.call 112 [(.pointer (some ⟨r17,0,none⟩))] (.one aS) fun (t20:Slc)=>
 T.call 111 [(sv t19.2.1),(sv t19.1)] (.one aS) fun (t21:Slc)=>
 T.call 111 [(sv t20),(sv t21)] (.one aS) fun (t22:Slc)=>
 T.call 110 [(.pointer (some ⟨r17,0,none⟩)),(sv t22)] (.tuple []) fun (t23:Unit)=>
 T.ret (.pointer (some ⟨r17,0,none⟩)))
 (T.new (.map #[] 0) fun r24=>
 T.still ⟨r1,0,none⟩ (sv t2) <|
 T.still ⟨r1,1,none⟩ (sv t3) <|
 T.still ⟨r1,2,none⟩ (sv t4) <|
 T.still ⟨r1,3,none⟩ (sv t5) <|
 T.still ⟨r1,4,none⟩ (sv t6) <|
 T.still ⟨r1,5,none⟩ (sv t7) <|
 T.new (.map #[] 0) fun r25=>
 T.still ⟨r1,0,none⟩ (sv t2) <|
 T.still ⟨r1,1,none⟩ (sv t3) <|
 T.still ⟨r1,2,none⟩ (sv t4) <|
 T.still ⟨r1,3,none⟩ (sv t5) <|
 T.still ⟨r1,4,none⟩ (sv t6) <|
 T.still ⟨r1,5,none⟩ (sv t7) <|
 T.new (.cells #[(sv t2),(sv t3),(sv t4),(sv t5),(sv t6),(sv t7),(.pointer a_1),(sv t14.1),(sv t14.2.1),(sv t14.2.2.1),(.int .i64 t14.2.2.2.1),(.slice none 0 0),(.map (some r25)),(.map (some r24))] 138 (0,0)) fun r26=>
 T.call 107 [(.pointer (some ⟨r26,0,none⟩)),(.func (.func 108) #[(.pointer (some ⟨r26,0,none⟩))] #[])] (.tuple []) fun (t27:Unit)=>
 T.call 109 [(.pointer (some ⟨r26,0,none⟩))] (.tuple [aS,aS]) fun (t28:Slc×Slc×Unit)=>
 T.call 112 [(.pointer (some ⟨r26,0,none⟩))] (.one aS) fun (t29:Slc)=>
 T.call 111 [(sv t28.2.1),(sv t28.1)] (.one aS) fun (t30:Slc)=>
 T.call 111 [(sv t29),(sv t30)] (.one aS) fun (t31:Slc)=>
 T.call 110 [(.pointer (some ⟨r26,0,none⟩)),(sv t31)] (.tuple []) fun (t32:Unit)=>
 T.ret (.pointer (some ⟨r26,0,none⟩))))
 (T.both
 (T.new (.map #[] 0) fun r33=>
 T.still ⟨r1,0,none⟩ (sv t8) <|
 T.still ⟨r1,1,none⟩ (sv t9) <|
 T.still ⟨r1,2,none⟩ (sv t10) <|
 T.still ⟨r1,3,none⟩ (sv t11) <|
 T.still ⟨r1,4,none⟩ (sv t12) <|
 T.still ⟨r1,5,none⟩ (sv t13) <|
 T.still ⟨r1,0,none⟩ (sv t2) <|
 T.still ⟨r1,1,none⟩ (sv t3) <|
 T.still ⟨r1,2,none⟩ (sv t4) <|
 T.still ⟨r1,3,none⟩ (sv t5) <|
 T.still ⟨r1,4,none⟩ (sv t6) <|
 T.still ⟨r1,5,none⟩ (sv t7) <|
 T.both
 (T.call 106 [(.agg #[(sv t8),(sv t9),(sv t10),(sv t11),(sv t12),(sv t13)])] (.one (.agg [.slice, .slice, .slice,(.int .i64)])) fun (t34:Slc×Slc×Slc×Int×Unit)=>
 T.still ⟨r1,0,none⟩ (sv t2) <|
 T.still ⟨r1,1,none⟩ (sv t3) <|
 T.still ⟨r1,2,none⟩ (sv t4) <|
 T.still ⟨r1,3,none⟩ (sv t5) <|
 T.still ⟨r1,4,none⟩ (sv t6) <|
 T.still ⟨r1,5,none⟩ (sv t7) <|
 T.new (.map #[] 0) fun r35=>
 T.still ⟨r1,0,none⟩ (sv t2) <|
 T.still ⟨r1,1,none⟩ (sv t3) <|
 T.still ⟨r1,2,none⟩ (sv t4) <|
 T.still ⟨r1,3,none⟩ (sv t5) <|
 T.still ⟨r1,4,none⟩ (sv t6) <|
 T.still ⟨r1,5,none⟩ (sv t7) <|
 T.new (.cells #[(sv t2),(sv t3),(sv t4),(sv t5),(sv t6),(sv t7),(.pointer a_1),(sv t34.1),(sv t34.2.1),(sv t34.2.2.1),(.int .i64 t34.2.2.2.1),(.slice none 0 0),(.map (some r33)),(.map (some r35))] 138 (0,0)) fun r36=>
 T.call 107 [(.pointer (some ⟨r36,0,none⟩)),(.func (.func 108) #[(.pointer (some ⟨r36,0,none⟩))] #[])] (.tuple []) fun (t37:Unit)=>
 T.call 109 [(.pointer (some ⟨r36,0,none⟩))] (.tuple [aS,aS]) fun (t38:Slc×Slc×Unit)=>
 T.call 112 [(.pointer (some ⟨r36,0,none⟩))] (.one aS) fun (t39:Slc)=>
 T.call 111 [(sv t38.2.1),(sv t38.1)] (.one aS) fun (t40:Slc)=>
 T.call 111 [(sv t39),(sv t40)] (.one aS) fun (t41:Slc)=>
 T.call 110 [(.pointer (some ⟨r36,0,none⟩)),(sv t41)] (.tuple []) fun (t42:Unit)=>
 T.ret (.pointer (some ⟨r36,0,none⟩)))
 (T.new (.map #[] 0) fun r43=>
 T.still ⟨r1,0,none⟩ (sv t8) <|
 T.still ⟨r1,1,none⟩ (sv t9) <|
 T.still ⟨r1,2,none⟩ (sv t10) <|
 T.still ⟨r1,3,none⟩ (sv t11) <|
 T.still ⟨r1,4,none⟩ (sv t12) <|
 T.still ⟨r1,5,none⟩ (sv t13) <|
 T.still ⟨r1,0,none⟩ (sv t2) <|
 T.still ⟨r1,1,none⟩ (sv t3) <|
 T.still ⟨r1,2,none⟩ (sv t4) <|
 T.still ⟨r1,3,none⟩ (sv t5) <|
 T.still ⟨r1,4,none⟩ (sv t6) <|
 T.still ⟨r1,5,none⟩ (sv t7) <|
 T.call 106 [(.agg #[(sv t8),(sv t9),(sv t10),(sv t11),(sv t12),(sv t13)])] (.one (.agg [.slice, .slice, .slice,(.int .i64)])) fun (t44:Slc×Slc×Slc×Int×Unit)=>
 T.still ⟨r1,0,none⟩ (sv t2) <|
 T.still ⟨r1,1,none⟩ (sv t3) <|
 T.still ⟨r1,2,none⟩ (sv t4) <|
 T.still ⟨r1,3,none⟩ (sv t5) <|
 T.still ⟨r1,4,none⟩ (sv t6) <|
 T.still ⟨r1,5,none⟩ (sv t7) <|
 T.new (.cells #[(sv t2),(sv t3),(sv t4),(sv t5),(sv t6),(sv t7),(.pointer a_1),(sv t44.1),(sv t44.2.1),(sv t44.2.2.1),(.int .i64 t44.2.2.2.1),(.slice none 0 0),(.map (some r33)),(.map (some r43))] 138 (0,0)) fun r45=>
 T.call 107 [(.pointer (some ⟨r45,0,none⟩)),(.func (.func 108) #[(.pointer (some ⟨r45,0,none⟩))] #[])] (.tuple []) fun (t46:Unit)=>
 T.call 109 [(.pointer (some ⟨r45,0,none⟩))] (.tuple [aS,aS]) fun (t47:Slc×Slc×Unit)=>
 T.call 112 [(.pointer (some ⟨r45,0,none⟩))] (.one aS) fun (t48:Slc)=>
 T.call 111 [(sv t47.2.1),(sv t47.1)] (.one aS) fun (t49:Slc)=>
 T.call 111 [(sv t48),(sv t49)] (.one aS) fun (t50:Slc)=>
 T.call 110 [(.pointer (some ⟨r45,0,none⟩)),(sv t50)] (.tuple []) fun (t51:Unit)=>
 T.ret (.pointer (some ⟨r45,0,none⟩))))
 (T.new (.map #[] 0) fun r52=>
 T.still ⟨r1,0,none⟩ (sv t8) <|
 T.still ⟨r1,1,none⟩ (sv t9) <|
 T.still ⟨r1,2,none⟩ (sv t10) <|
 T.still ⟨r1,3,none⟩ (sv t11) <|
 T.still ⟨r1,4,none⟩ (sv t12) <|
 T.still ⟨r1,5,none⟩ (sv t13) <|
 T.still ⟨r1,0,none⟩ (sv t2) <|
 T.still ⟨r1,1,none⟩ (sv t3) <|
 T.still ⟨r1,2,none⟩ (sv t4) <|
 T.still ⟨r1,3,none⟩ (sv t5) <|
 T.still ⟨r1,4,none⟩ (sv t6) <|
 T.still ⟨r1,5,none⟩ (sv t7) <|
 T.both
 (T.call 106 [(.agg #[(sv t8),(sv t9),(sv t10),(sv t11),(sv t12),(sv t13)])] (.one (.agg [.slice, .slice, .slice,(.int .i64)])) fun (t53:Slc×Slc×Slc×Int×Unit)=>
 T.still ⟨r1,0,none⟩ (sv t2) <|
 T.still ⟨r1,1,none⟩ (sv t3) <|
 T.still ⟨r1,2,none⟩ (sv t4) <|
 T.still ⟨r1,3,none⟩ (sv t5) <|
 T.still ⟨r1,4,none⟩ (sv t6) <|
 T.still ⟨r1,5,none⟩ (sv t7) <|
 T.new (.map #[] 0) fun r54=>
 T.still ⟨r1,0,none⟩ (sv t2) <|
 T.still ⟨r1,1,none⟩ (sv t3) <|
 T.still ⟨r1,2,none⟩ (sv t4) <|
 T.still ⟨r1,3,none⟩ (sv t5) <|
 T.still ⟨r1,4,none⟩ (sv t6) <|
 T.still ⟨r1,5,none⟩ (sv t7) <|
 T.new (.cells #[(sv t2),(sv t3),(sv t4),(sv t5),(sv t6),(sv t7),(.pointer a_1),(sv t53.1),(sv t53.2.1),(sv t53.2.2.1),(.int .i64 t53.2.2.2.1),(.slice none 0 0),(.map (some r54)),(.map (some r52))] 138 (0,0)) fun r55=>
 T.call 107 [(.pointer (some ⟨r55,0,none⟩)),(.func (.func 108) #[(.pointer (some ⟨r55,0,none⟩))] #[])] (.tuple []) fun (t56:Unit)=>
 T.call 109 [(.pointer (some ⟨r55,0,none⟩))] (.tuple [aS,aS]) fun (t57:Slc×Slc×Unit)=>
 T.call 112 [(.pointer (some ⟨r55,0,none⟩))] (.one aS) fun (t58:Slc)=>
 T.call 111 [(sv t57.2.1),(sv t57.1)] (.one aS) fun (t59:Slc)=>
 T.call 111 [(sv t58),(sv t59)] (.one aS) fun (t60:Slc)=>
 T.call 110 [(.pointer (some ⟨r55,0,none⟩)),(sv t60)] (.tuple []) fun (t61:Unit)=>
 T.ret (.pointer (some ⟨r55,0,none⟩)))
 (T.new (.map #[] 0) fun r62=>
 T.still ⟨r1,0,none⟩ (sv t8) <|
 T.still ⟨r1,1,none⟩ (sv t9) <|
 T.still ⟨r1,2,none⟩ (sv t10) <|
 T.still ⟨r1,3,none⟩ (sv t11) <|
 T.still ⟨r1,4,none⟩ (sv t12) <|
 T.still ⟨r1,5,none⟩ (sv t13) <|
 T.still ⟨r1,0,none⟩ (sv t2) <|
 T.still ⟨r1,1,none⟩ (sv t3) <|
 T.still ⟨r1,2,none⟩ (sv t4) <|
 T.still ⟨r1,3,none⟩ (sv t5) <|
 T.still ⟨r1,4,none⟩ (sv t6) <|
 T.still ⟨r1,5,none⟩ (sv t7) <|
 T.call 106 [(.agg #[(sv t8),(sv t9),(sv t10),(sv t11),(sv t12),(sv t13)])] (.one (.agg [.slice, .slice, .slice,(.int .i64)])) fun (t63:Slc×Slc×Slc×Int×Unit)=>
 T.still ⟨r1,0,none⟩ (sv t2) <|
 T.still ⟨r1,1,none⟩ (sv t3) <|
 T.still ⟨r1,2,none⟩ (sv t4) <|
 T.still ⟨r1,3,none⟩ (sv t5) <|
 T.still ⟨r1,4,none⟩ (sv t6) <|
 T.still ⟨r1,5,none⟩ (sv t7) <|
 T.new (.cells #[(sv t2),(sv t3),(sv t4),(sv t5),(sv t6),(sv t7),(.pointer a_1),(sv t63.1),(sv t63.2.1),(sv t63.2.2.1),(.int .i64 t63.2.2.2.1),(.slice none 0 0),(.map (some r62)),(.map (some r52))] 138 (0,0)) fun r64=>
 T.call 107 [(.pointer (some ⟨r64,0,none⟩)),(.func (.func 108) #[(.pointer (some ⟨r64,0,none⟩))] #[])] (.tuple []) fun (t65:Unit)=>
 T.call 109 [(.pointer (some ⟨r64,0,none⟩))] (.tuple [aS,aS]) fun (t66:Slc×Slc×Unit)=>
 T.call 112 [(.pointer (some ⟨r64,0,none⟩))] (.one aS) fun (t67:Slc)=>
 T.call 111 [(sv t66.2.1),(sv t66.1)] (.one aS) fun (t68:Slc)=>
 T.call 111 [(sv t67),(sv t68)] (.one aS) fun (t69:Slc)=>
 T.call 110 [(.pointer (some ⟨r64,0,none⟩)),(sv t69)] (.tuple []) fun (t70:Unit)=>
 T.ret (.pointer (some ⟨r64,0,none⟩)))))
theorem PF (p_0:Slc×Slc×Slc×Slc×Slc×Slc×Unit) (a_1:Option Addr):Ab Tryz.prog Tryz.f69 [(.agg #[(sv p_0.1),(sv p_0.2.1),(sv p_0.2.2.1),(sv p_0.2.2.2.1),(sv p_0.2.2.2.2.1),(sv p_0.2.2.2.2.2.1)]),(.pointer a_1)] =NQ p_0 a_1:=by kernel_rfl
noncomputable def GG (l_0:Option Addr) (k_1:Option Addr):T:=
 deref l_0 fun a1=>
 T.load .pointer (a1.add 6) fun (t2:Option Addr)=>
 T.call 20 [(.pointer t2)] (.one aI) fun (t3:Int)=>
 T.block 0 [aI]
 (T.loop [aI] [(.int .i64 (0:Int))] fun (z5:Int×Unit)=>
 cond (decide (z5.1<t3))
 (deref l_0 fun a6=>
 T.load .pointer (a6.add 6) fun (t7:Option Addr)=>
 T.call 34 [(.pointer t7),(.int .i64 z5.1)] (.one aS) fun (t8:Slc)=>
 T.block 2 [aI]
 (T.loop [aI] [(.int .i64 (0:Int))] fun (z10:Int×Unit)=>
 cond (decide (z10.1< ((t8.2.1:Nat):Int)))
 (deref t8.1 fun a11=>
 chk (0≤z10.1∧z10.1< (t8.2.1:Nat)) <|
 T.load (.int .i64) (a11.add (Int.toNat z10.1 * 2)) fun (t12:Int)=>
 T.load (.int .i64) ((a11.add (Int.toNat z10.1 * 2)).add 1) fun (t13:Int)=>
 T.new (.cells #[(.int .i64 (0:Int)),(.int .i64 (0:Int))] 73 (0,0)) fun r14=>
 T.store ⟨r14,0,none⟩ (.int .i64 t12) <|
 T.store ⟨r14,1,none⟩ (.int .i64 t13) <|
 deref l_0 fun a15=>
 T.load .slice a15 fun (t16:Slc)=>
 T.load .slice (a15.add 1) fun (t17:Slc)=>
 T.load .slice (a15.add 2) fun (t18:Slc)=>
 T.load .slice (a15.add 3) fun (t19:Slc)=>
 T.load .slice (a15.add 4) fun (t20:Slc)=>
 T.load .slice (a15.add 5) fun (t21:Slc)=>
 T.load (.int .i64) ⟨r14,0,none⟩ fun (t22:Int)=>
 T.call 86 [(.agg #[(sv t16),(sv t17),(sv t18),(sv t19),(sv t20),(sv t21)]),(.int .i64 t22)] (.one aB) fun (t23:Bool)=>
 T.join []
 (cond (!t23)
 (T.load (.int .i64) ⟨r14,0,none⟩ fun (t25:Int)=>
 T.load (.int .i64) ⟨r14,1,none⟩ fun (t26:Int)=>
 T.call 108 [(.pointer k_1),(.agg #[(.int .i64 z5.1),(.int .i64 t25)]),(.int .i64 t26)] (.tuple []) fun (t27:Unit)=>
 T.out [])
 (T.out [])) fun (z24:Unit)=>
 T.out [(.int .i64 (wN z10.1))])
 (T.brk 2 [(.int .i64 z10.1)])) fun (z9:Int×Unit)=>
 T.out [(.int .i64 (wN z5.1))])
 (T.brk 0 [(.int .i64 z5.1)])) fun (z4:Int×Unit)=>
 T.ret (.tuple #[])
theorem I0 (l_0:Option Addr) (k_1:Option Addr):Ab Tryz.prog Tryz.f107 [(.pointer l_0),(.func (.func 108) #[(.pointer k_1)] #[])] =GG l_0 k_1:=by kernel_rfl
noncomputable def GI (l_0:Option Addr) (k_1_0:Nat) (k_1_1:Nat) (k_1_2:Nat):T:=
 deref l_0 fun a1=>
 T.load .pointer (a1.add 6) fun (t2:Option Addr)=>
 T.call 20 [(.pointer t2)] (.one aI) fun (t3:Int)=>
 T.block 0 [aI]
 (T.loop [aI] [(.int .i64 (0:Int))] fun (z5:Int×Unit)=>
 cond (decide (z5.1<t3))
 (deref l_0 fun a6=>
 T.load .pointer (a6.add 6) fun (t7:Option Addr)=>
 T.call 34 [(.pointer t7),(.int .i64 z5.1)] (.one aS) fun (t8:Slc)=>
 T.block 2 [aI]
 (T.loop [aI] [(.int .i64 (0:Int))] fun (z10:Int×Unit)=>
 cond (decide (z10.1< ((t8.2.1:Nat):Int)))
 (deref t8.1 fun a11=>
 chk (0≤z10.1∧z10.1< (t8.2.1:Nat)) <|
 T.load (.int .i64) (a11.add (Int.toNat z10.1 * 2)) fun (t12:Int)=>
 T.load (.int .i64) ((a11.add (Int.toNat z10.1 * 2)).add 1) fun (t13:Int)=>
 T.new (.cells #[(.int .i64 (0:Int)),(.int .i64 (0:Int))] 73 (0,0)) fun r14=>
 T.store ⟨r14,0,none⟩ (.int .i64 t12) <|
 T.store ⟨r14,1,none⟩ (.int .i64 t13) <|
 deref l_0 fun a15=>
 T.load .slice a15 fun (t16:Slc)=>
 T.load .slice (a15.add 1) fun (t17:Slc)=>
 T.load .slice (a15.add 2) fun (t18:Slc)=>
 T.load .slice (a15.add 3) fun (t19:Slc)=>
 T.load .slice (a15.add 4) fun (t20:Slc)=>
 T.load .slice (a15.add 5) fun (t21:Slc)=>
 T.load (.int .i64) ⟨r14,0,none⟩ fun (t22:Int)=>
 T.call 86 [(.agg #[(sv t16),(sv t17),(sv t18),(sv t19),(sv t20),(sv t21)]),(.int .i64 t22)] (.one aB) fun (t23:Bool)=>
 T.join []
 (cond (!t23)
 (T.load (.int .i64) ⟨r14,0,none⟩ fun (t25:Int)=>
 T.load (.int .i64) ⟨r14,1,none⟩ fun (t26:Int)=>
 T.call 137 [(.agg #[(.int .i64 z5.1),(.int .i64 t25)]),(.int .i64 t26),(.pointer (some ⟨k_1_0,0,none⟩)),(.pointer (some ⟨k_1_1,0,none⟩)),(.pointer (some ⟨k_1_2,0,none⟩))] (.tuple []) fun (t27:Unit)=>
 T.out [])
 (T.out [])) fun (z24:Unit)=>
 T.out [(.int .i64 (wN z10.1))])
 (T.brk 2 [(.int .i64 z10.1)])) fun (z9:Int×Unit)=>
 T.out [(.int .i64 (wN z5.1))])
 (T.brk 0 [(.int .i64 z5.1)])) fun (z4:Int×Unit)=>
 T.ret (.tuple #[])
theorem I1 (l_0:Option Addr) (k_1_0:Nat) (k_1_1:Nat) (k_1_2:Nat):Ab Tryz.prog Tryz.f107 [(.pointer l_0),(.func (.func 137) #[] #[(.pointer (some ⟨k_1_0,0,none⟩)),(.pointer (some ⟨k_1_1,0,none⟩)),(.pointer (some ⟨k_1_2,0,none⟩))])] =GI l_0 k_1_0 k_1_1 k_1_2:=by kernel_rfl
noncomputable def EA (l_0:Option Addr) (s_1:Int×Int×Unit) (to_2:Int):T:=
 T.new (.cells #[(.int .i64 s_1.1),(.int .i64 s_1.2.1)] 224 (0,0)) fun r1=>
 deref l_0 fun a2=>
 T.load .map (a2.add 12) fun (t3:Option Nat)=>
 T.load (.int .i64) ⟨r1,0,none⟩ fun (t4:Int)=>
 T.load (.int .i64) ⟨r1,1,none⟩ fun (t5:Int)=>
 deref l_0 fun a6=>
 T.load .slice (a6.add 11) fun (t7:Slc)=>
 T.sem (Sem.bind (Instr.mapUpdate 135 (.map t3) (.agg #[(.int .i64 t4),(.int .i64 t5)]) (.int .i64 ((t7.2.1:Nat):Int))) fun _=> .pure undef) (.tuple []) fun (u8:Unit)=>
 deref l_0 fun a9=>
 T.load .slice (a9.add 11) fun (t10:Slc)=>
 T.load (.int .i64) ⟨r1,0,none⟩ fun (t11:Int)=>
 T.load (.int .i64) ⟨r1,1,none⟩ fun (t12:Int)=>
 T.new (.cells #[(.int .i64 t11),(.int .i64 t12)] 224 (0,0)) fun r13=>
 T.still (a9.add 11) (sv t10) <|
 T.sem (Builtin.append_ #[134,134] 134 #[(sv t10),(.slice (some ⟨r13,0,none⟩) 1 1)]) (.one aS) fun (t14:Slc)=>
 deref l_0 fun a15=>
 T.store (a15.add 11) (sv t14) <|
 T.ret (.tuple #[])
theorem I2 (l_0:Option Addr) (s_1:Int×Int×Unit) (to_2:Int):Ab Tryz.prog Tryz.f108 [(.pointer l_0),(.agg #[(.int .i64 s_1.1),(.int .i64 s_1.2.1)]),(.int .i64 to_2)] =EA l_0 s_1 to_2:=by kernel_rfl
noncomputable def GJ (l_0:Option Addr):T:=
 T.new (.cells #[(.pointer l_0)] 42 (0,0)) fun r1=>
 T.new (.cells #[(.slice none 0 0)] 195 (0,0)) fun r2=>
 T.new (.cells #[(.slice none 0 0)] 97 (0,0)) fun r3=>
 T.load .pointer ⟨r1,0,none⟩ fun (t4:Option Addr)=>
 T.call 107 [(.pointer t4),(.func (.func 137) #[] #[(.pointer (some ⟨r1,0,none⟩)),(.pointer (some ⟨r2,0,none⟩)),(.pointer (some ⟨r3,0,none⟩))])] (.tuple []) fun (t5:Unit)=>
 T.load .slice ⟨r2,0,none⟩ fun (t6:Slc)=>
 T.load .slice ⟨r3,0,none⟩ fun (t7:Slc)=>
 T.ret (.tuple #[(sv t6),(sv t7)])
theorem I3 (l_0:Option Addr):Ab Tryz.prog Tryz.f109 [(.pointer l_0)] =GJ l_0:=by kernel_rfl
noncomputable def DZ (s_0:Int×Int×Unit) (to_1:Int) (c_2:Nat) (c_3:Nat) (c_4:Nat):T:=
 T.new (.cells #[(.int .i64 s_0.1),(.int .i64 s_0.2.1)] 224 (0,0)) fun r1=>
 T.load .pointer ⟨c_2,0,none⟩ fun (t2:Option Addr)=>
 deref t2 fun a3=>
 T.load .slice a3 fun (t4:Slc)=>
 T.call 138 [(.int .i64 ((t4.2.1:Nat):Int))] (.one aP) fun (t5:Option Addr)=>
 T.load .pointer ⟨c_2,0,none⟩ fun (t6:Option Addr)=>
 T.call 71 [(.pointer t6),(.int .i64 to_1),(.int .i64 (0:Int))] (.one aB) fun (t7:Bool)=>
 T.join []
 (cond t7
 (T.call 134 [(.pointer t5),(.int .i64 (0:Int))] (.one aB) fun (t9:Bool)=>
 T.out [])
 (T.out [])) fun (z8:Unit)=>
 T.load .pointer ⟨c_2,0,none⟩ fun (t10:Option Addr)=>
 deref t10 fun a11=>
 T.load .pointer (a11.add 6) fun (t12:Option Addr)=>
 T.call 34 [(.pointer t12),(.int .i64 to_1)] (.one aS) fun (t13:Slc)=>
 T.block 0 [aI,aS]
 (T.loop [aI,aS] [(.int .i64 (0:Int)),(.slice none 0 0)] fun (z15:Int×Slc×Unit)=>
 cond (decide (z15.1< ((t13.2.1:Nat):Int)))
 (deref t13.1 fun a16=>
 chk (0≤z15.1∧z15.1< (t13.2.1:Nat)) <|
 T.load (.int .i64) (a16.add (Int.toNat z15.1 * 2)) fun (t17:Int)=>
 T.load (.int .i64) ((a16.add (Int.toNat z15.1 * 2)).add 1) fun (t18:Int)=>
 T.new (.cells #[(.int .i64 (0:Int)),(.int .i64 (0:Int))] 73 (0,0)) fun r19=>
 T.store ⟨r19,0,none⟩ (.int .i64 t17) <|
 T.store ⟨r19,1,none⟩ (.int .i64 t18) <|
 T.load .pointer ⟨c_2,0,none⟩ fun (t20:Option Addr)=>
 deref t20 fun a21=>
 T.load .slice a21 fun (t22:Slc)=>
 T.load .slice (a21.add 1) fun (t23:Slc)=>
 T.load .slice (a21.add 2) fun (t24:Slc)=>
 T.load .slice (a21.add 3) fun (t25:Slc)=>
 T.load .slice (a21.add 4) fun (t26:Slc)=>
 T.load .slice (a21.add 5) fun (t27:Slc)=>
 T.load (.int .i64) ⟨r19,0,none⟩ fun (t28:Int)=>
 T.call 86 [(.agg #[(sv t22),(sv t23),(sv t24),(sv t25),(sv t26),(sv t27)]),(.int .i64 t28)] (.one aB) fun (t29:Bool)=>
 T.join [aS]
 (cond t29
 (T.load (.int .i64) ⟨r19,0,none⟩ fun (t31:Int)=>
 T.call 134 [(.pointer t5),(.int .i64 t31)] (.one aB) fun (t32:Bool)=>
 T.out [(sv z15.2.1)])
 (T.load .pointer ⟨c_2,0,none⟩ fun (t33:Option Addr)=>
 deref t33 fun a34=>
 T.load .slice (a34.add 7) fun (t35:Slc)=>
 T.load (.int .i64) ⟨r19,0,none⟩ fun (t36:Int)=>
 T.load .pointer ⟨c_2,0,none⟩ fun (t37:Option Addr)=>
 deref t37 fun a38=>
 T.load .slice a38 fun (t39:Slc)=>
 deref t35.1 fun a40=>
 chk (0≤(IntKind.wrap .i64 (t36 - ((t39.2.1:Nat):Int)))∧(IntKind.wrap .i64 (t36 - ((t39.2.1:Nat):Int))) < (t35.2.1:Nat)) <|
 T.load .bool (a40.add (Int.toNat (IntKind.wrap .i64 (t36 - ((t39.2.1:Nat):Int))) * 1)) fun (t41:Bool)=>
 T.join [aS]
 (cond t41
 (T.load .pointer ⟨c_2,0,none⟩ fun (t43:Option Addr)=>
 deref t43 fun a44=>
 T.load .map (a44.add 12) fun (t45:Option Nat)=>
 T.load (.int .i64) ⟨r19,0,none⟩ fun (t46:Int)=>
 T.sem (Instr.lookup 135 (.map t45) (.agg #[(.int .i64 to_1),(.int .i64 t46)]) false) (.one aI) fun (t47:Int)=>
 T.new (.cells #[(.int .i64 t47)] 3 (0,0)) fun r48=>
 T.sem (Builtin.append_ #[30,30] 30 #[(sv z15.2.1),(.slice (some ⟨r48,0,none⟩) 1 1)]) (.one aS) fun (t49:Slc)=>
 T.out [(sv t49)])
 (T.out [(sv z15.2.1)])) fun (z42:Slc×Unit)=>
 T.out [(sv z42.1)])) fun (z30:Slc×Unit)=>
 T.out [(.int .i64 (wN z15.1)),(sv z30.1)])
 (T.brk 0 [(.int .i64 z15.1),(sv z15.2.1)])) fun (z14:Int×Slc×Unit)=>
 T.load .slice ⟨c_3,0,none⟩ fun (t50:Slc)=>
 T.load .slice ⟨c_4,0,none⟩ fun (t51:Slc)=>
 T.both
 (T.new (.cells #[(.pointer t5)] 139 (0,0)) fun r52=>
 T.still ⟨c_4,0,none⟩ (sv t51) <|
 T.still ⟨c_3,0,none⟩ (sv t50) <|
 T.both
 (T.sem (Builtin.append_ #[195,195] 195 #[(sv t50),(.slice (some ⟨r52,0,none⟩) 1 1)]) (.one aS) fun (t53:Slc)=>
 T.still ⟨c_4,0,none⟩ (sv t51) <|
 T.new (.cells #[(sv z14.2.1)] 30 (0,0)) fun r54=>
 T.still ⟨c_4,0,none⟩ (sv t51) <|
 T.sem (Builtin.append_ #[97,97] 97 #[(sv t51),(.slice (some ⟨r54,0,none⟩) 1 1)]) (.one aS) fun (t55:Slc)=>
 T.store ⟨c_3,0,none⟩ (sv t53) <|
 T.store ⟨c_4,0,none⟩ (sv t55) <|
 T.ret (.tuple #[]))
 (T.new (.cells #[(sv z14.2.1)] 30 (0,0)) fun r56=>
 T.still ⟨c_4,0,none⟩ (sv t51) <|
 T.still ⟨c_3,0,none⟩ (sv t50) <|
 T.sem (Builtin.append_ #[195,195] 195 #[(sv t50),(.slice (some ⟨r52,0,none⟩) 1 1)]) (.one aS) fun (t57:Slc)=>
 T.still ⟨c_4,0,none⟩ (sv t51) <|
 T.sem (Builtin.append_ #[97,97] 97 #[(sv t51),(.slice (some ⟨r56,0,none⟩) 1 1)]) (.one aS) fun (t58:Slc)=>
 T.store ⟨c_3,0,none⟩ (sv t57) <|
 T.store ⟨c_4,0,none⟩ (sv t58) <|
 T.ret (.tuple #[])))
 (T.new (.cells #[(sv z14.2.1)] 30 (0,0)) fun r59=>
 T.still ⟨c_4,0,none⟩ (sv t51) <|
 T.still ⟨c_3,0,none⟩ (sv t50) <|
 T.new (.cells #[(.pointer t5)] 139 (0,0)) fun r60=>
 T.still ⟨c_4,0,none⟩ (sv t51) <|
 T.still ⟨c_3,0,none⟩ (sv t50) <|
 T.sem (Builtin.append_ #[195,195] 195 #[(sv t50),(.slice (some ⟨r60,0,none⟩) 1 1)]) (.one aS) fun (t61:Slc)=>
 T.still ⟨c_4,0,none⟩ (sv t51) <|
 T.sem (Builtin.append_ #[97,97] 97 #[(sv t51),(.slice (some ⟨r59,0,none⟩) 1 1)]) (.one aS) fun (t62:Slc)=>
 T.store ⟨c_3,0,none⟩ (sv t61) <|
 T.store ⟨c_4,0,none⟩ (sv t62) <|
 T.ret (.tuple #[]))
theorem Hg (s_0:Int×Int×Unit) (to_1:Int) (c_2:Nat) (c_3:Nat) (c_4:Nat):Ab Tryz.prog Tryz.f137 [(.agg #[(.int .i64 s_0.1),(.int .i64 s_0.2.1)]),(.int .i64 to_1),(.pointer (some ⟨c_2,0,none⟩)),(.pointer (some ⟨c_3,0,none⟩)),(.pointer (some ⟨c_4,0,none⟩))] =DZ s_0 to_1 c_2 c_3 c_4:=by kernel_rfl
noncomputable def Ej (l_0:Option Addr):T:=
 deref l_0 fun a1=>
 T.load .slice (a1.add 11) fun (t2:Slc)=>
 T.sem (Instr.makeSlice 97 (.int .i64 ((t2.2.1:Nat):Int)) (.int .i64 ((t2.2.1:Nat):Int))) (.one aS) fun (t3:Slc)=>
 deref l_0 fun a4=>
 T.load .slice (a4.add 11) fun (t5:Slc)=>
 T.block 0 [aI]
 (T.loop [aI] [(.int .i64 (0:Int))] fun (z7:Int×Unit)=>
 cond (decide (z7.1< ((t5.2.1:Nat):Int)))
 (deref t5.1 fun a8=>
 chk (0≤z7.1∧z7.1< (t5.2.1:Nat)) <|
 T.load (.int .i64) (a8.add (Int.toNat z7.1 * 2)) fun (t9:Int)=>
 T.load (.int .i64) ((a8.add (Int.toNat z7.1 * 2)).add 1) fun (t10:Int)=>
 T.new (.cells #[(.int .i64 (0:Int)),(.int .i64 (0:Int))] 224 (0,0)) fun r11=>
 T.store ⟨r11,0,none⟩ (.int .i64 t9) <|
 T.store ⟨r11,1,none⟩ (.int .i64 t10) <|
 deref l_0 fun a12=>
 T.load .slice (a12.add 2) fun (t13:Slc)=>
 T.block 2 [aI]
 (T.loop [aI] [(.int .i64 (0:Int))] fun (z15:Int×Unit)=>
 cond (decide (z15.1< ((t13.2.1:Nat):Int)))
 (T.block 3 []
 (deref t13.1 fun a17=>
 chk (0≤z15.1∧z15.1< (t13.2.1:Nat)) <|
 T.load (.int .i64) (a17.add (Int.toNat z15.1 * 3)) fun (t18:Int)=>
 T.load .slice ((a17.add (Int.toNat z15.1 * 3)).add 1) fun (t19:Slc)=>
 T.load (.int .i64) ((a17.add (Int.toNat z15.1 * 3)).add 2) fun (t20:Int)=>
 T.new (.cells #[(.int .i64 (0:Int)),(.slice none 0 0),(.int .i64 (0:Int))] 65 (0,0)) fun r21=>
 T.store ⟨r21,0,none⟩ (.int .i64 t18) <|
 T.store ⟨r21,1,none⟩ (sv t19) <|
 T.store ⟨r21,2,none⟩ (.int .i64 t20) <|
 T.load (.int .i64) ⟨r21,0,none⟩ fun (t22:Int)=>
 T.load (.int .i64) ⟨r11,1,none⟩ fun (t23:Int)=>
 cond (t22 !=t23)
 (T.brk 3 [])
 (T.load (.int .i64) ⟨r11,0,none⟩ fun (t24:Int)=>
 T.load .slice ⟨r21,1,none⟩ fun (t25:Slc)=>
 T.block 4 [aI,aI]
 (T.loop [aI,aI] [(.int .i64 (0:Int)),(.int .i64 t24)] fun (z27:Int×Int×Unit)=>
 cond (decide (z27.1< ((t25.2.1:Nat):Int)))
 (deref t25.1 fun a28=>
 chk (0≤z27.1∧z27.1< (t25.2.1:Nat)) <|
 T.load (.int .i64) (a28.add (Int.toNat z27.1 * 1)) fun (t29:Int)=>
 deref l_0 fun a30=>
 T.load .slice (a30.add 7) fun (t31:Slc)=>
 T.load .slice ((a30.add 7).add 1) fun (t32:Slc)=>
 T.load .slice ((a30.add 7).add 2) fun (t33:Slc)=>
 T.load (.int .i64) ((a30.add 7).add 3) fun (t34:Int)=>
 deref l_0 fun a35=>
 T.load .slice a35 fun (t36:Slc)=>
 T.load .slice (a35.add 1) fun (t37:Slc)=>
 T.load .slice (a35.add 2) fun (t38:Slc)=>
 T.load .slice (a35.add 3) fun (t39:Slc)=>
 T.load .slice (a35.add 4) fun (t40:Slc)=>
 T.load .slice (a35.add 5) fun (t41:Slc)=>
 T.load .slice ⟨r21,1,none⟩ fun (t42:Slc)=>
 chk (0≤(wN z27.1)∧(wN z27.1) ≤((t42.2.1:Nat):Int)∧((t42.2.1:Nat):Int) ≤(t42.2.2:Nat)) <|
 T.call 146 [(.agg #[(sv t31),(sv t32),(sv t33),(.int .i64 t34)]),(.agg #[(sv t36),(sv t37),(sv t38),(sv t39),(sv t40),(sv t41)]),(.slice (if t42.2.2=Int.toNat (wN z27.1) then t42.1 else Option.map (fun x=>Addr.add x (Int.toNat (wN z27.1) * 1)) t42.1) (Int.toNat ((t42.2.1:Nat):Int) - Int.toNat (wN z27.1)) (t42.2.2 - Int.toNat (wN z27.1)))] (.tuple [aS,aB]) fun (t43:Slc×Bool×Unit)=>
 T.join [aB]
 (cond t43.2.1
 (deref l_0 fun a45=>
 T.load .slice a45 fun (t46:Slc)=>
 T.load .slice (a45.add 1) fun (t47:Slc)=>
 T.load .slice (a45.add 2) fun (t48:Slc)=>
 T.load .slice (a45.add 3) fun (t49:Slc)=>
 T.load .slice (a45.add 4) fun (t50:Slc)=>
 T.load .slice (a45.add 5) fun (t51:Slc)=>
 T.call 86 [(.agg #[(sv t46),(sv t47),(sv t48),(sv t49),(sv t50),(sv t51)]),(.int .i64 t29)] (.one aB) fun (t52:Bool)=>
 T.out [(.bool (!t52))])
 (T.out [(.bool false)])) fun (z44:Bool×Unit)=>
 T.join []
 (cond z44.1
 (deref l_0 fun a54=>
 T.load .map (a54.add 12) fun (t55:Option Nat)=>
 T.sem (Instr.lookup 135 (.map t55) (.agg #[(.int .i64 z27.2.1),(.int .i64 t29)]) false) (.one aI) fun (t56:Int)=>
 deref t3.1 fun a57=>
 chk (0≤t56∧t56< (t3.2.1:Nat)) <|
 T.load .slice (a57.add (Int.toNat t56 * 1)) fun (t58:Slc)=>
 T.new (.cells #[(.int .i64 z7.1)] 3 (0,0)) fun r59=>
 T.sem (Builtin.append_ #[30,30] 30 #[(sv t58),(.slice (some ⟨r59,0,none⟩) 1 1)]) (.one aS) fun (t60:Slc)=>
 deref t3.1 fun a61=>
 chk (0≤t56∧t56< (t3.2.1:Nat)) <|
 T.store (a61.add (Int.toNat t56 * 1)) (sv t60) <|
 T.out [])
 (T.out [])) fun (z53:Unit)=>
 deref l_0 fun a62=>
 T.load .pointer (a62.add 6) fun (t63:Option Addr)=>
 T.call 41 [(.pointer t63),(.int .i64 z27.2.1),(.int .i64 t29)] (.one aI) fun (t64:Int)=>
 T.out [(.int .i64 (wN z27.1)),(.int .i64 t64)])
 (T.brk 4 [(.int .i64 z27.1),(.int .i64 z27.2.1)])) fun (z26:Int×Int×Unit)=>
 T.out [])) fun (z16:Unit)=>
 T.out [(.int .i64 (wN z15.1))])
 (T.brk 2 [(.int .i64 z15.1)])) fun (z14:Int×Unit)=>
 T.out [(.int .i64 (wN z7.1))])
 (T.brk 0 [(.int .i64 z7.1)])) fun (z6:Int×Unit)=>
 T.ret (sv t3)
theorem HF (l_0:Option Addr):Ab Tryz.prog Tryz.f112 [(.pointer l_0)] =Ej l_0:=by kernel_rfl
noncomputable def Gg (l_0:Option Addr) (follow_1_p:Option Addr) (follow_1_n follow_1_c:Nat):T:=
 deref l_0 fun a1=>
 T.load .slice (a1.add 11) fun (t2:Slc)=>
 T.block 0 [aI]
 (T.loop [aI] [(.int .i64 (0:Int))] fun (z4:Int×Unit)=>
 cond (decide (z4.1< ((t2.2.1:Nat):Int)))
 (deref t2.1 fun a5=>
 chk (0≤z4.1∧z4.1< (t2.2.1:Nat)) <|
 T.load (.int .i64) (a5.add (Int.toNat z4.1 * 2)) fun (t6:Int)=>
 T.load (.int .i64) ((a5.add (Int.toNat z4.1 * 2)).add 1) fun (t7:Int)=>
 T.new (.cells #[(.int .i64 (0:Int)),(.int .i64 (0:Int))] 224 (0,0)) fun r8=>
 T.store ⟨r8,0,none⟩ (.int .i64 t6) <|
 T.store ⟨r8,1,none⟩ (.int .i64 t7) <|
 deref l_0 fun a9=>
 T.load .slice (a9.add 2) fun (t10:Slc)=>
 T.block 2 [aI]
 (T.loop [aI] [(.int .i64 (0:Int))] fun (z12:Int×Unit)=>
 cond (decide (z12.1< ((t10.2.1:Nat):Int)))
 (T.block 3 []
 (deref t10.1 fun a14=>
 chk (0≤z12.1∧z12.1< (t10.2.1:Nat)) <|
 T.load (.int .i64) (a14.add (Int.toNat z12.1 * 3)) fun (t15:Int)=>
 T.load .slice ((a14.add (Int.toNat z12.1 * 3)).add 1) fun (t16:Slc)=>
 T.load (.int .i64) ((a14.add (Int.toNat z12.1 * 3)).add 2) fun (t17:Int)=>
 T.new (.cells #[(.int .i64 (0:Int)),(.slice none 0 0),(.int .i64 (0:Int))] 65 (0,0)) fun r18=>
 T.store ⟨r18,0,none⟩ (.int .i64 t15) <|
 T.store ⟨r18,1,none⟩ (sv t16) <|
 T.store ⟨r18,2,none⟩ (.int .i64 t17) <|
 T.load (.int .i64) ⟨r18,0,none⟩ fun (t19:Int)=>
 T.load (.int .i64) ⟨r8,1,none⟩ fun (t20:Int)=>
 cond (t19 !=t20)
 (T.brk 3 [])
 (deref l_0 fun a21=>
 T.load .pointer (a21.add 6) fun (t22:Option Addr)=>
 T.load (.int .i64) ⟨r8,0,none⟩ fun (t23:Int)=>
 T.load .slice ⟨r18,1,none⟩ fun (t24:Slc)=>
 T.both
 (T.call 72 [(.pointer t22),(.int .i64 t23),(sv t24)] (.one aI) fun (t25:Int)=>
 T.new (.cells #[(.int .i64 (0:Int)),(.int .i64 (0:Int))] 141 (0,0)) fun r26=>
 T.store ⟨r26,0,none⟩ (.int .i64 t25) <|
 T.store ⟨r26,1,none⟩ (.int .i64 z12.1) <|
 deref l_0 fun a27=>
 T.load .map (a27.add 13) fun (t28:Option Nat)=>
 T.load (.int .i64) ⟨r26,0,none⟩ fun (t29:Int)=>
 T.load (.int .i64) ⟨r26,1,none⟩ fun (t30:Int)=>
 T.sem (Instr.lookup 136 (.map t28) (.agg #[(.int .i64 t29),(.int .i64 t30)]) false) (.one aP) fun (t31:Option Addr)=>
 T.join []
 (cond (Option.isNone t31)
 (deref l_0 fun a33=>
 T.load .map (a33.add 13) fun (t34:Option Nat)=>
 T.load (.int .i64) ⟨r26,0,none⟩ fun (t35:Int)=>
 T.load (.int .i64) ⟨r26,1,none⟩ fun (t36:Int)=>
 deref l_0 fun a37=>
 T.load .slice a37 fun (t38:Slc)=>
 T.call 138 [(.int .i64 ((t38.2.1:Nat):Int))] (.one aP) fun (t39:Option Addr)=>
 T.still ⟨r26,0,none⟩ (.int .i64 t35) <|
 T.still ⟨r26,1,none⟩ (.int .i64 t36) <|
 T.still (a33.add 13) (.map t34) <|
 T.sem (Sem.bind (Instr.mapUpdate 136 (.map t34) (.agg #[(.int .i64 t35),(.int .i64 t36)]) (.pointer t39)) fun _=> .pure undef) (.tuple []) fun (u40:Unit)=>
 T.out [])
 (T.out [])) fun (z32:Unit)=>
 deref l_0 fun a41=>
 T.load .map (a41.add 13) fun (t42:Option Nat)=>
 T.load (.int .i64) ⟨r26,0,none⟩ fun (t43:Int)=>
 T.load (.int .i64) ⟨r26,1,none⟩ fun (t44:Int)=>
 deref follow_1_p fun a45=>
 chk (0≤z4.1∧z4.1< (follow_1_n:Nat)) <|
 T.load .pointer (a45.add (Int.toNat z4.1 * 1)) fun (t46:Option Addr)=>
 T.sem (Instr.lookup 136 (.map t42) (.agg #[(.int .i64 t43),(.int .i64 t44)]) false) (.one aP) fun (t47:Option Addr)=>
 T.still (a45.add (Int.toNat z4.1 * 1)) (.pointer t46) <|
 T.call 139 [(.pointer t47),(.pointer t46)] (.one aB) fun (t48:Bool)=>
 T.out [])
 (T.new (.cells #[(.int .i64 (0:Int)),(.int .i64 (0:Int))] 141 (0,0)) fun r49=>
 T.still ⟨r18,1,none⟩ (sv t24) <|
 T.still ⟨r8,0,none⟩ (.int .i64 t23) <|
 T.still (a21.add 6) (.pointer t22) <|
 T.call 72 [(.pointer t22),(.int .i64 t23),(sv t24)] (.one aI) fun (t50:Int)=>
 T.store ⟨r49,0,none⟩ (.int .i64 t50) <|
 T.store ⟨r49,1,none⟩ (.int .i64 z12.1) <|
 deref l_0 fun a51=>
 T.load .map (a51.add 13) fun (t52:Option Nat)=>
 T.load (.int .i64) ⟨r49,0,none⟩ fun (t53:Int)=>
 T.load (.int .i64) ⟨r49,1,none⟩ fun (t54:Int)=>
 T.sem (Instr.lookup 136 (.map t52) (.agg #[(.int .i64 t53),(.int .i64 t54)]) false) (.one aP) fun (t55:Option Addr)=>
 T.join []
 (cond (Option.isNone t55)
 (deref l_0 fun a57=>
 T.load .map (a57.add 13) fun (t58:Option Nat)=>
 T.load (.int .i64) ⟨r49,0,none⟩ fun (t59:Int)=>
 T.load (.int .i64) ⟨r49,1,none⟩ fun (t60:Int)=>
 deref l_0 fun a61=>
 T.load .slice a61 fun (t62:Slc)=>
 T.call 138 [(.int .i64 ((t62.2.1:Nat):Int))] (.one aP) fun (t63:Option Addr)=>
 T.still ⟨r49,0,none⟩ (.int .i64 t59) <|
 T.still ⟨r49,1,none⟩ (.int .i64 t60) <|
 T.still (a57.add 13) (.map t58) <|
 T.sem (Sem.bind (Instr.mapUpdate 136 (.map t58) (.agg #[(.int .i64 t59),(.int .i64 t60)]) (.pointer t63)) fun _=> .pure undef) (.tuple []) fun (u64:Unit)=>
 T.out [])
 (T.out [])) fun (z56:Unit)=>
 deref l_0 fun a65=>
 T.load .map (a65.add 13) fun (t66:Option Nat)=>
 T.load (.int .i64) ⟨r49,0,none⟩ fun (t67:Int)=>
 T.load (.int .i64) ⟨r49,1,none⟩ fun (t68:Int)=>
 deref follow_1_p fun a69=>
 chk (0≤z4.1∧z4.1< (follow_1_n:Nat)) <|
 T.load .pointer (a69.add (Int.toNat z4.1 * 1)) fun (t70:Option Addr)=>
 T.sem (Instr.lookup 136 (.map t66) (.agg #[(.int .i64 t67),(.int .i64 t68)]) false) (.one aP) fun (t71:Option Addr)=>
 T.still (a69.add (Int.toNat z4.1 * 1)) (.pointer t70) <|
 T.call 139 [(.pointer t71),(.pointer t70)] (.one aB) fun (t72:Bool)=>
 T.out []))) fun (z13:Unit)=>
 T.out [(.int .i64 (wN z12.1))])
 (T.brk 2 [(.int .i64 z12.1)])) fun (z11:Int×Unit)=>
 T.out [(.int .i64 (wN z4.1))])
 (T.brk 0 [(.int .i64 z4.1)])) fun (z3:Int×Unit)=>
 deref l_0 fun a73=>
 T.load .pointer (a73.add 6) fun (t74:Option Addr)=>
 T.call 20 [(.pointer t74)] (.one aI) fun (t75:Int)=>
 T.block 4 [aI]
 (T.loop [aI] [(.int .i64 (0:Int))] fun (z77:Int×Unit)=>
 cond (decide (z77.1<t75))
 (T.call 71 [(.pointer l_0),(.int .i64 z77.1),(.int .i64 (0:Int))] (.one aB) fun (t78:Bool)=>
 T.join []
 (cond t78
 (deref l_0 fun a80=>
 T.load .map (a80.add 13) fun (t81:Option Nat)=>
 deref l_0 fun a82=>
 T.load .slice a82 fun (t83:Slc)=>
 T.new (.cells #[(.int .i64 (0:Int))] 3 (0,0)) fun r84=>
 T.still a82 (sv t83) <|
 T.still (a80.add 13) (.map t81) <|
 T.call 140 [(.int .i64 ((t83.2.1:Nat):Int)),(.slice (some ⟨r84,0,none⟩) 1 1)] (.one aP) fun (t85:Option Addr)=>
 T.still (a80.add 13) (.map t81) <|
 T.sem (Sem.bind (Instr.mapUpdate 136 (.map t81) (.agg #[(.int .i64 z77.1),(.int .i64 (0:Int))]) (.pointer t85)) fun _=> .pure undef) (.tuple []) fun (u86:Unit)=>
 T.out [])
 (T.out [])) fun (z79:Unit)=>
 T.out [(.int .i64 (wN z77.1))])
 (T.brk 4 [(.int .i64 z77.1)])) fun (z76:Int×Unit)=>
 T.ret (.tuple #[])
theorem Jb (l_0:Option Addr) (follow_1_p:Option Addr) (follow_1_n follow_1_c:Nat):Ab Tryz.prog Tryz.f110 [(.pointer l_0),(.slice follow_1_p follow_1_n follow_1_c)] =Gg l_0 follow_1_p follow_1_n follow_1_c:=by kernel_rfl
noncomputable def Gh (l_0:Option Addr) (state_1:Int) (rule_2:Int):T:=
 T.join [aB]
 (cond (decide (rule_2< (0:Int)))
 (T.out [(.bool true)])
 (deref l_0 fun a2=>
 T.load .slice (a2.add 2) fun (t3:Slc)=>
 T.out [(.bool (decide (rule_2≥ ((t3.2.1:Nat):Int))))])) fun (z1:Bool×Unit)=>
 cond z1.1
 (T.ret (.bool false))
 (deref l_0 fun a4=>
 T.load .pointer (a4.add 6) fun (t5:Option Addr)=>
 deref l_0 fun a6=>
 T.load .slice (a6.add 2) fun (t7:Slc)=>
 deref t7.1 fun a8=>
 chk (0≤rule_2∧rule_2< (t7.2.1:Nat)) <|
 T.load .slice ((a8.add (Int.toNat rule_2 * 3)).add 1) fun (t9:Slc)=>
 T.call 32 [(.pointer t5),(.int .i64 state_1)] (.one aS) fun (t10:Slc)=>
 T.still ((a8.add (Int.toNat rule_2 * 3)).add 1) (sv t9) <|
 T.still (a6.add 2) (sv t7) <|
 T.call 115 [(sv t10),(.agg #[(.int .i64 rule_2),(.int .i64 ((t9.2.1:Nat):Int))])] (.one aB) fun (t11:Bool)=>
 T.ret (.bool t11))
theorem Jc (l_0:Option Addr) (state_1:Int) (rule_2:Int):Ab Tryz.prog Tryz.f71 [(.pointer l_0),(.int .i64 state_1),(.int .i64 rule_2)] =Gh l_0 state_1 rule_2:=by kernel_rfl
noncomputable def Gi (l_0:Option Addr) (state_1:Int):T:=
 deref l_0 fun a1=>
 T.load .pointer (a1.add 6) fun (t2:Option Addr)=>
 T.call 32 [(.pointer t2),(.int .i64 state_1)] (.one aS) fun (t3:Slc)=>
 T.block 0 [aI,aS]
 (T.loop [aI,aS] [(.int .i64 (0:Int)),(.slice none 0 0)] fun (z5:Int×Slc×Unit)=>
 cond (decide (z5.1< ((t3.2.1:Nat):Int)))
 (deref t3.1 fun a6=>
 chk (0≤z5.1∧z5.1< (t3.2.1:Nat)) <|
 T.load (.int .i64) (a6.add (Int.toNat z5.1 * 2)) fun (t7:Int)=>
 T.load (.int .i64) ((a6.add (Int.toNat z5.1 * 2)).add 1) fun (t8:Int)=>
 T.new (.cells #[(.int .i64 (0:Int)),(.int .i64 (0:Int))] 70 (0,0)) fun r9=>
 T.store ⟨r9,0,none⟩ (.int .i64 t7) <|
 T.store ⟨r9,1,none⟩ (.int .i64 t8) <|
 T.load (.int .i64) ⟨r9,1,none⟩ fun (t10:Int)=>
 deref l_0 fun a11=>
 T.load .slice (a11.add 2) fun (t12:Slc)=>
 T.load (.int .i64) ⟨r9,0,none⟩ fun (t13:Int)=>
 deref t12.1 fun a14=>
 chk (0≤t13∧t13< (t12.2.1:Nat)) <|
 T.load .slice ((a14.add (Int.toNat t13 * 3)).add 1) fun (t15:Slc)=>
 T.join [aS]
 (cond (t10==((t15.2.1:Nat):Int))
 (T.load (.int .i64) ⟨r9,0,none⟩ fun (t17:Int)=>
 T.new (.cells #[(.int .i64 t17)] 3 (0,0)) fun r18=>
 T.sem (Builtin.append_ #[30,30] 30 #[(sv z5.2.1),(.slice (some ⟨r18,0,none⟩) 1 1)]) (.one aS) fun (t19:Slc)=>
 T.out [(sv t19)])
 (T.out [(sv z5.2.1)])) fun (z16:Slc×Unit)=>
 T.out [(.int .i64 (wN z5.1)),(sv z16.1)])
 (T.brk 0 [(.int .i64 z5.1),(sv z5.2.1)])) fun (z4:Int×Slc×Unit)=>
 T.ret (sv z4.2.1)
theorem Jd (l_0:Option Addr) (state_1:Int):Ab Tryz.prog Tryz.f22 [(.pointer l_0),(.int .i64 state_1)] =Gi l_0 state_1:=by kernel_rfl
noncomputable def Hy (l_0:Option Addr) (state_1:Int) (rule_2:Int):T:=
 deref l_0 fun a1=>
 T.load .map (a1.add 13) fun (t2:Option Nat)=>
 T.sem (Instr.lookup 136 (.map t2) (.agg #[(.int .i64 state_1),(.int .i64 rule_2)]) false) (.one aP) fun (t3:Option Addr)=>
 cond (Option.isNone t3)
 (T.ret (.slice none 0 0))
 (T.call 70 [(.pointer t3)] (.one aS) fun (t4:Slc)=>
 T.ret (sv t4))
theorem Kp (l_0:Option Addr) (state_1:Int) (rule_2:Int):Ab Tryz.prog Tryz.f24 [(.pointer l_0),(.int .i64 state_1),(.int .i64 rule_2)] =Hy l_0 state_1 rule_2:=by kernel_rfl
noncomputable def Gj (l_0:Option Addr) (state_1:Int) (rule_2:Int):T:=
 T.call 71 [(.pointer l_0),(.int .i64 state_1),(.int .i64 rule_2)] (.one aB) fun (t1:Bool)=>
 cond (!t1)
 (T.ret (.slice none 0 0))
 (deref l_0 fun a2=>
 T.load .slice (a2.add 2) fun (t3:Slc)=>
 deref t3.1 fun a4=>
 chk (0≤rule_2∧rule_2< (t3.2.1:Nat)) <|
 T.load (.int .i64) (a4.add (Int.toNat rule_2 * 3)) fun (t5:Int)=>
 T.load .slice ((a4.add (Int.toNat rule_2 * 3)).add 1) fun (t6:Slc)=>
 T.load (.int .i64) ((a4.add (Int.toNat rule_2 * 3)).add 2) fun (t7:Int)=>
 T.new (.cells #[(.int .i64 (0:Int)),(.slice none 0 0),(.int .i64 (0:Int))] 65 (0,0)) fun r8=>
 T.store ⟨r8,0,none⟩ (.int .i64 t5) <|
 T.store ⟨r8,1,none⟩ (sv t6) <|
 T.store ⟨r8,2,none⟩ (.int .i64 t7) <|
 deref l_0 fun a9=>
 T.load .pointer (a9.add 6) fun (t10:Option Addr)=>
 T.call 20 [(.pointer t10)] (.one aI) fun (t11:Int)=>
 T.block 0 [aI,aS]
 (T.loop [aI,aS] [(.int .i64 (0:Int)),(.slice none 0 0)] fun (z13:Int×Slc×Unit)=>
 cond (decide (z13.1<t11))
 (deref l_0 fun a14=>
 T.load .pointer (a14.add 6) fun (t15:Option Addr)=>
 T.load (.int .i64) ⟨r8,0,none⟩ fun (t16:Int)=>
 T.call 41 [(.pointer t15),(.int .i64 z13.1),(.int .i64 t16)] (.one aI) fun (t17:Int)=>
 T.join [aB]
 (cond (decide (t17≥ (0:Int)))
 (deref l_0 fun a19=>
 T.load .pointer (a19.add 6) fun (t20:Option Addr)=>
 T.load .slice ⟨r8,1,none⟩ fun (t21:Slc)=>
 T.call 72 [(.pointer t20),(.int .i64 z13.1),(sv t21)] (.one aI) fun (t22:Int)=>
 T.out [(.bool (t22==state_1))])
 (T.out [(.bool false)])) fun (z18:Bool×Unit)=>
 T.join [aS]
 (cond z18.1
 (T.load (.int .i64) ⟨r8,0,none⟩ fun (t24:Int)=>
 T.new (.cells #[(.int .i64 t24),(.int .i64 t17)] 73 (0,0)) fun r25=>
 T.sem (Builtin.append_ #[54,54] 54 #[(sv z13.2.1),(.slice (some ⟨r25,0,none⟩) 1 1)]) (.one aS) fun (t26:Slc)=>
 T.out [(sv t26)])
 (T.out [(sv z13.2.1)])) fun (z23:Slc×Unit)=>
 T.out [(.int .i64 (wN z13.1)),(sv z23.1)])
 (T.brk 0 [(.int .i64 z13.1),(sv z13.2.1)])) fun (z12:Int×Slc×Unit)=>
 T.ret (sv z12.2.1))
theorem Je (l_0:Option Addr) (state_1:Int) (rule_2:Int):Ab Tryz.prog Tryz.f27 [(.pointer l_0),(.int .i64 state_1),(.int .i64 rule_2)] =Gj l_0 state_1 rule_2:=by kernel_rfl
end Go.Proofs.YteolcjbobmpdiaaGreatDoor
namespace Go.Proofs.YteolcjbobmpdiaaGreatDoor
open Go Go.Eng Dg
set_option linter.unusedVariables false
set_option maxRecDepth 100000
structure PlK (φ:AC) (t:Slc×Slc×Slc×Slc×Slc×Slc×Unit) (p:dtP):Prop where
 k0:Ro.SliceIs Ro.str φ t.1 p.1
 k1:Ro.SliceIs Ro.str φ t.2.1 p.2.1
 k2:Ro.SliceIs CA φ t.2.2.1 p.2.2.1
 k3:Ro.SliceIs (Ro.int .i64) φ t.2.2.2.1 p.2.2.2.1
 k4:Ro.SliceIs (Ro.int .i64) φ t.2.2.2.2.1 p.2.2.2.2.1
 k5:Ro.SliceIs Ro.str φ t.2.2.2.2.2.1 p.2.2.2.2.2
theorem PlK.mono {φ ψ:AC} {t:Slc×Slc×Slc×Slc×Slc×Slc×Unit} {p:dtP} (H:PlK φ t p) (hs:Sub φ ψ):PlK ψ t p:=
 ⟨H.k0.mono hs,H.k1.mono hs,H.k2.mono hs,H.k3.mono hs,H.k4.mono hs,H.k5.mono hs⟩
abbrev plV (t:Slc×Slc×Slc×Slc×Slc×Slc×Unit):List Value:= [sv t.1,sv t.2.1,sv t.2.2.1,sv t.2.2.2.1,sv t.2.2.2.2.1,sv t.2.2.2.2.2.1]
structure FsK (φ:AC) (a:Addr) (t:Slc×Slc×Slc×Slc×Slc×Slc×Unit) (n f g:Slc) (p:dtP) (ps qs:List (Option Addr)):Prop where
 cells:Cs φ (some a) (plV t++ [sv n,sv f,sv g])
 pl:PlK φ t p
 kf:Ro.SliceIs Ro.pt φ f ps
 kg:Ro.SliceIs Ro.pt φ g qs
section
variable {φ ψ:AC} {h:AE} {F:List Chk} {a:Addr} {t:Slc×Slc×Slc×Slc×Slc×Slc×Unit} {n f g:Slc} {p:dtP} {ps qs:List (Option Addr)}
theorem FsK.mono (H:FsK φ a t n f g p ps qs) (hs:Sub φ ψ):FsK ψ a t n f g p ps qs:=⟨H.cells.mono hs,H.pl.mono hs,H.kf.mono hs,H.kg.mono hs⟩
theorem FsK.at (H:FsK φ a t n f g p ps qs) (st:St φ F h) {j:Nat} {v:Value} (hv:(plV t++ [sv n,sv f,sv g])[j]? =some v):BF h (a.add j)=some v:=AD st.sub (H.cells.at j hv)
theorem OB {K:Bool→T} {P:Be→AE→Prop} (cells: ∀j v,(plV t)[j]? =some v→BF h (a.add j)=some v) (k:PlK φ t p) (st:St φ F h) {s:Int} {r:Bool} (hd:BV p s=some r)
 (hk: ∀ψ h',Sub φ ψ→St ψ F h'→(K r).wp Tryz.prog P h'):
 (T.load .slice a fun (t6:Slc)=>T.load .slice (a.add 1) fun (t7:Slc)=>T.load .slice (a.add 2) fun (t8:Slc)=>T.load .slice (a.add 3) fun (t9:Slc)=>T.load .slice (a.add 4) fun (t10:Slc)=>T.load .slice (a.add 5) fun (t11:Slc)=>
  T.call 86 [(.agg #[(sv t6),(sv t7),(sv t8),(sv t9),(sv t10),(sv t11)]),(.int .i64 s)] (.one aB) K).wp Tryz.prog P h:=by
 have e0:a.add 0=a:=by cases a; rfl
 refine AH (x:=t.1) (by have:=cells 0 _ rfl; rwa [e0] at this) rfl ?_
 refine AH (x:=t.2.1) (cells 1 _ rfl) rfl ?_
 refine AH (x:=t.2.2.1) (cells 2 _ rfl) rfl ?_
 refine AH (x:=t.2.2.2.1) (cells 3 _ rfl) rfl ?_
 refine AH (x:=t.2.2.2.2.1) (cells 4 _ rfl) rfl ?_
 refine AH (x:=t.2.2.2.2.2.1) (cells 5 _ rfl) rfl ?_
 refine AI (ET (p_0:=t) k.k0 k.k1 k.k2 k.k3 k.k4 k.k5 st hd) ?_
 rintro _ h1 ⟨ψ,y,le,rfl,rfl,s1⟩
 exact ⟨y,rfl,hk ψ h1 le s1⟩
theorem FsK.pv (H:FsK φ a t n f g p ps qs) (st:St φ F h): ∀j v,(plV t)[j]? =some v→BF h (a.add j)=some v:=fun j v hv=>H.at st (by
 rw [List.getElem?_append_left (List.getElem?_eq_some_iff.1 hv).1]; exact hv)
theorem add_zero (a:Addr):a.add 0=a:=by cases a; rfl
theorem Mc (H:FsK φ a t n f g p ps qs) (st:St φ F h) (s:Int):
 CallsH Tryz.prog 160 [.pointer (some a), .int .i64 s] h (Aq fun v h'=>v=((.one aI):Sh).val (IntKind.wrap .i64 (s - nT p))∧St φ F h'):=by
 refine AQ mixed Tryz.func160 ?_
 rw [Ko]
 unfold Hx
 refine AF _ rfl (AH (x:=t.1) (by have:=H.at st (j:=0) rfl; rwa [add_zero] at this) rfl ?_)
 have e:t.1.2.1=p.1.length:=H.pl.k0.length
 rw [e]
 exact AB ⟨rfl,st⟩
theorem Tg {α:Type} {l:List α} {k:Nat} {x:α} (h:idx l (k:Int)=some x):l[k]? =some x:=by rw [Cq] at h; exact h
theorem QL {ps qs:List (Option Addr)} {k:Nat} {q:Option Addr} (h:ps[k]? =some q):(ps++qs)[k]? =some q:=by rw [List.getElem?_append_left (List.getElem?_eq_some_iff.1 h).1]; exact h
abbrev fsC (n:Slc) (null:List Bool) (ps:List (Option Addr)) (ss:List AT) (F:List Chk):List Chk:=cR 4 Ro.bool n null::(AN ps ss++F)
set_option maxHeartbeats 1000000 in
theorem Md (gk:Dg.Glob φ) (K:FsK φ a t n f g p ps qs) {sq:Slc} {seq:List Int} (ks:Ro.SliceIs (Ro.int .i64) φ sq seq) {null:List Bool} {ss:List AT} {x:Nat} {q:Option Addr} (hq:(ps++qs)[x]? =some q) (hl:(ps++qs).length=ss.length) {r:Bool×Bool×List AT}
 (hd:JJ p ((ps.length:Nat):Int) null (x:Int) ss seq=some r) (s0:St φ (fsC n null (ps++qs) ss F) h):
 CallsH Tryz.prog 161 [.pointer (some a),sv sq, .func (.func 139) #[.pointer q] #[]] h (Aq fun v h'=> ∃ψ:AC,Sub φ ψ∧v=((.tuple [aB,aB]):Sh).val (r.1,r.2.1,())∧r.2.2.length=ss.length∧St ψ (fsC n null (ps++qs) r.2.2 F) h'):=by
 refine AQ mixed Tryz.func161 ?_
 rw [HE]
 unfold Ei
 unfold JJ at hd
 have nk:=ks.length
 obtain ⟨g3,hx4,hd⟩:=bS hd
 refine AV (fun (y:Int×Bool×Bool×Unit) w g=> ∃(ψ:AC) (ss':List AT),Sub φ ψ∧g=AW.next (y.2.2.1,ss')∧ss'.length=ss.length∧St ψ (fsC n null (ps++qs) ss' F) w) (g:=g3) ?_ ?_
 ·refine Bq hx4 (fun i (y:Int×Bool×Bool×Unit) w g=> ∃(ψ:AC),Sub φ ψ∧y.1=i∧y.2.2.1=g.1∧g.2.length=ss.length∧St ψ (fsC n null (ps++qs) g.2 F) w) ((0:Int),false,false,()) rfl ⟨φ,Sub.refl _,rfl,rfl,rfl,s0⟩ ?_ ?_
  ·rintro i z w ⟨gr,s1⟩ e ⟨ψ,le,rfl,hg,hl1,st⟩ he h0 hlt hw hb
   dsimp only at hg hl1 st he
   subst hg
   refine Ag (by rw [nk]; exact decide_eq_true hlt) ?_
   obtain ⟨sym,hs1,he⟩:=bS he
   obtain ⟨tm,ht1,he⟩:=bS he
   obtain ⟨A1,cs1,ea1,hi1,r1,cl1⟩:=(ks.mono le).get hs1
   refine AF _ ea1 (Ac hi1 ?_)
   obtain rfl:=r1
   refine AH (x:=sym) (AD st.sub (cl1 0 _ rfl)) rfl ?_
   refine AF _ rfl (OB ((K.mono le).pv st) (K.mono le).pl st ht1 ?_)
   intro ψ1 h1 le1 st1
   have le':=le.trans le1
   refine AK he rfl (fun _ he=> ?_) (fun _ he=> ?_)
   ·obtain ⟨o,ho,he⟩:=bS he
    obtain ⟨u,hu,he⟩:=bS he
    obtain rfl:=iS he
    obtain rfl:=hb _ rfl
    obtain rfl:=iS hd
    unfold Uc at hu
    obtain ⟨s,hs,hu⟩:=bS hu
    obtain ⟨ok,hu⟩:=Bw hu
    obtain rfl:=iS hu
    refine Ao (fun (y:Bool×Bool×Unit) w (_:Unit)=>y=(EY s o || z.2.2.1,false,())∧ ∃ψ,Sub φ ψ∧St ψ (fsC n null (ps++qs) (s1.set x (BB s o)) F) w) (g:=()) ?_ ?_
    ·refine AF _ rfl ?_
     refine AH (x:=t.1) (by have:=(K.mono le').at st1 (j:=0) rfl; rwa [add_zero] at this) rfl ?_
     refine AU (vs:= [.int .i64 sym]) st1 ?_
     intro r16 h2 st2
     have st3:=St.lit (r:=Ro.int .i64) (l:= [sym]) (n:=1) st2 (.cons (a:= [_]) rfl .nil) rfl (by decide)
     obtain ⟨ψ2,le2,k2,st4⟩:=St.freezeRow (t:=(some ⟨r16,0,none⟩,1,1)) st3
     have e:t.1.2.1=p.1.length:=K.pl.k0.length
     rw [e]
     refine AI (Dv k2 st4 ho) ?_
     rintro _ h3 ⟨ψ3,p',l3,le3,rfl,rfl,st5⟩
     refine ⟨p',rfl,?_⟩
     have st6:St ψ3 (BN p' l3::(AN (ps++qs) s1++(cR 4 Ro.bool n null::F))) h3:=st5.perm (List.Perm.cons _ (List.perm_middle (l₁:=AN (ps++qs) s1)).symm)
     refine AI (Oy (gk.mono ((le'.trans le2).trans le3)) (Tg hs) hq ok st6) ?_
     rintro _ h4 ⟨ψ4,le4,rfl,st7⟩
     refine ⟨_,rfl,?_⟩
     have st8:St ψ4 (fsC n null (ps++qs) (s1.set x (BB s l3)) F) h4:=st7.tail.perm (List.perm_middle (l₁:=AN (ps++qs) (s1.set x (BB s l3))))
     cases hgr:EY s l3
     ·exact AY rfl (AS (z.2.2.1,false,()) rfl ⟨by simp,ψ4,((le'.trans le2).trans le3).trans le4,st8⟩)
     ·exact Ag rfl (AS (true,false,()) rfl ⟨by simp,ψ4,((le'.trans le2).trans le3).trans le4,st8⟩)
    ·rintro y h5 ⟨rfl,ψ5,le5,st9⟩
     exact Ah (An (AB ⟨ψ5,le5,rfl,by simp [hl1],st9⟩))
   ·obtain ⟨hm,he⟩:=Bw he
    obtain ⟨u,hu,he⟩:=bS he
    obtain ⟨b,hb1,he⟩:=bS he
    unfold Rr at hu
    obtain ⟨s,hs,hu⟩:=bS hu
    obtain ⟨o,ho,hu⟩:=bS hu
    obtain ⟨ok,hu⟩:=Bw hu
    obtain rfl:=iS hu
    obtain ⟨y0,y1,y2⟩:=Ct ho
    obtain ⟨k,hk⟩: ∃k:Nat,IntKind.wrap .i64 (sym - nT p)=(k:Int):=⟨_,(Int.toNat_of_nonneg y0).symm⟩
    have hkp:k<ps.length:=by omega
    have hpk:ps[k]? =some ps[k] :=List.getElem?_eq_getElem hkp
    rw [hk] at ho hb1
    refine Ao (fun (y:Bool×Unit) w (_:Unit)=>y=(EY s o || z.2.2.1,())∧ ∃ψ,Sub φ ψ∧St ψ (fsC n null (ps++qs) (s1.set x (BB s o)) F) w) (g:=()) ?_ ?_
    ·refine AF _ rfl ?_
     refine AH (x:=f) ((K.mono le').at st1 (j:=7) rfl) rfl ?_
     refine AI (Mc (K.mono le') st1 sym) ?_
     rintro _ h2 ⟨rfl,st2⟩
     refine ⟨_,rfl,?_⟩
     refine AL ((K.mono le').at st2 (j:=7) rfl) ?_
     rw [hk]
     obtain ⟨A2,cs2,ea2,hi2,r2,cl2⟩:=((K.mono le').kf).get (i:=(k:Int)) (by rw [Cq]; exact hpk)
     refine AF _ ea2 (Ac hi2 ?_)
     obtain rfl:=r2
     refine AH (x:=ps[k]) (AD st2.sub (cl2 0 _ rfl)) rfl ?_
     have st3:St ψ1 (AN (ps++qs) s1++(cR 4 Ro.bool n null::F)) h2:=st2.perm (List.perm_middle (l₁:=AN (ps++qs) s1)).symm
     refine AI (Qo (gk.mono le') (Tg hs) (Tg ho) hq (QL hpk) ok st3) ?_
     rintro _ h3 ⟨ψ4,le4,rfl,st4⟩
     refine ⟨_,rfl,?_⟩
     have st8:St ψ4 (fsC n null (ps++qs) (s1.set x (BB s o)) F) h3:=st4.perm (List.perm_middle (l₁:=AN (ps++qs) (s1.set x (BB s o))))
     cases hgr:EY s o
     ·exact AY rfl (AS (z.2.2.1,()) rfl ⟨by simp,ψ4,le'.trans le4,st8⟩)
     ·exact Ag rfl (AS (true,()) rfl ⟨by simp,ψ4,le'.trans le4,st8⟩)
    ·rintro y h5 ⟨rfl,ψ5,le5,st9⟩
     refine AF _ rfl ?_
     refine AH (x:=n) ((K.mono le5).at st9 (j:=6) rfl) rfl ?_
     refine AI (Mc (K.mono le5) st9 sym) ?_
     rintro _ h6 ⟨rfl,st10⟩
     refine ⟨_,rfl,?_⟩
     refine AL ((K.mono le5).at st10 (j:=6) rfl) ?_
     rw [hk]
     obtain ⟨A2,cs2,ea2,hi2,r2,cl2⟩:=st10.get hb1
     refine AF _ ea2 (Ac hi2 ?_)
     obtain rfl:=r2
     refine AH (x:=b) (cl2 0 _ rfl) rfl ?_
     cases b
     ·obtain rfl:=iS he
      obtain rfl:=hb _ rfl
      obtain rfl:=iS hd
      refine Ag rfl ?_
      exact Ah (An (AB ⟨ψ5,le5,rfl,by simp [hl1],st10⟩))
     ·obtain rfl:=iS he
      refine AY rfl ?_
      exact Af (IntKind.wrap .i64 (z.1+(1:Int)),z.2.1,EY s o || z.2.2.1,()) _ rfl rfl ⟨ψ5,le5,hw,rfl,by simp [hl1],st10⟩
  ·rintro i z w ⟨gr,s1⟩ ⟨ψ,le,rfl,hg,hl1,st⟩ hge hr
   subst hr
   dsimp only at hg hl1 st
   refine AY (by rw [nk]; exact decide_eq_false (Int.not_lt.2 hge)) ?_
   exact AJ (AM z rfl ⟨ψ,s1,le,by rw [hg],hl1,st⟩)
 ·rintro z h1 ⟨ψ,ss',le,rfl,hl1,st⟩
  obtain rfl:=iS hd
  exact AB ⟨ψ,le,rfl,hl1,st⟩
end
section
variable {φ ψ:AC} {h:AE} {F:List Chk} {a:Addr} {t:Slc×Slc×Slc×Slc×Slc×Slc×Unit} {n f g:Slc} {p:dtP} {ps qs:List (Option Addr)}
theorem Lo {R:Slc} {rs:List BA} {i:Int} {r:BA} {K:Nat→T} {P:Be→AE→Prop} (k:Ro.SliceIs CA φ R rs) (hr:idx rs i=some r) (st:St φ F h)
 (hk: ∀(r9:Nat) (u:Slc) (h':AE),Ro.SliceIs (Ro.int .i64) φ u r.2.1→St φ (⟨Rep.raw 65, [.pointer (some ⟨r9,0,none⟩)], [.int .i64 r.1,sv u, .int .i64 r.2.2]⟩::F) h'→(K r9).wp Tryz.prog P h'):
 (deref R.1 fun a5=>chk (0≤i∧i< (R.2.1:Nat)) <| T.load (.int .i64) (a5.add (Int.toNat i * 3)) fun (t6:Int)=>T.load .slice ((a5.add (Int.toNat i * 3)).add 1) fun (t7:Slc)=>T.load (.int .i64) ((a5.add (Int.toNat i * 3)).add 2) fun (t8:Int)=>
  T.new (.cells #[(.int .i64 (0:Int)),(.slice none 0 0),(.int .i64 (0:Int))] 65 (0,0)) fun r9=>T.store ⟨r9,0,none⟩ (.int .i64 t6) <| T.store ⟨r9,1,none⟩ (sv t7) <| T.store ⟨r9,2,none⟩ (.int .i64 t8) <| K r9).wp Tryz.prog P h:=by
 obtain ⟨A1,cs1,ea1,hi1,q1,cl1⟩:=k.get hr
 refine AF _ ea1 (Ac hi1 ?_)
 obtain ⟨_,_,rfl,q2,q3⟩:=q1
 obtain rfl:=q2
 obtain ⟨_,_,rfl,q4,q5⟩:=q3
 obtain ⟨u,rfl,ku⟩:=q4
 obtain rfl:=q5
 refine AH (x:=r.1) (AD st.sub (cl1 0 _ rfl)) rfl ?_
 refine AH (x:=u) (by rw [Ad]; exact AD st.sub (cl1 1 _ rfl)) rfl ?_
 refine AH (x:=r.2.2) (by rw [Ad]; exact AD st.sub (cl1 2 _ rfl)) rfl ?_
 refine AU (vs:= [.int .i64 0, .slice none 0 0, .int .i64 0]) st ?_
 intro r9 h1 s1
 refine CI (b:=r9) (j:=0) (v:= .int .i64 r.1) s1 rfl (by simp) ?_
 intro h2 s2
 refine CI (b:=r9) (j:=1) (v:=sv u) s2 rfl (by simp) ?_
 intro h3 s3
 refine CI (b:=r9) (j:=2) (v:= .int .i64 r.2.2) s3 rfl (by simp) ?_
 intro h4 s4
 exact hk r9 u h4 ku s4
set_option maxHeartbeats 1000000 in
theorem Rv (gk:Dg.Glob φ) (K:FsK φ a t n f g p ps qs) {null:List Bool} {ss:List AT} (hl:(ps++qs).length=ss.length) {r:Bool×List Bool×List AT}
 (hd:MZ p ((ps.length:Nat):Int) null ss=some r) (s0:St φ (fsC n null (ps++qs) ss F) h):
 CallsH Tryz.prog 133 [.pointer (some a)] h (Aq fun v h'=> ∃ψ:AC,Sub φ ψ∧v=((.one aB):Sh).val r.1∧r.2.2.length=ss.length∧St ψ (fsC n r.2.1 (ps++qs) r.2.2 F) h'):=by
 refine AQ mixed Tryz.func133 ?_
 rw [Iz]
 unfold GF
 unfold MZ at hd
 refine AF _ rfl ?_
 refine AH (x:=t.2.2.1) (K.at s0 (j:=2) rfl) rfl ?_
 have nk:=K.pl.k2.length
 refine AV (fun (y:Int×Bool×Unit) w g=> ∃(ψ:AC),Sub φ ψ∧y.2.1=g.1∧g.2.2.length=ss.length∧St ψ (fsC n g.2.1 (ps++qs) g.2.2 F) w) (g:=r) ?_ ?_
 ·refine BL hd (fun i (y:Int×Bool×Unit) w g=>y.1=i∧ ∃(ψ:AC),Sub φ ψ∧y.2.1=g.1∧g.2.2.length=ss.length∧St ψ (fsC n g.2.1 (ps++qs) g.2.2 F) w) ((0:Int),false,()) rfl ⟨rfl,φ,Sub.refl _,rfl,rfl,s0⟩ ?_ ?_
  ·rintro i z w ⟨gr,nu,s1⟩ e ⟨rfl,ψ,le,hg,hl1,st⟩ he h0 hlt hw
   dsimp only at hg hl1 st he
   subst hg
   refine Ag (by rw [nk]; exact decide_eq_true hlt) ?_
   obtain ⟨ru,hr1,he⟩:=bS he
   obtain ⟨hm,he⟩:=Bw he
   obtain ⟨gg,hg1,he⟩:=bS he
   obtain ⟨b,hb1,he⟩:=bS he
   obtain ⟨nu',hn1,he⟩:=bS he
   obtain rfl:=iS he
   obtain ⟨k,hk⟩: ∃k:Nat,IntKind.wrap .i64 (ru.1 - nT p)=(k:Int):=⟨_,(Int.toNat_of_nonneg hm.1).symm⟩
   rw [hk] at hm hg1 hb1 hn1
   have hkp:k<ps.length:=by omega
   have hpk:ps[k]? =some ps[k] :=List.getElem?_eq_getElem hkp
   refine Lo (K.pl.k2.mono le) hr1 st ?_
   intro r9 u h1 ku st1
   refine AA (b:=r9) (j:=0) (x:=ru.1) st1 rfl ?_
   refine AI (Mc (K.mono le) st1 ru.1) ?_
   rintro _ h2 ⟨rfl,st2⟩
   refine ⟨_,rfl,?_⟩
   rw [hk]
   refine AA (b:=r9) (j:=1) (x:=u) st2 rfl ?_
   refine AF _ rfl ?_
   refine AH (x:=f) ((K.mono le).at st2 (j:=7) rfl) rfl ?_
   obtain ⟨A2,cs2,ea2,hi2,r2,cl2⟩:=((K.mono le).kf).get (i:=(k:Int)) (by rw [Cq]; exact hpk)
   refine AF _ ea2 (Ac hi2 ?_)
   obtain rfl:=r2
   refine AH (x:=ps[k]) (AD st2.sub (cl2 0 _ rfl)) rfl ?_
   refine AI (Md (gk.mono le) (K.mono le) ku (QL hpk) (hl.trans hl1.symm) hg1 st2.tail) ?_
   rintro _ h3 ⟨ψ3,le3,rfl,hl3,st3⟩
   refine ⟨_,rfl,?_⟩
   have le':=le.trans le3
   refine Ao (fun (y:Bool×Unit) w (_:Unit)=>y=(z.2.1 || gg.1 || (gg.2.1 && !b),())∧St ψ3 (fsC n nu (ps++qs) gg.2.2 F) w) (g:=()) ?_ ?_
   ·cases hz:z.2.1
    ·refine AY rfl ?_
     cases hgg:gg.1
     ·refine AY (by dsimp only) ?_
      cases hgn:gg.2.1
      ·refine AY (by dsimp only) ?_
       exact AS (false,()) rfl ⟨by simp,st3⟩
      ·refine Ag (by dsimp only) ?_
       refine AF _ rfl ?_
       refine AH (x:=n) ((K.mono le').at st3 (j:=6) rfl) rfl ?_
       obtain ⟨A3,cs3,ea3,hi3,r3,cl3⟩:=st3.get hb1
       refine AF _ ea3 (Ac hi3 ?_)
       obtain rfl:=r3
       refine AH (x:=b) (cl3 0 _ rfl) rfl ?_
       exact AS (!b,()) rfl ⟨by simp,st3⟩
     ·refine Ag (by dsimp only) ?_
      exact AS (true,()) rfl ⟨by simp,st3⟩
    ·refine Ag rfl ?_
     exact AS (true,()) rfl ⟨by simp,st3⟩
   ·rintro y h4 ⟨rfl,st4⟩
    refine Ao (fun (y:Unit) w (_:Unit)=>St ψ3 (fsC n nu' (ps++qs) gg.2.2 F) w) (g:=()) ?_ ?_
    ·refine AF _ rfl ?_
     refine AH (x:=n) ((K.mono le').at st4 (j:=6) rfl) rfl ?_
     refine AF _ rfl ?_
     refine AH (x:=n) ((K.mono le').at st4 (j:=6) rfl) rfl ?_
     obtain ⟨A3,cs3,ea3,hi3,r3,cl3⟩:=st4.get hb1
     refine AF _ ea3 (Ac hi3 ?_)
     obtain rfl:=r3
     refine AH (x:=b) (cl3 0 _ rfl) rfl ?_
     obtain ⟨A4,ea4,q4⟩:=st4.there hn1
     cases b
     ·refine AY rfl ?_
      refine AF _ ea4 (Ac q4 (Ht st4 hn1 rfl ea4 ?_))
      intro h5 st5
      exact AS () rfl st5
     ·refine Ag rfl ?_
      refine AF _ ea4 (Ac q4 (Ht st4 hn1 rfl ea4 ?_))
      intro h5 st5
      exact AS () rfl st5
    ·rintro _ h5 st5
     exact Af (IntKind.wrap .i64 (z.1+(1:Int)),z.2.1 || gg.1 || (gg.2.1 && !b),()) _ rfl rfl ⟨hw,ψ3,le',rfl,hl3.trans hl1,st5⟩
  ·rintro i z w ⟨rfl,H⟩ hge
   refine AY (by rw [nk]; exact decide_eq_false (Int.not_lt.2 hge)) ?_
   exact AJ (AM z rfl H)
 ·rintro z h1 ⟨ψ,le,hg,hl1,st⟩
  exact AB ⟨ψ,le,by rw [hg]; rfl,hl1,st⟩
theorem Ps {u:Slc} {l:List Int} {lo:Int} (k:Ro.SliceIs (Ro.int .i64) φ u l) (h0:0≤lo) (h1:lo≤(l.length:Int)):cut l lo ((u.2.1:Nat):Int)=some (l.drop lo.toNat):=by
 have hlen:=k.length
 unfold cut
 rw [if_pos ⟨by omega,by omega,by omega⟩,Int.toNat_natCast,hlen,List.take_length]
theorem Kq {ps qs:List (Option Addr)} {k:Nat} {q:Option Addr} (h:qs[k]? =some q):(ps++qs)[ps.length+k]? =some q:=by
 rw [List.getElem?_append_right (by omega),Nat.add_sub_cancel_left]; exact h
set_option maxHeartbeats 2000000 in
theorem QM (gk:Dg.Glob φ) (K:FsK φ a t n f g p ps qs) (hpq:qs.length=ps.length) {null:List Bool} {ss:List AT} (hl:(ps++qs).length=ss.length) {r:Bool×List AT}
 (hd:Km p ((ps.length:Nat):Int) null ss=some r) (s0:St φ (fsC n null (ps++qs) ss F) h):
 CallsH Tryz.prog 135 [.pointer (some a)] h (Aq fun v h'=> ∃ψ:AC,Sub φ ψ∧v=((.one aB):Sh).val r.1∧r.2.length=ss.length∧St ψ (fsC n null (ps++qs) r.2 F) h'):=by
 refine AQ mixed Tryz.func135 ?_
 rw [IC]
 unfold FW
 unfold Km at hd
 refine AF _ rfl ?_
 refine AH (x:=t.2.2.1) (K.at s0 (j:=2) rfl) rfl ?_
 have nk:=K.pl.k2.length
 refine AV (fun (y:Int×Bool×Unit) w g=> ∃(ψ:AC),Sub φ ψ∧y.2.1=g.1∧g.2.length=ss.length∧St ψ (fsC n null (ps++qs) g.2 F) w) (g:=r) ?_ ?_
 ·refine BL hd (fun i (y:Int×Bool×Unit) w g=>y.1=i∧ ∃(ψ:AC),Sub φ ψ∧y.2.1=g.1∧g.2.length=ss.length∧St ψ (fsC n null (ps++qs) g.2 F) w) ((0:Int),false,()) rfl ⟨rfl,φ,Sub.refl _,rfl,rfl,s0⟩ ?_ ?_
  ·rintro i z w ⟨gr,s1⟩ e ⟨rfl,ψ,le,hg,hl1,st⟩ he h0 hlt hw
   dsimp only at hg hl1 st he
   subst hg
   refine Ag (by rw [nk]; exact decide_eq_true hlt) ?_
   obtain ⟨ru,hr1,he⟩:=bS he
   refine Lo (K.pl.k2.mono le) hr1 st ?_
   intro r9 u h1 ku st1
   refine AA (b:=r9) (j:=1) (x:=u) st1 rfl ?_
   have nu:=ku.length
   obtain ⟨G,hG⟩: ∃G:List Chk,G=⟨Rep.raw 65, [.pointer (some ⟨r9,0,none⟩)], [.int .i64 ru.1,sv u, .int .i64 ru.2.2]⟩::F:=⟨_,rfl⟩
   have st2:St ψ (fsC n null (ps++qs) s1 G) h1:=by
    rw [hG]
    exact st1.perm ((List.Perm.swap _ _ _).trans (List.Perm.cons _ (List.perm_middle (l₁:=AN (ps++qs) s1)).symm))
   have raw: ∀ {ψ':AC} {s':List AT} {h':AE},St ψ' (fsC n null (ps++qs) s' G) h'→St ψ' (⟨Rep.raw 65, [.pointer (some ⟨r9,0,none⟩)], [.int .i64 ru.1,sv u, .int .i64 ru.2.2]⟩::fsC n null (ps++qs) s' F) h':=fun {ψ' s' h'} H=>by
    rw [hG] at H
    exact H.perm ((List.Perm.cons _ (List.perm_middle (l₁:=AN (ps++qs) s'))).trans (List.Perm.swap _ _ _))
   refine AV (fun (y:Int×Bool×Unit) w g=> ∃(ψ:AC),Sub φ ψ∧y.2.1=g.1∧g.2.length=ss.length∧St ψ (fsC n null (ps++qs) g.2 G) w) (g:=e) ?_ ?_
   ·refine BL he (fun i (y:Int×Bool×Unit) w g=>y.1=i∧ ∃(ψ':AC),Sub ψ ψ'∧y.2.1=g.1∧g.2.length=ss.length∧St ψ' (fsC n null (ps++qs) g.2 G) w) ((0:Int),z.2.1,()) rfl ⟨rfl,ψ,Sub.refl _,rfl,hl1,st2⟩ ?_ ?_
    ·rintro i2 z2 w2 ⟨gr2,s2⟩ e2 ⟨rfl,ψ2,le2,hg2,hl2,st3⟩ he2 h02 hlt2 hw2
     dsimp only at hg2 hl2 st3 he2
     subst hg2
     have le02:=le.trans le2
     refine Ag (by rw [nu]; exact decide_eq_true hlt2) ?_
     obtain ⟨sym,hs1,he2⟩:=bS he2
     obtain ⟨tm,ht1,he2⟩:=bS he2
     refine AV (fun (y:Bool×Unit) w (_:Unit)=> ∃(ψ':AC),Sub ψ ψ'∧y.1=e2.1∧e2.2.length=ss.length∧St ψ' (fsC n null (ps++qs) e2.2 G) w) (g:=()) ?_ ?_
     ·obtain ⟨A1,cs1,ea1,hi1,r1,cl1⟩:=(ku.mono le2).get hs1
      refine AF _ ea1 (Ac hi1 ?_)
      obtain rfl:=r1
      refine AH (x:=sym) (AD st3.sub (cl1 0 _ rfl)) rfl ?_
      refine AF _ rfl (OB ((K.mono le02).pv st3) (K.mono le02).pl st3 ht1 ?_)
      intro ψ3 h3 le3 st4
      have le03:=le02.trans le3
      refine AK he2 rfl (fun _ he2=> ?_) (fun _ he2=> ?_)
      ·obtain rfl:=iS he2
       exact Pj (z2.2.1,()) rfl ⟨ψ3,le2.trans le3,rfl,hl2,st4⟩
      ·obtain ⟨hm,he2⟩:=Bw he2
       obtain ⟨gg,hg1,he2⟩:=bS he2
       obtain ⟨hh,hh1,he2⟩:=bS he2
       obtain rfl:=iS he2
       obtain ⟨k,hk⟩: ∃k:Nat,IntKind.wrap .i64 (sym - nT p)=(k:Int):=⟨_,(Int.toNat_of_nonneg hm.1).symm⟩
       have hx:((ps.length:Nat):Int) +(k:Int)=((ps.length+k:Nat):Int):=by omega
       rw [hk,hx] at hg1 hh1
       rw [hk] at hm
       have hkp:k<qs.length:=by omega
       have hpk:qs[k]? =some qs[k] :=List.getElem?_eq_getElem hkp
       refine AF _ rfl ?_
       refine AH (x:=g) ((K.mono le03).at st4 (j:=8) rfl) rfl ?_
       refine AI (Mc (K.mono le03) st4 sym) ?_
       rintro _ h4 ⟨rfl,st5⟩
       refine ⟨_,rfl,?_⟩
       refine AL ((K.mono le03).at st5 (j:=8) rfl) ?_
       rw [hk]
       obtain ⟨A2,cs2,ea2,hi2,r2,cl2⟩:=((K.mono le03).kg).get (i:=(k:Int)) (by rw [Cq]; exact hpk)
       refine AF _ ea2 (Ac hi2 ?_)
       obtain rfl:=r2
       refine AH (x:=qs[k]) (AD st5.sub (cl2 0 _ rfl)) rfl ?_
       refine AA (b:=r9) (j:=1) (x:=u) (raw st5) rfl ?_
       obtain ⟨q1,kt⟩:=(ku.mono (le2.trans le3)).cut (Ps (ku.mono (le2.trans le3)) (lo:=IntKind.wrap .i64 (z2.1+1)) (by rw [hw2]; omega) (by rw [hw2]; omega)) (sz:=1) rfl
       refine Ac q1 ?_
       rw [← hw2] at hg1
       refine AI (Md (gk.mono le03) (K.mono le03) kt (Kq hpk) (hl.trans hl2.symm) hg1 st5) ?_
       rintro _ h5 ⟨ψ5,le5,rfl,hl5,st6⟩
       refine ⟨_,rfl,?_⟩
       have le05:=le03.trans le5
       refine Ao (fun (y:Bool×Unit) w (_:Unit)=>y=(hh.1,())∧hh.2.length=ss.length∧ ∃ψ',Sub ψ ψ'∧St ψ' (fsC n null (ps++qs) hh.2 G) w) (g:=()) ?_ ?_
       ·refine AK hh1 rfl (fun _ hh1=> ?_) (fun _ hh1=> ?_)
        ·obtain ⟨hm2,hh1⟩:=Bw hh1
         obtain ⟨uu,hu,hh1⟩:=bS hh1
         obtain rfl:=iS hh1
         obtain ⟨k2,hk2⟩: ∃k:Nat,IntKind.wrap .i64 (ru.1 - nT p)=(k:Int):=⟨_,(Int.toNat_of_nonneg hm2.1).symm⟩
         have hx2:((ps.length:Nat):Int) +(k2:Int)=((ps.length+k2:Nat):Int):=by omega
         rw [hk2,hx2] at hu
         rw [hk2] at hm2
         have hkp2:k2<qs.length:=by omega
         have hpk2:qs[k2]? =some qs[k2] :=List.getElem?_eq_getElem hkp2
         unfold Rr at hu
         obtain ⟨s,hs,hu⟩:=bS hu
         obtain ⟨o,ho,hu⟩:=bS hu
         obtain ⟨ok,hu⟩:=Bw hu
         obtain rfl:=iS hu
         refine Ao (fun (y:Bool×Unit) w (_:Unit)=>y=(EY s o || gg.1,())∧ ∃ψ',Sub ψ ψ'∧St ψ' (fsC n null (ps++qs) (gg.2.2.set (ps.length+k) (BB s o)) G) w) (g:=()) ?_ ?_
         ·refine AF _ rfl ?_
          refine AH (x:=g) ((K.mono le05).at st6 (j:=8) rfl) rfl ?_
          refine AA (b:=r9) (j:=0) (x:=ru.1) (raw st6) rfl ?_
          refine AI (Mc (K.mono le05) st6 ru.1) ?_
          rintro _ h7 ⟨rfl,st7⟩
          refine ⟨_,rfl,?_⟩
          refine AL ((K.mono le05).at st7 (j:=8) rfl) ?_
          rw [hk2]
          obtain ⟨A3,cs3,ea3,hi3,r3,cl3⟩:=((K.mono le05).kg).get (i:=(k2:Int)) (by rw [Cq]; exact hpk2)
          refine AF _ ea3 (Ac hi3 ?_)
          obtain rfl:=r3
          refine AH (x:=qs[k2]) (AD st7.sub (cl3 0 _ rfl)) rfl ?_
          have st8:St ψ5 (AN (ps++qs) gg.2.2++(cR 4 Ro.bool n null::G)) h7:=st7.perm (List.perm_middle (l₁:=AN (ps++qs) gg.2.2)).symm
          refine AI (Qo (gk.mono le05) (Tg hs) (Tg ho) (Kq hpk) (Kq hpk2) ok st8) ?_
          rintro _ h8 ⟨ψ8,le8,rfl,st9⟩
          refine ⟨_,rfl,?_⟩
          have st10:St ψ8 (fsC n null (ps++qs) (gg.2.2.set (ps.length+k) (BB s o)) G) h8:=st9.perm (List.perm_middle (l₁:=AN (ps++qs) (gg.2.2.set (ps.length+k) (BB s o))))
          have le8':=((le2.trans le3).trans le5).trans le8
          cases hgr:EY s o
          ·exact AY rfl (AS (gg.1,()) rfl ⟨by simp,ψ8,le8',st10⟩)
          ·exact Ag rfl (AS (true,()) rfl ⟨by simp,ψ8,le8',st10⟩)
         ·rintro y h9 ⟨rfl,ψ9,le9,st11⟩
          refine AS (EY s o || gg.1,()) rfl ⟨rfl,by simp [hl5,hl2],ψ9,le9,?_⟩
          rw [Int.toNat_natCast]
          exact st11
        ·obtain rfl:=iS hh1
         exact AS (gg.1,()) rfl ⟨rfl,by rw [hl5,hl2],ψ5,(le2.trans le3).trans le5,st6⟩
       ·rintro y h9 ⟨rfl,hl9,ψ9,le9,st11⟩
        refine Ao (fun (y:Bool×Unit) w (_:Unit)=>y=(z2.2.1 || hh.1,())∧St ψ9 (fsC n null (ps++qs) hh.2 G) w) (g:=()) ?_ ?_
        ·cases hz:z2.2.1
         ·exact AY rfl (AS (hh.1,()) rfl ⟨by simp,st11⟩)
         ·exact Ag rfl (AS (true,()) rfl ⟨by simp,st11⟩)
        ·rintro y h10 ⟨rfl,st12⟩
         exact Nk (z2.2.1 || hh.1,()) rfl ⟨ψ9,le9,rfl,hl9,st12⟩
     ·rintro y h10 ⟨ψ10,le10,hy,hl10,st12⟩
      exact Af (IntKind.wrap .i64 (z2.1+(1:Int)),y.1,()) _ rfl rfl ⟨hw2,ψ10,le10,hy,hl10,st12⟩
    ·rintro i2 z2 w2 ⟨rfl,ψ2,le2,H⟩ hge
     refine AY (by rw [nu]; exact decide_eq_false (Int.not_lt.2 hge)) ?_
     exact AJ (AM z2 rfl ⟨ψ2,le.trans le2,H⟩)
   ·rintro y h10 ⟨ψ10,le10,hy,hl10,st12⟩
    exact Af (IntKind.wrap .i64 (z.1+(1:Int)),y.2.1,()) _ rfl rfl ⟨hw,ψ10,le10,hy,hl10,(raw st12).tail⟩
  ·rintro i z w ⟨rfl,H⟩ hge
   refine AY (by rw [nk]; exact decide_eq_false (Int.not_lt.2 hge)) ?_
   exact AJ (AM z rfl H)
 ·rintro z h1 ⟨ψ,le,hg,hl1,st⟩
  exact AB ⟨ψ,le,by rw [hg]; rfl,hl1,st⟩
end
section
variable {φ ψ:AC} {h:AE} {F:List Chk} {t:Slc×Slc×Slc×Slc×Slc×Slc×Unit} {p:dtP}
theorem St.blk {ty:TypeId} {b:Nat} {vs:List Value} (H:St φ (⟨Rep.raw ty, [.pointer (some ⟨b,0,none⟩)],vs⟩::F) h): ∃ψ,Sub φ ψ∧Cs ψ (some ⟨b,0,none⟩) vs∧St ψ F h:=by
 obtain ⟨ψ,G,le,⟨b',e,hb,hF⟩,hk,s⟩:=St.hide H
 cases e
 refine ⟨ψ,le,fun i v hv=>⟨_,rfl,?_⟩,s⟩
 have:=hk b ((hF b).2 rfl)
 rw [Dl]
 unfold DL
 dsimp only
 rw [this,hb]
 dsimp only
 rw [Nat.zero_add]
 simp [hv]
theorem St.drop: ∀(L:List Chk) {M:List Chk} {φ:AC} {h:AE},St φ (L++M) h→St φ M h
 | [],_,_,_,H=>H
 | _::L,_,_,_,H=>St.drop L H.tail
theorem I4 {b:Nat} {K:Slc→Slc→Slc→Slc→Slc→Slc→T} {P:Be→AE→Prop} (hc: ∀j v,(plV t)[j]? =some v→BF h ⟨b,j,none⟩=some v) (H:(K t.1 t.2.1 t.2.2.1 t.2.2.2.1 t.2.2.2.2.1 t.2.2.2.2.2.1).wp Tryz.prog P h):
 (T.load .slice ⟨b,0,none⟩ fun (t3:Slc)=>T.load .slice ⟨b,1,none⟩ fun (t4:Slc)=>T.load .slice ⟨b,2,none⟩ fun (t5:Slc)=>T.load .slice ⟨b,3,none⟩ fun (t6:Slc)=>T.load .slice ⟨b,4,none⟩ fun (t7:Slc)=>T.load .slice ⟨b,5,none⟩ fun (t8:Slc)=>K t3 t4 t5 t6 t7 t8).wp Tryz.prog P h:=by
 refine AH (x:=t.1) (hc 0 _ rfl) rfl ?_
 refine AH (x:=t.2.1) (hc 1 _ rfl) rfl ?_
 refine AH (x:=t.2.2.1) (hc 2 _ rfl) rfl ?_
 refine AH (x:=t.2.2.2.1) (hc 3 _ rfl) rfl ?_
 refine AH (x:=t.2.2.2.2.1) (hc 4 _ rfl) rfl ?_
 exact AH (x:=t.2.2.2.2.2.1) (hc 5 _ rfl) rfl H
theorem HG (k:PlK φ t p) (s0:St φ F h) {r:List AT} (hd:LG p=some r):
 CallsH Tryz.prog 132 [.agg #[sv t.1,sv t.2.1,sv t.2.2.1,sv t.2.2.2.1,sv t.2.2.2.2.1,sv t.2.2.2.2.2.1]] h
  (Aq fun v h'=> ∃(ψ:AC) (y:Slc) (ps:List (Option Addr)),Sub φ ψ∧v=((.one aS):Sh).val y∧ps.length=r.length∧St ψ (EH y ps::(AN ps r++F)) h'):=by
 refine AQ mixed Tryz.func132 ?_
 rw [Li]
 unfold Jn
 unfold LG at hd
 refine AU (vs:=plV t) s0 ?_
 intro r1 h1 s1
 obtain ⟨φ1,le1,cB,s1⟩:=St.blk s1
 refine AH (x:=t.2.1) (AD s1.sub (cB.at 1 rfl)) rfl ?_
 have n1:t.2.1.2.1=p.2.1.length:=k.k1.length
 have n0:t.1.2.1=p.1.length:=k.k0.length
 refine AV (fun (z:Int×Slc×Unit) w g=> ∃(ψ:AC) (ps:List (Option Addr)),Sub φ ψ∧ps.length=g.length∧St ψ (EH z.2.1 ps::(AN ps g++F)) w) (g:=r) ?_ ?_
 ·refine BL hd (fun i (z:Int×Slc×Unit) w g=>z.1=i∧ ∃(ψ:AC) (ps:List (Option Addr)),Sub φ1 ψ∧ps.length=g.length∧St ψ (EH z.2.1 ps::(AN ps g++F)) w) ((0:Int),((none,0,0):Slc),()) rfl ⟨rfl,φ1, [],Sub.refl _,rfl,St.nil _ _ s1⟩ ?_ ?_
  ·rintro i z w g e ⟨hz,ψ,ps,le,hl,st⟩ he h0 hlt hw
   subst hz
   refine Ag (by rw [n1]; exact decide_eq_true hlt) ?_
   obtain ⟨s,hs1,he⟩:=bS he
   refine AH (x:=t.1) (AD st.sub ((cB.mono le).at 0 rfl)) rfl ?_
   rw [n0]
   refine AI (DU st hs1) ?_
   rintro _ h2 ⟨ψ1,q,l3,le2,rfl,rfl,st1⟩
   refine ⟨q,rfl,?_⟩
   refine AU (vs:= [.pointer q]) st1 ?_
   intro r6 h3 st2
   have cw:=St.cells st2
   obtain ⟨hap,rfl⟩:=Ke he hl q
   refine Am (r:=Ro.pt) (ms:= [q]) NI (st2.tail.at1) rfl cw (.cons (a:= [_]) rfl .nil) rfl hap ?_
   intro t7 h4 st3
   exact Af (IntKind.wrap .i64 (z.1+(1:Int)),t7,()) _ rfl rfl ⟨hw,ψ1,ps++ [q],le.trans le2,by simp [hl],MK hl st3⟩
  ·rintro i z w ⟨hz,ψ,ps,le,H⟩ hge
   subst hz
   refine AY (by rw [n1]; exact decide_eq_false (Int.not_lt.2 hge)) ?_
   exact AJ (AM z rfl ⟨ψ,ps,le1.trans le,H⟩)
 ·rintro z h2 ⟨ψ,ps,le,hl,st⟩
  exact AB ⟨ψ,z.2.1,ps,le,rfl,hl,st⟩
theorem NR (gk:Dg.Glob φ) {l:Slc} {ws pp:List (Option Addr)} {ss ss':List AT} {off:Nat} (kl:Ro.SliceIs Ro.pt φ l ws) (hw: ∀(i:Nat) q,ws[i]? =some q→pp[off+i]? =some q) (hs': ∀(i:Nat) s,ss'[i]? =some s→ss[off+i]? =some s) (hl:ws.length=ss'.length) (s0:St φ (AN pp ss++F) h) {r:List (List Int)} (hd:Ix ss'=some r):
 CallsH Tryz.prog 136 [sv l] h (Aq fun v h'=> ∃(ψ:AC) (y:Slc),Sub φ ψ∧v=((.one aS):Sh).val y∧Ro.SliceIs (Ro.list (Ro.int .i64)) ψ y r∧St ψ (AN pp ss++F) h'):=by
 refine AQ mixed Tryz.func136 ?_
 rw [Lj]
 unfold Jo
 unfold Ix at hd
 have nl:l.2.1=ss'.length:=kl.length.trans hl
 refine AV (fun (z:Int×Slc×Unit) w (g:List (List Int))=> ∃(ψ:AC),Sub φ ψ∧St ψ (P7 z.2.1 g::(AN pp ss++F)) w) (g:=r) ?_ ?_
 ·refine BL hd (fun i (z:Int×Slc×Unit) w (g:List (List Int))=>z.1=i∧ ∃(ψ:AC),Sub φ ψ∧St ψ (P7 z.2.1 g::(AN pp ss++F)) w) ((0:Int),((none,0,0):Slc),()) rfl ⟨rfl,φ,Sub.refl _,St.nil _ _ s0⟩ ?_ ?_
  ·rintro i z w g e ⟨hz,ψ,le,st⟩ he h0 hlt hw2
   subst hz
   refine Ag (by rw [nl]; exact decide_eq_true hlt) ?_
   obtain ⟨s,hs,he⟩:=bS he
   obtain ⟨li,hli,he⟩:=bS he
   obtain ⟨i0,i1,i2⟩:=Ct hs
   have hlt2:z.1.toNat<ws.length:=by omega
   have hp:=List.getElem?_eq_getElem hlt2
   obtain ⟨A1,cs1,ea1,hi1,r1,cl1⟩:=(kl.mono le).get (JC i0 hlt2)
   refine AF _ ea1 (Ac hi1 ?_)
   obtain rfl:=r1
   refine AH (x:=ws[z.1.toNat]) (AD st.sub (cl1 0 _ rfl)) rfl ?_
   have st1:St ψ (AN pp ss++(P7 z.2.1 g::F)) w:=st.perm (List.perm_middle (l₁:=AN pp ss)).symm
   obtain ⟨rr,q1,q2⟩:=GD (hw _ _ hp) (hs' _ _ i2) st1
   refine AI (Kf (gk.mono le) q1 hli) ?_
   rintro _ h2 ⟨ψ2,y,le2,rfl,k2,st2⟩
   refine ⟨y,rfl,?_⟩
   have st3:=q2 ψ2 h2 [] st2
   have st4:St ψ2 (P7 z.2.1 g::(AN pp ss++F)) h2:=st3.perm (List.perm_middle (l₁:=AN pp ss))
   refine AU (vs:= [sv y]) st4 ?_
   intro r6 h3 st5
   have cw:=St.cells st5
   refine Am (r:=Ro.list (Ro.int .i64)) (ms:= [li]) Qn st5.tail rfl cw (.cons (a:= [_]) ⟨y,rfl,k2⟩ .nil) rfl he ?_
   intro t7 h4 st6
   exact Af (IntKind.wrap .i64 (z.1+(1:Int)),t7,()) _ rfl rfl ⟨hw2,ψ2,le.trans le2,st6⟩
  ·rintro i z w ⟨hz,H⟩ hge
   subst hz
   refine AY (by rw [nl]; exact decide_eq_false (Int.not_lt.2 hge)) ?_
   exact AJ (AM z rfl H)
 ·rintro z h2 ⟨ψ,le,st⟩
  obtain ⟨ψ2,le2,k2,st2⟩:=st.freezeRow
  exact AB ⟨ψ2,z.2.1,le.trans le2,rfl,k2,st2⟩
end
noncomputable def QN (r1 r2 r25:Nat):T:=
 T.block 0 [aI]
 (T.loop [aI] [(.int .i64 (1:Int))] fun (z27:Int×Unit)=>
 T.call 133 [(.pointer (some ⟨r25,0,none⟩))] (.one aB) fun (t28:Bool)=>
 cond t28
 (T.out [(.int .i64 (IntKind.wrap .i64 (z27.1+(1:Int))))])
 (T.brk 0 [(.int .i64 z27.1)])) fun (z26:Int×Unit)=>
 T.load .slice ⟨r25,8,none⟩ fun (t29:Slc)=>
 T.load .slice ⟨r1,1,none⟩ fun (t30:Slc)=>
 deref t29.1 fun a31=>
 chk (0≤((t30.2.1:Nat):Int)∧((t30.2.1:Nat):Int) < (t29.2.1:Nat)) <|
 T.load .pointer (a31.add (Int.toNat ((t30.2.1:Nat):Int) * 1)) fun (t32:Option Addr)=>
 T.call 134 [(.pointer t32),(.int .i64 (0:Int))] (.one aB) fun (t33:Bool)=>
 T.block 2 []
 (T.loop [] [] fun (z35:Unit)=>
 T.call 135 [(.pointer (some ⟨r25,0,none⟩))] (.one aB) fun (t36:Bool)=>
 cond t36
 (T.out [])
 (T.brk 2 [])) fun (z34:Unit)=>
 T.load .slice ⟨r25,6,none⟩ fun (t37:Slc)=>
 T.load .slice ⟨r25,7,none⟩ fun (t38:Slc)=>
 T.load .slice ⟨r25,8,none⟩ fun (t39:Slc)=>
 T.call 136 [(sv t38)] (.one aS) fun (t40:Slc)=>
 T.still ⟨r25,8,none⟩ (sv t39) <|
 T.still ⟨r25,6,none⟩ (sv t37) <|
 T.call 136 [(sv t39)] (.one aS) fun (t41:Slc)=>
 T.still ⟨r25,6,none⟩ (sv t37) <|
 T.store ⟨r2,0,none⟩ (sv t37) <|
 T.store ⟨r2,1,none⟩ (sv t40) <|
 T.store ⟨r2,2,none⟩ (sv t41) <|
 T.store ⟨r2,3,none⟩ (.int .i64 z26.1) <|
 T.load .slice ⟨r2,0,none⟩ fun (res42:Slc)=>
 T.load .slice ⟨r2,1,none⟩ fun (res43:Slc)=>
 T.load .slice ⟨r2,2,none⟩ fun (res44:Slc)=>
 T.load (.int .i64) ⟨r2,3,none⟩ fun (res45:Int)=>
 T.ret (.agg #[(sv res42),(sv res43),(sv res44),(.int .i64 res45)])
abbrev QO (φ:AC) (F:List Chk) (r:dtF):Value→AE→Prop:=fun v h'=> ∃(ψ:AC) (y:Slc×Slc×Slc×Int×Unit),Sub φ ψ∧v=((.one (.agg [.slice, .slice, .slice, .int .i64])):Sh).val y∧
 Ro.SliceIs Ro.bool ψ y.1 r.1∧Ro.SliceIs (Ro.list (Ro.int .i64)) ψ y.2.1 r.2.1∧Ro.SliceIs (Ro.list (Ro.int .i64)) ψ y.2.2.1 r.2.2.1∧y.2.2.2.1=r.2.2.2∧St ψ F h'
noncomputable def JL (p:dtP) (m:Nat) (null:List Bool) (ss:List AT):Option dtF:=
 (loop (σ:=Int×List Bool×List AT) (β:=Int×List Bool×List AT) (1,null,ss) fun z=>
  (MZ p ((m:Nat):Int) z.2.1 z.2.2).bind fun r=>cond r.1 (some (.next (IntKind.wrap .i64 (z.1+1),r.2))) (some (.done (z.1,r.2)))).bind fun z=>
 (idx (z.2.2.drop m) ((p.2.1.length:Nat):Int)).bind fun s=>(Ap s 0).bind fun a=>
 (loop (σ:=List AT) (β:=List AT) (z.2.2.set (m+p.2.1.length) a.2) fun ss=>
  (Km p ((m:Nat):Int) z.2.1 ss).bind fun r=>cond r.1 (some (.next r.2)) (some (.done r.2))).bind fun ss=>
 (Ix (ss.take m)).bind fun a=>(Ix (ss.drop m)).bind fun b=>some (z.2.1,a,b,z.1)
section
variable {φ φ0 ψ:AC} {h:AE} {F:List Chk} {t:Slc×Slc×Slc×Slc×Slc×Slc×Unit} {n f g:Slc} {p:dtP} {ps qs:List (Option Addr)}
set_option maxHeartbeats 2000000 in
theorem Um (gk:Dg.Glob φ) (le0:Sub φ0 φ) {r1 r2 r25:Nat} (cB:Cs φ (some ⟨r1,0,none⟩) (plV t)) (K:FsK φ ⟨r25,0,none⟩ t n f g p ps qs) (hpq:qs.length=ps.length) {null:List Bool} {ss:List AT} (hl:(ps++qs).length=ss.length) {r:dtF} (hd:JL p ps.length null ss=some r)
 (s0:St φ (fsC n null (ps++qs) ss (⟨Rep.raw 133, [.pointer (some ⟨r2,0,none⟩)], [.slice none 0 0, .slice none 0 0, .slice none 0 0, .int .i64 0]⟩::F)) h):(QN r1 r2 r25).wp Tryz.prog (Ly (Aq (QO φ0 F r))) h:=by
 unfold QN
 unfold JL at hd
 obtain ⟨z,hz,hd⟩:=bS hd
 obtain ⟨s,hs,hd⟩:=bS hd
 obtain ⟨a,ha,hd⟩:=bS hd
 obtain ⟨sf,hsf,hd⟩:=bS hd
 obtain ⟨la,hla,hd⟩:=bS hd
 obtain ⟨lb,hlb,hd⟩:=bS hd
 obtain rfl:=iS hd
 obtain ⟨G,hG⟩: ∃G:List Chk,G=⟨Rep.raw 133, [.pointer (some ⟨r2,0,none⟩)], [.slice none 0 0, .slice none 0 0, .slice none 0 0, .int .i64 0]⟩::F:=⟨_,rfl⟩
 rw [← hG] at s0
 refine AV (fun (y:Int×Unit) w g=> ∃(ψ:AC),Sub φ ψ∧y.1=g.1∧g.2.2.length=ss.length∧St ψ (fsC n g.2.1 (ps++qs) g.2.2 G) w) (g:=z) ?_ ?_
 ·refine EM hz (fun (y:Int×Unit) w g=> ∃(ψ:AC),Sub φ ψ∧y.1=g.1∧g.2.2.length=ss.length∧St ψ (fsC n g.2.1 (ps++qs) g.2.2 G) w) ((1:Int),()) rfl ⟨φ,Sub.refl _,rfl,rfl,s0⟩ ?_
  rintro y w ⟨gc,gn,gs⟩ e ⟨ψ,le,rfl,hl1,st⟩ he hb
  dsimp only at he hl1 st
  obtain ⟨rr,hr,he⟩:=bS he
  refine AI (Rv (gk.mono le) (K.mono le) (hl.trans hl1.symm) hr st) ?_
  rintro _ h1 ⟨ψ1,le1,rfl,hl2,st1⟩
  refine ⟨_,rfl,?_⟩
  refine AK he rfl (fun _ he=> ?_) (fun _ he=> ?_)
  ·obtain rfl:=iS he
   exact Af (IntKind.wrap .i64 (y.1+(1:Int)),()) _ rfl rfl ⟨ψ1,le.trans le1,rfl,hl2.trans hl1,st1⟩
  ·obtain rfl:=iS he
   obtain rfl:=hb _ rfl
   exact AJ (AM (y.1,()) rfl ⟨ψ1,le.trans le1,rfl,hl2.trans hl1,st1⟩)
 ·rintro y1 h1 ⟨ψ1,le1,hy1,hl1,st1⟩
  refine AH (x:=g) ((K.mono le1).at st1 (j:=8) rfl) rfl ?_
  refine AH (x:=t.2.1) (AD st1.sub ((cB.mono le1).at 1 rfl)) rfl ?_
  have n1:t.2.1.2.1=p.2.1.length:=K.pl.k1.length
  rw [n1]
  obtain ⟨i0,i1,i2⟩:=Ct hs
  rw [Int.toNat_natCast] at i2
  rw [List.getElem?_drop] at i2
  have hlt:p.2.1.length<qs.length:=by
   rw [List.length_drop] at i1
   rw [List.length_append] at hl
   omega
  have hq:=List.getElem?_eq_getElem hlt
  obtain ⟨A2,cs2,ea2,hi2,q2,cl2⟩:=((K.mono le1).kg).get (i:=((p.2.1.length:Nat):Int)) (by rw [Cq]; exact hq)
  refine AF _ ea2 (Ac hi2 ?_)
  obtain rfl:=q2
  refine AH (x:=qs[p.2.1.length]) (AD st1.sub (cl2 0 _ rfl)) rfl ?_
  obtain ⟨rs,a1,a2⟩:=Dw (Kq (ps:=ps) hq) i2
  have st2:St ψ1 (BN qs[p.2.1.length] s::(rs++(cR 4 Ro.bool n z.2.1::G))) h1:=(st1.perm (List.perm_middle (l₁:=AN (ps++qs) z.2.2)).symm).perm (List.Perm.append_right _ a1)
  refine AI (B8 st2 ha) ?_
  rintro _ h2 ⟨ψ2,y,l2,le2,rfl,e2,st3⟩
  refine ⟨_,rfl,?_⟩
  have e2':l2=a.2:=by rw [← e2]
  subst e2'
  have le12:=le1.trans le2
  have st4:St ψ2 (fsC n z.2.1 (ps++qs) (z.2.2.set (ps.length+p.2.1.length) a.2) G) h2:=(st3.perm (List.Perm.append_right _ (a2 a.2)).symm).perm (List.perm_middle (l₁:=AN (ps++qs) (z.2.2.set (ps.length+p.2.1.length) a.2)))
  refine AV (fun (y:Unit) w g=> ∃(ψ:AC),Sub φ ψ∧g.length=ss.length∧St ψ (fsC n z.2.1 (ps++qs) g G) w) (g:=sf) ?_ ?_
  ·refine EM hsf (fun (y:Unit) w g=> ∃(ψ:AC),Sub φ ψ∧g.length=ss.length∧St ψ (fsC n z.2.1 (ps++qs) g G) w) () rfl ⟨ψ2,le12,by simp [hl1],st4⟩ ?_
   rintro y w gs e ⟨ψ,le,hl3,st⟩ he hb
   obtain ⟨rr,hr,he⟩:=bS he
   refine AI (QM (gk.mono le) (K.mono le) hpq (hl.trans hl3.symm) hr st) ?_
   rintro _ h3 ⟨ψ3,le3,rfl,hl4,st5⟩
   refine ⟨_,rfl,?_⟩
   refine AK he rfl (fun _ he=> ?_) (fun _ he=> ?_)
   ·obtain rfl:=iS he
    exact Af () _ rfl rfl ⟨ψ3,le.trans le3,hl4.trans hl3,st5⟩
   ·obtain rfl:=iS he
    obtain rfl:=hb _ rfl
    exact AJ (AM () rfl ⟨ψ3,le.trans le3,hl4.trans hl3,st5⟩)
  ·rintro _ h3 ⟨ψ3,le3,hl3,st5⟩
   obtain ⟨ψ4,le4,kn,st6⟩:=St.freezeRow (t:=n) st5
   have le34:=le3.trans le4
   refine AH (x:=n) ((K.mono le34).at st6 (j:=6) rfl) rfl ?_
   refine AH (x:=f) ((K.mono le34).at st6 (j:=7) rfl) rfl ?_
   refine AH (x:=g) ((K.mono le34).at st6 (j:=8) rfl) rfl ?_
   have hlen:sf.length=ps.length+qs.length:=by rw [hl3,← hl,List.length_append]
   refine AI (NR (gk.mono le34) (off:=0) (K.mono le34).kf (fun i q hi=>by rw [Nat.zero_add]; exact QL hi) (fun i s hi=>by
    rw [List.getElem?_take] at hi
    split at hi
    ·rw [Nat.zero_add]; exact hi
    ·cases hi) (by simp; omega) st6 hla) ?_
   rintro _ h4 ⟨ψ5,y5,le5,rfl,k5,st7⟩
   refine ⟨y5,rfl,?_⟩
   have le35:=le34.trans le5
   refine AL ((K.mono le35).at st7 (j:=8) rfl) ?_
   refine AL ((K.mono le35).at st7 (j:=6) rfl) ?_
   refine AI (NR (gk.mono le35) (off:=ps.length) (K.mono le35).kg (fun i q hi=>Kq hi) (fun i s hi=>by
    rw [List.getElem?_drop] at hi; exact hi) (by simp; omega) st7 hlb) ?_
   rintro _ h5 ⟨ψ6,y6,le6,rfl,k6,st8⟩
   refine ⟨y6,rfl,?_⟩
   have le36:=le35.trans le6
   refine AL ((K.mono le36).at st8 (j:=6) rfl) ?_
   have st9:=St.drop _ st8
   rw [hG] at st9
   refine CI (b:=r2) (j:=0) (v:=sv n) st9 rfl (by simp) ?_
   intro h6 st10
   refine CI (b:=r2) (j:=1) (v:=sv y5) st10 rfl (by simp) ?_
   intro h7 st11
   refine CI (b:=r2) (j:=2) (v:=sv y6) st11 rfl (by simp) ?_
   intro h8 st12
   refine CI (b:=r2) (j:=3) (v:= .int .i64 y1.1) st12 rfl (by simp) ?_
   intro h9 st13
   refine AA (b:=r2) (j:=0) (x:=n) st13 rfl ?_
   refine AA (b:=r2) (j:=1) (x:=y5) st13 rfl ?_
   refine AA (b:=r2) (j:=2) (x:=y6) st13 rfl ?_
   refine AA (b:=r2) (j:=3) (x:=y1.1) st13 rfl ?_
   exact AB ⟨ψ6,(n,y5,y6,y1.1,()),le0.trans le36,rfl,kn.mono (le5.trans le6),k5.mono le6,k6,hy1,st13.tail⟩
theorem QP:NA Tryz.prog 60 4 (.bool false):=⟨Tryz.underlying60,⟨Tryz.t4,by kernel_rfl,rfl,⟨_,rfl,rfl⟩,by decide⟩⟩
theorem QQ (gk:Dg.Glob φ) (le0:Sub φ0 φ) {r1 r2:Nat} (cB:Cs φ (some ⟨r1,0,none⟩) (plV t)) (k:PlK φ t p) {null:List Bool} {s1 s2:List AT} (h1:ps.length=s1.length) (h2:qs.length=s2.length) (h3:s2.length=s1.length) {r:dtF} (hd:JL p s1.length null (s1++s2)=some r)
 (s0:St φ (EH f ps::EH g qs::cR 4 Ro.bool n null::(AN ps s1++(AN qs s2++(⟨Rep.raw 133, [.pointer (some ⟨r2,0,none⟩)], [.slice none 0 0, .slice none 0 0, .slice none 0 0, .int .i64 0]⟩::F)))) h):
 (T.new (.cells #[sv t.1,sv t.2.1,sv t.2.2.1,sv t.2.2.2.1,sv t.2.2.2.2.1,sv t.2.2.2.2.2.1,sv n,sv f,sv g] 221 (0,0)) fun r25=>QN r1 r2 r25).wp Tryz.prog (Ly (Aq (QO φ0 F r))) h:=by
 refine AU (vs:=plV t++ [sv n,sv f,sv g]) s0 ?_
 intro r25 h4 st1
 obtain ⟨ψ1,le1,c1,st2⟩:=St.blk st1
 obtain ⟨ψ2,le2,kf,st3⟩:=St.freezeRow (t:=f) st2
 obtain ⟨ψ3,le3,kg,st4⟩:=St.freezeRow (t:=g) st3
 have le13:=(le1.trans le2).trans le3
 refine Um (ps:=ps) (qs:=qs) (f:=f) (g:=g) (n:=n) (t:=t) (gk.mono le13) (le0.trans le13) (cB.mono le13) ⟨c1.mono (le2.trans le3),k.mono le13,kf.mono le3,kg⟩ (by omega) (null:=null) (ss:=s1++s2) (by rw [List.length_append,List.length_append,h1,h2]) (by rw [h1]; exact hd) ?_
 have e:AN (ps++qs) (s1++s2)=AN ps s1++AN qs s2:=by
  unfold AN
  exact List.zipWith_append h1
 show St ψ3 (cR 4 Ro.bool n null::(AN (ps++qs) (s1++s2) ++_)) h4
 rw [e,List.append_assoc]
 exact st4
theorem WW (a c n:Chk) (B D G:List Chk):(a::(B++(c::(D++(n::G))))).Perm (c::a::n::(D++(B++G))):=
 (List.Perm.cons a (List.perm_middle.trans (List.Perm.cons c ((List.Perm.append_left B List.perm_middle).trans (List.perm_middle.trans (List.Perm.cons n (by rw [← List.append_assoc,← List.append_assoc]; exact List.Perm.append_right _ List.perm_append_comm))))))).trans (List.Perm.swap _ _ _)
theorem WX (a c n:Chk) (B D G:List Chk):(a::(B++(n::c::(D++G)))).Perm (c::a::n::(D++(B++G))):=
 (List.Perm.cons a (List.perm_middle.trans ((List.Perm.cons n (List.perm_middle.trans (List.Perm.cons c (by rw [← List.append_assoc,← List.append_assoc]; exact List.Perm.append_right _ List.perm_append_comm)))).trans (List.Perm.swap _ _ _)))).trans (List.Perm.swap _ _ _)
theorem WY (a c n:Chk) (B D G:List Chk):(n::a::(B++(c::(D++G)))).Perm (c::a::n::(D++(B++G))):=
 (List.Perm.swap _ _ _).trans (((List.Perm.cons a ((List.Perm.cons n (List.perm_middle.trans (List.Perm.cons c (by rw [← List.append_assoc,← List.append_assoc]; exact List.Perm.append_right _ List.perm_append_comm)))).trans (List.Perm.swap _ _ _)))).trans (List.Perm.swap _ _ _))
set_option maxHeartbeats 2000000 in
theorem OC (gk:Dg.Glob φ) (k:PlK φ t p) (s0:St φ F h) {r:dtF} (hd:Ma p=some r):
 CallsH Tryz.prog 106 [.agg #[sv t.1,sv t.2.1,sv t.2.2.1,sv t.2.2.2.1,sv t.2.2.2.2.1,sv t.2.2.2.2.2.1]] h (Aq (QO φ F r)):=by
 refine AQ mixed Tryz.func106 ?_
 rw [OA]
 unfold Mb
 unfold Ma at hd
 obtain ⟨null,hn,hd⟩:=bS hd
 obtain ⟨f1,hf1,hd⟩:=bS hd
 obtain ⟨g1,hg1,hd⟩:=bS hd
 obtain rfl:f1=g1:=by rw [hf1] at hg1; exact iS hg1
 have hd:JL p f1.length null (f1++f1)=some r:=hd
 refine AU (vs:=plV t) s0 ?_
 intro r1 h1 s1
 obtain ⟨φ1,le1,cB,s1⟩:=St.blk s1
 refine AU (vs:= [.slice none 0 0, .slice none 0 0, .slice none 0 0, .int .i64 0]) s1 ?_
 intro r2 h2 s2
 have n1:t.2.1.2.1=p.2.1.length:=k.k1.length
 have hc: ∀ {ψ:AC} {Γ:List Chk} {h':AE},Sub φ1 ψ→St ψ Γ h'→ ∀j v,(plV t)[j]? =some v→BF h' ⟨r1,j,none⟩=some v:=fun {ψ Γ h'} le st j v hv=>by
  have:=AD st.sub ((cB.mono le).at j hv)
  rw [Dl,Nat.zero_add] at this
  exact this
 have hc2:=hc (Sub.refl _) s2
 refine I4 hc2 ?_
 refine AH (x:=t.2.1) (hc2 1 _ rfl) rfl ?_
 refine I4 hc2 ?_
 refine I4 hc2 ?_
 have k1:=k.mono le1
 have gk1:=gk.mono le1
 have mk:E0 (IntKind.wrap .i64 (((t.2.1.2.1:Nat):Int) +1)) false=some null:=by rw [n1]; exact hn
 refine FO ?_ ?_
 ·refine IW (r:=Ro.bool) (x:=false) QP s2 rfl rfl mk ?_
  intro n h3 s3
  have hc3:=hc (Sub.refl _) s3
  repeat refine AL (hc3 _ _ rfl) ?_
  refine AI (HG k1 s3 hf1) ?_
  rintro _ h4 ⟨ψ4,f,ps,le4,rfl,hl4,s4⟩
  refine ⟨f,rfl,?_⟩
  have hc4:=hc le4 s4
  repeat refine AL (hc4 _ _ rfl) ?_
  refine AI (HG (k1.mono le4) s4 hf1) ?_
  rintro _ h5 ⟨ψ5,g,qs,le5,rfl,hl5,s5⟩
  refine ⟨g,rfl,?_⟩
  have hc5:=hc (le4.trans le5) s5
  repeat refine AL (hc5 _ _ rfl) ?_
  exact QQ (f:=f) (g:=g) (n:=n) (ps:=ps) (qs:=qs) (gk1.mono (le4.trans le5)) (le1.trans (le4.trans le5)) (cB.mono (le4.trans le5)) (k1.mono (le4.trans le5)) hl4 hl5 rfl hd (s5.perm (WW _ _ _ _ _ _))
 ·refine AI (HG k1 s2 hf1) ?_
  rintro _ h4 ⟨ψ4,f,ps,le4,rfl,hl4,s4⟩
  refine ⟨f,rfl,?_⟩
  have hc4:=hc le4 s4
  repeat refine AL (hc4 _ _ rfl) ?_
  refine FO ?_ ?_
  ·refine IW (r:=Ro.bool) (x:=false) QP s4 rfl rfl mk ?_
   intro n h3 s3
   have hc3:=hc le4 s3
   repeat refine AL (hc3 _ _ rfl) ?_
   refine AI (HG (k1.mono le4) s3 hf1) ?_
   rintro _ h5 ⟨ψ5,g,qs,le5,rfl,hl5,s5⟩
   refine ⟨g,rfl,?_⟩
   have hc5:=hc (le4.trans le5) s5
   repeat refine AL (hc5 _ _ rfl) ?_
   exact QQ (f:=f) (g:=g) (n:=n) (ps:=ps) (qs:=qs) (gk1.mono (le4.trans le5)) (le1.trans (le4.trans le5)) (cB.mono (le4.trans le5)) (k1.mono (le4.trans le5)) hl4 hl5 rfl hd (s5.perm (WX _ _ _ _ _ _))
  ·refine AI (HG (k1.mono le4) s4 hf1) ?_
   rintro _ h5 ⟨ψ5,g,qs,le5,rfl,hl5,s5⟩
   refine ⟨g,rfl,?_⟩
   have hc5:=hc (le4.trans le5) s5
   repeat refine AL (hc5 _ _ rfl) ?_
   refine IW (r:=Ro.bool) (x:=false) QP s5 rfl rfl mk ?_
   intro n h3 s3
   have hc3:=hc (le4.trans le5) s3
   repeat refine AL (hc3 _ _ rfl) ?_
   exact QQ (f:=f) (g:=g) (n:=n) (ps:=ps) (qs:=qs) (gk1.mono (le4.trans le5)) (le1.trans (le4.trans le5)) (cB.mono (le4.trans le5)) (k1.mono (le4.trans le5)) hl4 hl5 rfl hd (s3.perm (WY _ _ _ _ _ _))
end
end Go.Proofs.YteolcjbobmpdiaaGreatDoor
namespace Go.Proofs.YteolcjbobmpdiaaGreatDoor
open Go Go.Eng
set_option linter.unusedVariables false
set_option maxRecDepth 100000
theorem QR:Gu Tryz.prog 54 54 73 2:=⟨Tryz.underlying54, .inl Tryz.underlying54,⟨Tryz.t73,by kernel_rfl,rfl,⟨_,rfl,rfl⟩,by decide,by decide⟩,by decide⟩
noncomputable def Ch (f_0:VB) (p_1:Ax) (seq_2:List Int):Option (List Int×Bool):=
 (Bj (((List.length p_1.1):Nat):Int)).bind fun t4=>
 (Cv (σ:=CP) (β:=(List Int×Bool)) (0:Int) (((List.length seq_2):Nat):Int) t4 fun i_z6 z6=>
  (((idx seq_2 i_z6).bind fun e56=>
  (BV (p_1.1,p_1.2.1,p_1.2.2.1,p_1.2.2.2.1,p_1.2.2.2.2.1,p_1.2.2.2.2.2) e56).bind fun t16=>
  cond t16
  ((Ap z6 e56).bind fun t17=>
   (NK t17.2).bind fun t18=>
   some (AW.done (t18,false)))
  ((cond (decide ((IntKind.wrap .i64 (e56 - (((List.length p_1.1):Nat):Int))) < (0:Int)))
   (some true)
   (some (decide ((IntKind.wrap .i64 (e56 - (((List.length p_1.1):Nat):Int))) ≥ (((List.length f_0.2.1):Nat):Int))))).bind fun z20=>
   cond z20
   (some (AW.next z6))
   ((idx f_0.2.1 (IntKind.wrap .i64 (e56 - (((List.length p_1.1):Nat):Int)))).bind fun e103=>
    (CQ (((List.length p_1.1):Nat):Int) e103).bind fun t26=>
    (N2 z6 t26).bind fun t27=>
    (idx f_0.1 (IntKind.wrap .i64 (e56 - (((List.length p_1.1):Nat):Int)))).bind fun e121=>
    cond (!e121)
    ((NK t27.2).bind fun t31=>
     some (AW.done (t31,false)))
    (some (AW.next t27.2))))):Option (AW CP (List Int×Bool))).bind fun e_z7=>match e_z7 with
  | .next z7=>
   some (AW.next z7)
  | .done q150=>some (AW.done q150)).bind fun e_z5=>match e_z5 with
 | .next z5=>
  (NK z5).bind fun t32=>
  some (t32,true)
 | .done q179=>some q179
theorem Jf {φ:AC} {h:AE} {F:List Chk} {f_0:Slc×Slc×Slc×Int×Unit} {z:List Bool} {q:List (List Int)} {a0:List (List Int)} {p_1:Slc×Slc×Slc×Slc×Slc×Slc×Unit} {s:List ByteArray} {a1:List ByteArray} {a2:List BA} {a3:List Int} {a4:List Int} {a5:List ByteArray} {seq_2:Slc} {t:List Int} (gk:Dg.Glob φ) (ap:Ro.SliceIs Ro.bool φ f_0.1 z) (a6:Ro.SliceIs (Ro.list (Ro.int .i64)) φ f_0.2.1 q) (cg:Ro.SliceIs (Ro.list (Ro.int .i64)) φ f_0.2.2.1 a0) (a7:Ro.SliceIs Ro.str φ p_1.1 s) (aq:Ro.SliceIs Ro.str φ p_1.2.1 a1) (ar:Ro.SliceIs CA φ p_1.2.2.1 a2) (au:Ro.SliceIs (Ro.int .i64) φ p_1.2.2.2.1 a3) (av:Ro.SliceIs (Ro.int .i64) φ p_1.2.2.2.2.1 a4) (aw:Ro.SliceIs Ro.str φ p_1.2.2.2.2.2.1 a5) (a8:Ro.SliceIs (Ro.int .i64) φ seq_2 t) (s0:St φ (F) h) {r:(List Int×Bool)} (hd:Ch (z,q,a0,f_0.2.2.2.1) (s,a1,a2,a3,a4,a5) t=some r):
 CallsH Tryz.prog 146 [(.agg #[(sv f_0.1),(sv f_0.2.1),(sv f_0.2.2.1),(.int .i64 f_0.2.2.2.1)]),(.agg #[(sv p_1.1),(sv p_1.2.1),(sv p_1.2.2.1),(sv p_1.2.2.2.1),(sv p_1.2.2.2.2.1),(sv p_1.2.2.2.2.2.1)]),(sv seq_2)] h (Aq fun v h'=> ∃ψ:AC,∃y:Slc×Bool×Unit,∃a9:List Int,Sub φ ψ∧v=((.tuple [aS,aB]):Sh).val y∧(a9,y.2.1)=r∧Ro.SliceIs (Ro.int .i64) ψ y.1 a9∧St ψ (F) h'):=by
 refine AQ mixed Tryz.func146 ?_
 rw [Ja]
 unfold Gf
 unfold Ch at hd
 have ax:f_0.2.1.2.1=List.length q:=a6.length
 have j:p_1.1.2.1=List.length s:=a7.length
 have aa:seq_2.2.1=List.length t:=a8.length
 refine AU (vs:= [sv f_0.1,sv f_0.2.1,sv f_0.2.2.1, .int .i64 f_0.2.2.2.1]) s0 fun r1 ch ay=> ?_
 refine AU (vs:= [sv p_1.1,sv p_1.2.1,sv p_1.2.2.1,sv p_1.2.2.2.1,sv p_1.2.2.2.2.1,sv p_1.2.2.2.2.2.1]) ay fun r2 ci ab=> ?_
 refine AA (x:=p_1.1) ab rfl ?_
 obtain ⟨cj,ac,hd⟩:=bS hd
 rw [← j] at ac
 refine AI (DU ab ac) ?_
 rintro _ ck ⟨u,t4,az,b,rfl,rfl,b0⟩
 refine ⟨t4,rfl,?_⟩
 obtain ⟨b1,b2,hd⟩:=bS hd
 refine AV (fun (y:Int×Bool×Slc×Unit) w_ g=> ∃ψ:AC,∃ad:CP,Sub u ψ∧AW.next ad=g∧St ψ (cO 239 DC t4 ad::cW 32 r2 [sv p_1.1,sv p_1.2.1,sv p_1.2.2.1,sv p_1.2.2.2.1,sv p_1.2.2.2.2.1,sv p_1.2.2.2.2.2.1] ::cW 133 r1 [sv f_0.1,sv f_0.2.1,sv f_0.2.2.1, .int .i64 f_0.2.2.2.1] ::F) w_) (g:=b1) ?_ ?_
 ·refine Bq b2 (fun b3 (y:Int×Bool×Slc×Unit) w_ g=> ∃ψ:AC,∃ae:CP,Sub u ψ∧y.1=b3∧ae=g∧St ψ (cO 239 DC t4 ae::cW 32 r2 [sv p_1.1,sv p_1.2.1,sv p_1.2.2.1,sv p_1.2.2.2.1,sv p_1.2.2.2.2.1,sv p_1.2.2.2.2.2.1] ::cW 133 r1 [sv f_0.1,sv f_0.2.1,sv f_0.2.2.1, .int .i64 f_0.2.2.2.1] ::F) w_) ((0:Int),false,((none,0,0):Slc),()) rfl ⟨u,az,(Sub.refl _),rfl,rfl,b0.at2.at2.at2⟩ ?_ ?_
  ·rintro _ z6 cl _ _ ⟨b4,af,c,rfl,rfl,f⟩ e b5 ag ah ai
   try dsimp only at e b5 ag ah
   refine Ag (dT aa ag) ?_
   obtain ⟨b6,a,e⟩:=bS e
   refine AV (fun (y:Bool×Slc×Unit) w_ g=> ∃ψ:AC,∃aj:CP,Sub b4 ψ∧AW.next aj=g∧St ψ (cO 239 DC t4 aj::cW 32 r2 [sv p_1.1,sv p_1.2.1,sv p_1.2.2.1,sv p_1.2.2.2.1,sv p_1.2.2.2.2.1,sv p_1.2.2.2.2.2.1] ::cW 133 r1 [sv f_0.1,sv f_0.2.1,sv f_0.2.2.1, .int .i64 f_0.2.2.2.1] ::F) w_) (g:=b6) ?_ ?_
   ·obtain ⟨b7,b8,a⟩:=bS a
    refine DM a8 b8 (Sub.trans (b.trans c) f.sub) ?_
    refine AA (x:=p_1.1) f.at1 rfl ?_
    refine AA (x:=p_1.2.1) f.at1 rfl ?_
    refine AA (x:=p_1.2.2.1) f.at1 rfl ?_
    refine AA (x:=p_1.2.2.2.1) f.at1 rfl ?_
    refine AA (x:=p_1.2.2.2.2.1) f.at1 rfl ?_
    refine AA (x:=p_1.2.2.2.2.2.1) f.at1 rfl ?_
    obtain ⟨cm,b9,a⟩:=bS a
    refine AI (ET (p_0:=(p_1.1,p_1.2.1,p_1.2.2.1,p_1.2.2.2.1,p_1.2.2.2.2.1,p_1.2.2.2.2.2.1,())) (a7.mono (b.trans c)) (aq.mono (b.trans c)) (ar.mono (b.trans c)) (au.mono (b.trans c)) (av.mono (b.trans c)) (aw.mono (b.trans c)) f b9) ?_
    rintro _ cn ⟨w,t16,d,rfl,rfl,k⟩
    refine ⟨t16,rfl,?_⟩
    refine AK a rfl (fun _ a=> ?_) (fun _ a=> ?_)
    ·obtain ⟨co,ba,a⟩:=bS a
     refine AI (B8 k ba) ?_
     rintro _ cp ⟨cq,t17,cr,ak,rfl,rfl,bb⟩
     refine ⟨t17,rfl,?_⟩
     try dsimp only at a
     obtain ⟨cs,bc,a⟩:=bS a
     refine AI (K9 (gk.mono (((b.trans c).trans d).trans ak)) bb bc) ?_
     rintro _ ct ⟨bd,t18,be,bf,rfl,rfl,bg,bh⟩
     refine ⟨t18,rfl,?_⟩
     obtain rfl:=iS a
     try dsimp only at e
     obtain rfl:=iS e
     obtain rfl:=ai _ rfl
     try dsimp only at hd
     obtain rfl:=iS hd
     exact An (Ah (An (AB ⟨bd,(t18,false,()),be,((((b.trans c).trans d).trans ak).trans bf),rfl,rfl,bg,bh.tail.tail.tail⟩)))
    refine AA (x:=p_1.1) k.at1 rfl ?_
    obtain ⟨bi,l,a⟩:=bS a
    refine Ao (fun (y:Bool×Unit) w_ g=> ∃ψ:AC,Sub w ψ∧y.1=g∧St ψ (cO 239 DC t4 af::cW 32 r2 [sv p_1.1,sv p_1.2.1,sv p_1.2.2.1,sv p_1.2.2.2.1,sv p_1.2.2.2.2.1,sv p_1.2.2.2.2.2.1] ::cW 133 r1 [sv f_0.1,sv f_0.2.1,sv f_0.2.2.1, .int .i64 f_0.2.2.2.1] ::F) w_) (g:=bi) ?_ ?_
    ·refine AK l (by rw [j] <;>rfl) (fun _ l=> ?_) (fun _ l=> ?_)
     ·have bj:=k.at2
      obtain rfl:=iS l
      exact AS (true,()) rfl ⟨w,(Sub.refl _),rfl,bj.at2.at2⟩
     refine AA (x:=f_0.2.1) k.at2 rfl ?_
     have bk:=k.at2.at2.at2
     obtain rfl:=iS l
     exact AS ((decide ((IntKind.wrap .i64 (b7 - ((p_1.1.2.1:Nat):Int))) ≥ ((f_0.2.1.2.1:Nat):Int))),()) rfl ⟨w,(Sub.refl _),(by rw [j,ax]),bk⟩
    rintro z20 cu ⟨bl,i,rfl,m⟩
    try dsimp only at a
    refine AK a rfl (fun _ a=> ?_) (fun _ a=> ?_)
    ·have bm:=m.at2
     obtain rfl:=iS a
     exact AM (z6.2.1,(z6.2.2.1.1,z6.2.2.1.2.1,z6.2.2.1.2.2),()) rfl ⟨bl,af,(d.trans i),rfl,bm.at2.at2⟩
    refine AA (x:=p_1.1) m.at1 rfl ?_
    refine AA (x:=f_0.2.1) m.at2 rfl ?_
    obtain ⟨cv,al,a⟩:=bS a
    rw [← j] at al
    refine Nr a6 al (Sub.trans (((b.trans c).trans d).trans i) m.sub) fun cw bn=> ?_
    obtain ⟨cx,am,a⟩:=bS a
    rw [← j] at am
    refine AI (Dv (bn.mono (((b.trans c).trans d).trans i)) m am) ?_
    rintro _ cy ⟨cz,t26,d0,n,rfl,rfl,bo⟩
    refine ⟨t26,rfl,?_⟩
    obtain ⟨d1,bp,a⟩:=bS a
    refine AI (P8 (gk.mono ((((b.trans c).trans d).trans i).trans n)) bo.at1 bp) ?_
    rintro _ d2 ⟨bq,t27,br,o,rfl,rfl,p⟩
    refine ⟨t27,rfl,?_⟩
    try dsimp only at a
    refine AA (x:=f_0.1) p.at3 rfl ?_
    obtain ⟨d3,an,a⟩:=bS a
    rw [← j] at an
    refine DM ap an (Sub.trans (((((b.trans c).trans d).trans i).trans n).trans o) p.sub) ?_
    refine AK a rfl (fun _ a=> ?_) (fun _ a=> ?_)
    ·obtain ⟨d4,bs,a⟩:=bS a
     refine AI (K9 (gk.mono (((((b.trans c).trans d).trans i).trans n).trans o)) p bs) ?_
     rintro _ d5 ⟨bt,t31,bu,bv,rfl,rfl,bw,bx⟩
     refine ⟨t31,rfl,?_⟩
     obtain rfl:=iS a
     try dsimp only at e
     obtain rfl:=iS e
     obtain rfl:=ai _ rfl
     try dsimp only at hd
     obtain rfl:=iS hd
     exact An (Ah (An (AB ⟨bt,(t31,false,()),bu,((((((b.trans c).trans d).trans i).trans n).trans o).trans bv),rfl,rfl,bw,bx.tail.tail.tail.tail⟩)))
    obtain rfl:=iS a
    exact Nk (z6.2.1,(z6.2.2.1.1,z6.2.2.1.2.1,z6.2.2.1.2.2),()) rfl ⟨bq,br,(((d.trans i).trans n).trans o),rfl,p.at1.tail.at2.at2.at2⟩
   rintro z7 d6 ⟨bz,c0,c1,rfl,c2⟩
   try dsimp only at e
   obtain rfl:=iS e
   exact Af ((wN z6.1),z7.1,(z7.2.1.1,z7.2.1.2.1,z7.2.1.2.2),()) _ rfl rfl ⟨bz,c0,(c.trans c1),ah,rfl,c2.at2.at2.at2⟩
  ·rintro _ z6 d7 _ ⟨c3,c4,c5,rfl,rfl,c6⟩ c7 c8
   subst c8
   refine AY (dF aa c7) ?_
   exact AJ (AM (z6.1,z6.2.1,(z6.2.2.1.1,z6.2.2.1.2.1,z6.2.2.1.2.2),()) rfl ⟨c3,c4,c5,rfl,c6.at2.at2.at2⟩)
 rintro z5 d8 ⟨d9,da,ao,rfl,c9⟩
 try dsimp only at hd
 obtain ⟨db,ca,hd⟩:=bS hd
 refine AI (K9 (gk.mono (b.trans ao)) c9 ca) ?_
 rintro _ dc ⟨cb,t32,cc,cd,rfl,rfl,ce,cf⟩
 refine ⟨t32,rfl,?_⟩
 obtain rfl:=iS hd
 exact AB ⟨cb,(t32,true,()),cc,((b.trans ao).trans cd),rfl,rfl,ce,cf.tail.tail.tail⟩
noncomputable def BX (l_0:LT) (state_1:Int) (rule_2:Int):Option Bool:=
 (cond (decide (rule_2< (0:Int)))
 (some true)
 (some (decide (rule_2≥ (((List.length l_0.2.2.1):Nat):Int))))).bind fun z1=>
 cond z1
 (some false)
 ((idx l_0.2.2.1 rule_2).bind fun e89=>
  (Bf l_0.2.2.2.2.2.2.1 state_1).bind fun t10=>
  (Ai t10 (rule_2,(((List.length e89.2.1):Nat):Int))).bind fun t11=>
  some t11)
theorem Dp {φ:AC} {h:AE} {F:List Chk} {l_0:Option Addr} {i:LT} {state_1:Int} {rule_2:Int} (j:Pt Qf φ l_0 i) (s0:St φ (F) h) {r:Bool} (hd:BX i state_1 rule_2=some r):
 CallsH Tryz.prog 71 [(.pointer l_0),(.int .i64 state_1),(.int .i64 rule_2)] h (Aq fun v h'=> ∃ψ:AC,∃y:Bool,Sub φ ψ∧v=((.one aB):Sh).val y∧y=r∧St ψ (F) h'):=by
 refine AQ mixed Tryz.func71 ?_
 rw [Jc]
 unfold Gh
 unfold BX at hd
 obtain ⟨p,b,hd⟩:=bS hd
 refine Ao (fun (y:Bool×Unit) w_ g=> ∃ψ:AC,Sub φ ψ∧y.1=g∧St ψ (F) w_) (g:=p) ?_ ?_
 ·refine AK b rfl (fun _ b=> ?_) (fun _ b=> ?_)
  ·obtain rfl:=iS b
   exact AS (true,()) rfl ⟨φ,(Sub.refl _),rfl,s0⟩
  obtain ⟨ai,aj,q,⟨_,_,rfl,⟨ak,rfl,al⟩,_,_,rfl,⟨am,rfl,an⟩,_,_,rfl,⟨k,rfl,s⟩,_,_,rfl,⟨ao,rfl,ap⟩,_,_,rfl,⟨aq,rfl,ar⟩,_,_,rfl,⟨au,rfl,av⟩,_,_,rfl,⟨aw,rfl,ax⟩,_,_,rfl,⟨ay,rfl,az⟩,_,_,rfl,⟨b0,rfl,b1⟩,_,_,rfl,⟨b2,rfl,b3⟩,_,_,rfl,rfl,_,_,rfl,⟨b4,rfl,b5⟩,_,_,rfl,rfl,rfl⟩,t⟩:=id j
  have u:=s.length
  refine AF _ q ?_
  refine AH (x:=k) (AD s0.sub (t.at 2 rfl)) rfl ?_
  obtain rfl:=iS b
  exact AS ((decide (rule_2≥ ((k.2.1:Nat):Int))),()) rfl ⟨φ,(Sub.refl _),(by rw [u]),s0⟩
 rintro z1 b6 ⟨w,a,rfl,c⟩
 try dsimp only at hd
 refine AK hd rfl (fun _ hd=> ?_) (fun _ hd=> ?_)
 ·obtain rfl:=iS hd
  exact AB ⟨w,false,a,rfl,rfl,c⟩
 obtain ⟨b7,b8,l,⟨_,_,rfl,⟨b9,rfl,ba⟩,_,_,rfl,⟨bb,rfl,bc⟩,_,_,rfl,⟨z,rfl,a0⟩,_,_,rfl,⟨bd,rfl,be⟩,_,_,rfl,⟨bf,rfl,bg⟩,_,_,rfl,⟨bh,rfl,bi⟩,_,_,rfl,⟨a1,rfl,a2⟩,_,_,rfl,⟨bj,rfl,bk⟩,_,_,rfl,⟨bl,rfl,bm⟩,_,_,rfl,⟨bn,rfl,bo⟩,_,_,rfl,rfl,_,_,rfl,⟨bp,rfl,bq⟩,_,_,rfl,rfl,rfl⟩,d⟩:=id j
 refine AF _ l ?_
 refine AH (x:=a1) (AD (Sub.trans a c.sub) (d.at 6 rfl)) rfl ?_
 refine AF _ l ?_
 refine AH (x:=z) (AD (Sub.trans a c.sub) (d.at 2 rfl)) rfl ?_
 obtain ⟨br,a3,hd⟩:=bS hd
 obtain ⟨bs,bt,a4,a5,a6,m⟩:=(a0.mono a).get a3
 refine AF _ a4 (Ac a5 ?_)
 obtain ⟨_,_,rfl,a7,a8⟩:=a6
 obtain rfl:=a7
 obtain ⟨_,_,rfl,a9,aa⟩:=a8
 obtain ⟨n,rfl,ab⟩:=a9
 have ac:=ab.length
 obtain rfl:=aa
 refine AH (x:=n) (by rw [Ad]; exact (AD c.sub (m 1 _ rfl))) rfl ?_
 obtain ⟨bu,ad,hd⟩:=bS hd
 refine AI (DB (a2.mono a) c ad) ?_
 rintro _ bv ⟨bw,t10,bx,e,rfl,rfl,ae,f⟩
 refine ⟨t10,rfl,?_⟩
 refine AL (by rw [Ad]; exact (AD (Sub.trans e f.sub) (m 1 _ rfl))) ?_
 refine AL (AD (Sub.trans (a.trans e) f.sub) (d.at 2 rfl)) ?_
 obtain ⟨bz,o,hd⟩:=bS hd
 rw [← ac] at o
 refine AI (DA (v_1:=(rule_2,((n.2.1:Nat):Int),())) ae f o) ?_
 rintro _ c0 ⟨af,t11,ag,rfl,rfl,ah⟩
 refine ⟨t11,rfl,?_⟩
 obtain rfl:=iS hd
 exact AB ⟨af,t11,((a.trans e).trans ag),rfl,rfl,ah⟩
noncomputable def Ci (l_0:LT) (state_1:Int):Option (List Int):=
 (Bf l_0.2.2.2.2.2.2.1 state_1).bind fun t3=>
 (forS (σ:=List Int) (0:Int) (((List.length t3):Nat):Int) ([] :List Int) fun i_z5 z5=>
  (idx t3 i_z5).bind fun e73=>
  (idx l_0.2.2.1 e73.1).bind fun e90=>
  (cond (e73.2==(((List.length e90.2.1):Nat):Int))
  ((app z5 ([e73.1] :List Int)).bind fun t19=>
   some t19)
  (some z5)).bind fun z16=>
  some z16).bind fun z4=>
 some z4
theorem Jg {φ:AC} {h:AE} {F:List Chk} {l_0:Option Addr} {m:LT} {state_1:Int} (a4:Pt Qf φ l_0 m) (s0:St φ (F) h) {r:(List Int)} (hd:Ci m state_1=some r):
 CallsH Tryz.prog 22 [(.pointer l_0),(.int .i64 state_1)] h (Aq fun v h'=> ∃ψ:AC,∃y:Slc,∃n:List Int,Sub φ ψ∧v=((.one aS):Sh).val y∧n=r∧Ro.SliceIs (Ro.int .i64) ψ y n∧St ψ (F) h'):=by
 refine AQ mixed Tryz.func22 ?_
 rw [Jd]
 unfold Gi
 unfold Ci at hd
 obtain ⟨bm,bn,o,⟨_,_,rfl,⟨bo,rfl,bp⟩,_,_,rfl,⟨bq,rfl,br⟩,_,_,rfl,⟨a5,rfl,a6⟩,_,_,rfl,⟨bs,rfl,bt⟩,_,_,rfl,⟨bu,rfl,bv⟩,_,_,rfl,⟨bw,rfl,bx⟩,_,_,rfl,⟨a7,rfl,a8⟩,_,_,rfl,⟨bz,rfl,c0⟩,_,_,rfl,⟨c1,rfl,c2⟩,_,_,rfl,⟨c3,rfl,c4⟩,_,_,rfl,rfl,_,_,rfl,⟨c5,rfl,c6⟩,_,_,rfl,rfl,rfl⟩,p⟩:=id a4
 refine AF _ o ?_
 refine AH (x:=a7) (AD s0.sub (p.at 6 rfl)) rfl ?_
 obtain ⟨c7,a9,hd⟩:=bS hd
 refine AI (DB a8 s0 a9) ?_
 rintro _ c8 ⟨i,t3,c9,j,rfl,rfl,q,aa⟩
 refine ⟨t3,rfl,?_⟩
 have s:=q.length
 obtain ⟨ab,ac,hd⟩:=bS hd
 refine AV (fun (y:Int×Slc×Unit) w_ g=> ∃ψ:AC,∃u:List Int,Sub i ψ∧u=g∧St ψ (cR 3 (Ro.int .i64) y.2.1 u::F) w_) (g:=ab) ?_ ?_
 ·refine BL ac (fun ad (y:Int×Slc×Unit) w_ g=> ∃ψ:AC,∃w:List Int,Sub i ψ∧y.1=ad∧w=g∧St ψ (cR 3 (Ro.int .i64) y.2.1 w::F) w_) ((0:Int),((none,0,0):Slc),()) rfl ⟨i,([] :List Int),(Sub.refl _),rfl,rfl,(aa.nil 3 (Ro.int .i64))⟩ ?_ ?_
  ·rintro _ z5 ca _ _ ⟨k,ae,f,rfl,rfl,l⟩ b af z a0
   try dsimp only at b af z a0
   refine Ag (dT s z) ?_
   obtain ⟨c,ag,b⟩:=bS b
   obtain ⟨cb,cc,ah,ai,aj,a1⟩:=(q.mono f).get ag
   refine AF _ ah (Ac ai ?_)
   obtain ⟨_,_,rfl,ak,al⟩:=aj
   obtain rfl:=ak
   obtain rfl:=al
   refine AH (x:=c.1) (AD l.sub (a1 0 _ rfl)) rfl ?_
   refine AH (x:=c.2) (by rw [Ad]; exact (AD l.sub (a1 1 _ rfl))) rfl ?_
   refine AU (vs:= [.int .i64 (0:Int), .int .i64 (0:Int)]) l fun r9 cd am=> ?_
   refine AP am rfl rfl fun ce an=> ?_
   refine AP an rfl rfl fun cf d=> ?_
   refine AA (x:=c.2) d rfl ?_
   refine AF _ o ?_
   refine AH (x:=a5) (AD (Sub.trans (j.trans f) d.sub) (p.at 2 rfl)) rfl ?_
   refine AA (x:=c.1) d rfl ?_
   obtain ⟨cg,ao,b⟩:=bS b
   obtain ⟨ch,ci,ap,aq,ar,au⟩:=(a6.mono (j.trans f)).get ao
   refine AF _ ap (Ac aq ?_)
   obtain ⟨_,_,rfl,av,aw⟩:=ar
   obtain rfl:=av
   obtain ⟨_,_,rfl,ax,ay⟩:=aw
   obtain ⟨az,rfl,b0⟩:=ax
   have b1:=b0.length
   obtain rfl:=ay
   refine AH (x:=az) (by rw [Ad]; exact (AD d.sub (au 1 _ rfl))) rfl ?_
   obtain ⟨b2,e,b⟩:=bS b
   refine Ao (fun (y:Slc×Unit) w_ g=> ∃ψ:AC,∃a2:List Int,Sub k ψ∧a2=g∧St ψ (cR 3 (Ro.int .i64) y.1 a2::cW 70 r9 [.int .i64 c.1, .int .i64 c.2] ::F) w_) (g:=b2) ?_ ?_
   ·refine AK e (by rw [b1] <;>rfl) (fun _ e=> ?_) (fun _ e=> ?_)
    ·refine AA (x:=c.1) d rfl ?_
     refine AU (vs:= [.int .i64 c.1]) d fun r18 cj a3=> ?_
     obtain ⟨b3,b4,e⟩:=bS e
     refine Am (r:=(Ro.int .i64)) (ms:=([c.1] :List Int)) F7 a3.tail.at1 rfl (St.cells a3) (.cons (a:= [_]) rfl .nil) rfl b4 ?_
     intro t19 ck b5
     obtain rfl:=iS e
     exact AS (t19,()) rfl ⟨k,b3,(Sub.refl _),rfl,b5.at1.at1⟩
    obtain rfl:=iS e
    exact AS (z5.2.1,()) rfl ⟨k,ae,(Sub.refl _),rfl,d.at1.at1.at1⟩
   rintro z16 cl ⟨b6,b7,b8,rfl,b9⟩
   try dsimp only at b
   obtain rfl:=iS b
   exact Af ((wN z5.1),z16.1,()) _ rfl rfl ⟨b6,b7,(f.trans b8),a0,rfl,b9.at1.tail⟩
  ·rintro _ z5 cm ⟨ba,bb,bc,rfl,rfl,bd⟩ be
   refine AY (dF s be) ?_
   exact AJ (AM (z5.1,z5.2.1,()) rfl ⟨ba,bb,bc,rfl,bd⟩)
 rintro z4 cn ⟨co,bf,bg,rfl,bh⟩
 try dsimp only at hd
 obtain ⟨bi,bj,bk,bl⟩:=St.freezeRow (t:=z4.2.1) bh
 obtain rfl:=iS hd
 exact AB ⟨bi,z4.2.1,bf,((j.trans bg).trans bj),rfl,rfl,bk,bl⟩
noncomputable def Cj (l_0:LT) (state_1:Int) (rule_2:Int):Option (List Eb):=
 (BX l_0 state_1 rule_2).bind fun t1=>
 cond (!t1)
 (some ([] :List Eb))
 ((idx l_0.2.2.1 rule_2).bind fun e53=>
  (BW l_0.2.2.2.2.2.2.1).bind fun t11=>
  (forS (σ:=List Eb) (0:Int) t11 ([] :List Eb) fun i_z13 z13=>
   (BO l_0.2.2.2.2.2.2.1 i_z13 e53.1).bind fun t17=>
   (cond (decide (t17≥ (0:Int)))
   ((Bl l_0.2.2.2.2.2.2.1 i_z13 e53.2.1).bind fun t22=>
    some (t22==state_1))
   (some false)).bind fun z18=>
   (cond z18
   ((app z13 ([(e53.1,t17)] :List Eb)).bind fun t26=>
    some t26)
   (some z13)).bind fun z23=>
   some z23).bind fun z12=>
  some z12)
theorem Jh {φ:AC} {h:AE} {F:List Chk} {l_0:Option Addr} {a2:LT} {state_1:Int} {rule_2:Int} (a3:Pt Qf φ l_0 a2) (s0:St φ (F) h) {r:(List Eb)} (hd:Cj a2 state_1 rule_2=some r):
 CallsH Tryz.prog 27 [(.pointer l_0),(.int .i64 state_1),(.int .i64 rule_2)] h (Aq fun v h'=> ∃ψ:AC,∃y:Slc,∃a4:List Eb,Sub φ ψ∧v=((.one aS):Sh).val y∧a4=r∧Ro.SliceIs Fe ψ y a4∧St ψ (F) h'):=by
 refine AQ mixed Tryz.func27 ?_
 rw [Je]
 unfold Gj
 unfold Cj at hd
 obtain ⟨bt,af,hd⟩:=bS hd
 refine AI (Dp a3 s0 af) ?_
 rintro _ bu ⟨a5,t1,c,rfl,rfl,i⟩
 refine ⟨t1,rfl,?_⟩
 refine AK hd rfl (fun _ hd=> ?_) (fun _ hd=> ?_)
 ·obtain rfl:=iS hd
  exact AB ⟨a5,((none,0,0):Slc),([] :List Eb),c,rfl,rfl,(Ro.SliceIs.nil Fe a5),i⟩
 obtain ⟨bv,bw,m,⟨_,_,rfl,⟨bx,rfl,bz⟩,_,_,rfl,⟨c0,rfl,c1⟩,_,_,rfl,⟨ag,rfl,ah⟩,_,_,rfl,⟨c2,rfl,c3⟩,_,_,rfl,⟨c4,rfl,c5⟩,_,_,rfl,⟨c6,rfl,c7⟩,_,_,rfl,⟨q,rfl,s⟩,_,_,rfl,⟨c8,rfl,c9⟩,_,_,rfl,⟨ca,rfl,cb⟩,_,_,rfl,⟨cc,rfl,cd⟩,_,_,rfl,rfl,_,_,rfl,⟨ce,rfl,cf⟩,_,_,rfl,rfl,rfl⟩,n⟩:=id a3
 refine AF _ m ?_
 refine AH (x:=ag) (AD (Sub.trans c i.sub) (n.at 2 rfl)) rfl ?_
 obtain ⟨b,ai,hd⟩:=bS hd
 obtain ⟨cg,ch,aj,ak,al,u⟩:=(ah.mono c).get ai
 refine AF _ aj (Ac ak ?_)
 obtain ⟨_,_,rfl,am,an⟩:=al
 obtain rfl:=am
 obtain ⟨_,_,rfl,ao,ap⟩:=an
 obtain ⟨j,rfl,aq⟩:=ao
 obtain rfl:=ap
 refine AH (x:=b.1) (AD i.sub (u 0 _ rfl)) rfl ?_
 refine AH (x:=j) (by rw [Ad]; exact (AD i.sub (u 1 _ rfl))) rfl ?_
 refine AH (x:=b.2.2) (by rw [Ad]; exact (AD i.sub (u 2 _ rfl))) rfl ?_
 refine AU (vs:= [.int .i64 (0:Int), .slice none 0 0, .int .i64 (0:Int)]) i fun r8 ci ar=> ?_
 refine AP ar rfl rfl fun cj au=> ?_
 refine AP au rfl rfl fun ck av=> ?_
 refine AP av rfl rfl fun cl a6=> ?_
 refine AF _ m ?_
 refine AH (x:=q) (AD (Sub.trans c a6.sub) (n.at 6 rfl)) rfl ?_
 obtain ⟨cm,aw,hd⟩:=bS hd
 refine AI (CK (s.mono c) a6 aw) ?_
 rintro _ cn ⟨w,t11,k,rfl,rfl,ax⟩
 refine ⟨t11,rfl,?_⟩
 obtain ⟨ay,az,hd⟩:=bS hd
 refine AV (fun (y:Int×Slc×Unit) w_ g=> ∃ψ:AC,∃a7:List Eb,Sub w ψ∧a7=g∧St ψ (cR 73 Fe y.2.1 a7::cW 65 r8 [.int .i64 b.1,sv j, .int .i64 b.2.2] ::F) w_) (g:=ay) ?_ ?_
 ·refine BL az (fun b0 (y:Int×Slc×Unit) w_ g=> ∃ψ:AC,∃a8:List Eb,Sub w ψ∧y.1=b0∧a8=g∧St ψ (cR 73 Fe y.2.1 a8::cW 65 r8 [.int .i64 b.1,sv j, .int .i64 b.2.2] ::F) w_) ((0:Int),((none,0,0):Slc),()) rfl ⟨w,([] :List Eb),(Sub.refl _),rfl,rfl,(((ax.nil 73 Fe).at1).at1)⟩ ?_ ?_
  ·rintro _ z13 co _ _ ⟨cp,a9,l,rfl,rfl,z⟩ d b1 aa ab
   try dsimp only at d b1 aa ab
   refine Ag (by exact decide_eq_true aa) ?_
   refine AF _ m ?_
   refine AH (x:=q) (AD (Sub.trans ((c.trans k).trans l) z.sub) (n.at 6 rfl)) rfl ?_
   refine AA (x:=b.1) z.at1 rfl ?_
   obtain ⟨cq,b2,d⟩:=bS d
   refine AI (C2 (s.mono ((c.trans k).trans l)) z b2) ?_
   rintro _ cr ⟨ac,t17,o,rfl,rfl,p⟩
   refine ⟨t17,rfl,?_⟩
   obtain ⟨b3,e,d⟩:=bS d
   refine Ao (fun (y:Bool×Unit) w_ g=> ∃ψ:AC,Sub ac ψ∧y.1=g∧St ψ (cR 73 Fe z13.2.1 a9::cW 65 r8 [.int .i64 b.1,sv j, .int .i64 b.2.2] ::F) w_) (g:=b3) ?_ ?_
   ·refine AK e rfl (fun _ e=> ?_) (fun _ e=> ?_)
    ·refine AF _ m ?_
     refine AH (x:=q) (AD (Sub.trans (((c.trans k).trans l).trans o) p.sub) (n.at 6 rfl)) rfl ?_
     refine AA (x:=j) p.at1 rfl ?_
     obtain ⟨cs,b4,e⟩:=bS e
     refine AI (DW (s.mono (((c.trans k).trans l).trans o)) (aq.mono ((k.trans l).trans o)) p b4) ?_
     rintro _ ct ⟨b5,t22,b6,rfl,rfl,b7⟩
     refine ⟨t22,rfl,?_⟩
     obtain rfl:=iS e
     exact AS ((t22==state_1),()) rfl ⟨b5,b6,rfl,b7.at1.at1⟩
    obtain rfl:=iS e
    exact AS (false,()) rfl ⟨ac,(Sub.refl _),rfl,p.at1.at1⟩
   rintro z18 cu ⟨a0,b8,rfl,a1⟩
   try dsimp only at d
   obtain ⟨b9,f,d⟩:=bS d
   refine Ao (fun (y:Slc×Unit) w_ g=> ∃ψ:AC,∃ad:List Eb,Sub a0 ψ∧ad=g∧St ψ (cR 73 Fe y.1 ad::cW 65 r8 [.int .i64 b.1,sv j, .int .i64 b.2.2] ::F) w_) (g:=b9) ?_ ?_
   ·refine AK f rfl (fun _ f=> ?_) (fun _ f=> ?_)
    ·refine AA (x:=b.1) a1.at1 rfl ?_
     refine AU (vs:= [.int .i64 b.1, .int .i64 t17]) a1 fun r25 cv ae=> ?_
     obtain ⟨ba,bb,f⟩:=bS f
     refine Am (r:=Fe) (ms:=([(b.1,t17)] :List Eb)) QR ae.tail rfl (St.cells ae) (.cons (a:= [_,_]) ⟨[_],_,rfl,rfl,rfl⟩ .nil) rfl bb ?_
     intro t26 cw bc
     obtain rfl:=iS f
     exact AS (t26,()) rfl ⟨a0,ba,(Sub.refl _),rfl,bc.at1.at1⟩
    obtain rfl:=iS f
    exact AS (z13.2.1,()) rfl ⟨a0,a9,(Sub.refl _),rfl,a1.at1.at1⟩
   rintro z23 cx ⟨bd,be,bf,rfl,bg⟩
   try dsimp only at d
   obtain rfl:=iS d
   exact Af ((wN z13.1),z23.1,()) _ rfl rfl ⟨bd,be,(((l.trans o).trans b8).trans bf),ab,rfl,bg.at1.at1⟩
  ·rintro _ z13 cy ⟨bh,bi,bj,rfl,rfl,bk⟩ bl
   refine AY (by exact decide_eq_false (Int.not_lt.2 bl)) ?_
   exact AJ (AM (z13.1,z13.2.1,()) rfl ⟨bh,bi,bj,rfl,bk.at1.at1⟩)
 rintro z12 cz ⟨d0,bm,bn,rfl,bo⟩
 try dsimp only at hd
 obtain ⟨bp,bq,br,bs⟩:=St.freezeRow (t:=z12.2.1) bo
 obtain rfl:=iS hd
 exact AB ⟨bp,z12.2.1,bm,(((c.trans k).trans bn).trans bq),rfl,rfl,br,bs.tail⟩
end Go.Proofs.YteolcjbobmpdiaaGreatDoor
namespace Go.Proofs.YteolcjbobmpdiaaGreatDoor
open Go Go.Eng Dg
set_option linter.unusedVariables false
set_option maxRecDepth 100000
abbrev Stp:Type:=SQ
noncomputable def M0 {σ:Type} (p:dtP) (A:dtA) (f:σ→Stp→Int→Option σ) (s:σ):Option σ:=
 (BW A).bind fun n=>forS 0 n s fun i s=>
  (Bx A i).bind fun es=>forS 0 ((es.length:Nat):Int) s fun j s=>
   (idx es j).bind fun e=>(BV p e.1).bind fun t=>cond (!t) (f s (i,e.1) e.2) (some s)
abbrev EnS:Type:=List Stp×List (Stp×Int)
def I5 (st:EnS) (s:Stp) (_:Int):Option EnS:=(app st.1 [s]).bind fun l=>some (l,Bn s ((st.1.length:Nat):Int) st.2)
noncomputable def Un (l_0:Option Addr) (g:Nat) (args:Int→Int→Int→List Value):T:=
 deref l_0 fun a1=>
 T.load .pointer (a1.add 6) fun (t2:Option Addr)=>
 T.call 20 [(.pointer t2)] (.one aI) fun (t3:Int)=>
 T.block 0 [aI]
 (T.loop [aI] [(.int .i64 (0:Int))] fun (z5:Int×Unit)=>
 cond (decide (z5.1<t3))
 (deref l_0 fun a6=>
 T.load .pointer (a6.add 6) fun (t7:Option Addr)=>
 T.call 34 [(.pointer t7),(.int .i64 z5.1)] (.one aS) fun (t8:Slc)=>
 T.block 2 [aI]
 (T.loop [aI] [(.int .i64 (0:Int))] fun (z10:Int×Unit)=>
 cond (decide (z10.1< ((t8.2.1:Nat):Int)))
 (deref t8.1 fun a11=>
 chk (0≤z10.1∧z10.1< (t8.2.1:Nat)) <|
 T.load (.int .i64) (a11.add (Int.toNat z10.1 * 2)) fun (t12:Int)=>
 T.load (.int .i64) ((a11.add (Int.toNat z10.1 * 2)).add 1) fun (t13:Int)=>
 T.new (.cells #[(.int .i64 (0:Int)),(.int .i64 (0:Int))] 73 (0,0)) fun r14=>
 T.store ⟨r14,0,none⟩ (.int .i64 t12) <|
 T.store ⟨r14,1,none⟩ (.int .i64 t13) <|
 deref l_0 fun a15=>
 T.load .slice a15 fun (t16:Slc)=>
 T.load .slice (a15.add 1) fun (t17:Slc)=>
 T.load .slice (a15.add 2) fun (t18:Slc)=>
 T.load .slice (a15.add 3) fun (t19:Slc)=>
 T.load .slice (a15.add 4) fun (t20:Slc)=>
 T.load .slice (a15.add 5) fun (t21:Slc)=>
 T.load (.int .i64) ⟨r14,0,none⟩ fun (t22:Int)=>
 T.call 86 [(.agg #[(sv t16),(sv t17),(sv t18),(sv t19),(sv t20),(sv t21)]),(.int .i64 t22)] (.one aB) fun (t23:Bool)=>
 T.join []
 (cond (!t23)
 (T.load (.int .i64) ⟨r14,0,none⟩ fun (t25:Int)=>
 T.load (.int .i64) ⟨r14,1,none⟩ fun (t26:Int)=>
 T.call g (args z5.1 t25 t26) (.tuple []) fun (_:Unit)=>
 T.out [])
 (T.out [])) fun (_:Unit)=>
 T.out [(.int .i64 (IntKind.wrap .i64 (z10.1+(1:Int))))])
 (T.brk 2 [(.int .i64 z10.1)])) fun (_:Int×Unit)=>
 T.out [(.int .i64 (IntKind.wrap .i64 (z5.1+(1:Int))))])
 (T.brk 0 [(.int .i64 z5.1)])) fun (_:Int×Unit)=>
 T.ret (.tuple #[])
section
variable {φ ψ:AC} {h:AE} {F:List Chk} {a:Addr} {t:Slc×Slc×Slc×Slc×Slc×Slc×Unit} {p:dtP} {ap:Option Addr} {A:dtA}
theorem PG {K:Bool→T} {P:Be→AE→Prop} {b:Nat} {v:Value} {s:Int} (cells: ∀j v,(plV t)[j]? =some v→BF h (a.add j)=some v) (hs:BF h ⟨b,0,none⟩=some (.int .i64 s)) (k:PlK φ t p) (st:St φ F h) {r:Bool} (hd:BV p s=some r)
 (hk: ∀ψ h',Sub φ ψ→St ψ F h'→(K r).wp Tryz.prog P h'):
 (T.load .slice a fun (t6:Slc)=>T.load .slice (a.add 1) fun (t7:Slc)=>T.load .slice (a.add 2) fun (t8:Slc)=>T.load .slice (a.add 3) fun (t9:Slc)=>T.load .slice (a.add 4) fun (t10:Slc)=>T.load .slice (a.add 5) fun (t11:Slc)=>
  T.load (.int .i64) ⟨b,0,none⟩ fun (t22:Int)=>
  T.call 86 [(.agg #[(sv t6),(sv t7),(sv t8),(sv t9),(sv t10),(sv t11)]),(.int .i64 t22)] (.one aB) K).wp Tryz.prog P h:=by
 refine AH (x:=t.1) (by have:=cells 0 _ rfl; rwa [add_zero] at this) rfl ?_
 refine AH (x:=t.2.1) (cells 1 _ rfl) rfl ?_
 refine AH (x:=t.2.2.1) (cells 2 _ rfl) rfl ?_
 refine AH (x:=t.2.2.2.1) (cells 3 _ rfl) rfl ?_
 refine AH (x:=t.2.2.2.2.1) (cells 4 _ rfl) rfl ?_
 refine AH (x:=t.2.2.2.2.2.1) (cells 5 _ rfl) rfl ?_
 refine AH (x:=s) hs rfl ?_
 refine AI (ET (p_0:=t) k.k0 k.k1 k.k2 k.k3 k.k4 k.k5 st hd) ?_
 rintro _ h1 ⟨ψ,y,le,rfl,rfl,s1⟩
 exact ⟨y,rfl,hk ψ h1 le s1⟩
set_option maxHeartbeats 2000000 in
theorem Q3 {X σ:Type} (Γ:X→List Chk) (al:X→σ) (f:σ→Stp→Int→Option σ) (g:Nat) (args:Int→Int→Int→List Value)
 (hcells: ∀ψ x w Δ,Sub φ ψ→St ψ (Γ x++Δ) w→ ∀j v,(plV t++ [.pointer ap])[j]? =some v→BF w (a.add j)=some v)
 (hcall: ∀ψ w x s' n s to Δ,Sub φ ψ→St ψ (Γ x++Δ) w→f (al x) (n,s) to=some s'→CallsH Tryz.prog g (args n s to) w (Aq fun v h'=>v= .tuple #[] ∧ ∃ψ' x',Sub ψ ψ'∧al x'=s'∧St ψ' (Γ x'++Δ) h'))
 (kA:Pt Fu φ ap A) (kP:PlK φ t p) {x:X} {s':σ} (hd:M0 p A f (al x)=some s') (s0:St φ (Γ x++F) h):
 (Un (some a) g args).wp Tryz.prog (Ly (Aq fun v h'=>v= .tuple #[] ∧ ∃ψ x',Sub φ ψ∧al x'=s'∧St ψ (Γ x'++F) h')) h:=by
 unfold Un
 unfold M0 at hd
 obtain ⟨n,hn,hd⟩:=bS hd
 have pc: ∀ {ψ x w Δ},Sub φ ψ→St ψ (Γ x++Δ) w→ ∀j v,(plV t)[j]? =some v→BF w (a.add j)=some v:=fun {ψ x w Δ} le st j v hv=>hcells ψ x w Δ le st j v (by rw [List.getElem?_append_left (List.getElem?_eq_some_iff.1 hv).1]; exact hv)
 refine AF _ rfl ?_
 refine AH (x:=ap) (hcells _ _ _ _ (Sub.refl _) s0 6 _ rfl) rfl ?_
 refine AI (CK kA s0 hn) ?_
 rintro _ h1 ⟨ψ1,y,le1,rfl,rfl,st1⟩
 refine ⟨y,rfl,?_⟩
 refine AV (fun (z:Int×Unit) w g=> ∃ψ x',Sub φ ψ∧al x'=g∧St ψ (Γ x'++F) w) (g:=s') ?_ ?_
 ·refine BL hd (fun i (z:Int×Unit) w g=>z.1=i∧ ∃ψ x',Sub φ ψ∧al x'=g∧St ψ (Γ x'++F) w) ((0:Int),()) rfl ⟨rfl,ψ1,x,le1,rfl,st1⟩ ?_ ?_
  ·rintro i z w s e ⟨rfl,ψ,x1,le,rfl,st⟩ he h0 hlt hw
   refine Ag (decide_eq_true hlt) ?_
   obtain ⟨es,hes,he⟩:=bS he
   refine AF _ rfl ?_
   refine AH (x:=ap) (hcells _ _ _ _ le st 6 _ rfl) rfl ?_
   refine AI (Eh (kA.mono le) st hes) ?_
   rintro _ h2 ⟨ψ2,t8,l2,le2,rfl,rfl,k8,st2⟩
   refine ⟨t8,rfl,?_⟩
   have n8:=k8.length
   refine AV (fun (z:Int×Unit) w g=> ∃ψ x',Sub φ ψ∧al x'=g∧St ψ (Γ x'++F) w) (g:=e) ?_ ?_
   ·refine BL he (fun i (z:Int×Unit) w g=>z.1=i∧ ∃ψ' x',Sub ψ2 ψ'∧al x'=g∧St ψ' (Γ x'++F) w) ((0:Int),()) rfl ⟨rfl,ψ2,x1,Sub.refl _,rfl,st2⟩ ?_ ?_
    ·rintro i2 z2 w2 s2 e2 ⟨rfl,ψ3,x3,le3,rfl,st3⟩ he2 h02 hlt2 hw2
     have le03:=(le.trans le2).trans le3
     refine Ag (by rw [n8]; exact decide_eq_true hlt2) ?_
     obtain ⟨ed,hed,he2⟩:=bS he2
     obtain ⟨tm,htm,he2⟩:=bS he2
     obtain ⟨A1,cs1,ea1,hi1,q1,cl1⟩:=(k8.mono le3).get hed
     refine AF _ ea1 (Ac hi1 ?_)
     obtain ⟨_,_,rfl,q2,q3⟩:=q1
     obtain rfl:=q2
     obtain rfl:=q3
     refine AH (x:=ed.1) (AD st3.sub (cl1 0 _ rfl)) rfl ?_
     refine AH (x:=ed.2) (by rw [Ad]; exact AD st3.sub (cl1 1 _ rfl)) rfl ?_
     refine AU (vs:= [.int .i64 0, .int .i64 0]) st3 ?_
     intro r14 h3 st4
     refine CI (b:=r14) (j:=0) (v:= .int .i64 ed.1) st4 rfl (by simp) ?_
     intro h4 st5
     refine CI (b:=r14) (j:=1) (v:= .int .i64 ed.2) st5 rfl (by simp) ?_
     intro h5 st6
     have st7:St ψ3 (Γ x3++(⟨Rep.raw 73, [.pointer (some ⟨r14,0,none⟩)], [.int .i64 ed.1, .int .i64 ed.2]⟩::F)) h5:=st6.perm (List.perm_middle (l₁:=Γ x3)).symm
     refine AF _ rfl (PG (v:= .nilFunc) (pc le03 st7) (st6.cell rfl) (kP.mono le03) st7 htm ?_)
     intro ψ4 h6 le4 st8
     refine Ao (fun (_:Unit) w g=> ∃ψ' x',Sub ψ2 ψ'∧al x'=g∧St ψ' (Γ x'++F) w) (g:=e2) ?_ ?_
     ·refine AK he2 rfl (fun _ he2=> ?_) (fun _ he2=> ?_)
      ·have st9:St ψ4 (⟨Rep.raw 73, [.pointer (some ⟨r14,0,none⟩)], [.int .i64 ed.1, .int .i64 ed.2]⟩::(Γ x3++F)) h6:=st8.perm (List.perm_middle (l₁:=Γ x3))
       refine AA (b:=r14) (j:=0) (x:=ed.1) st9 rfl ?_
       refine AA (b:=r14) (j:=1) (x:=ed.2) st9 rfl ?_
       refine AI (hcall ψ4 h6 x3 e2 z.1 ed.1 ed.2 _ (le03.trans le4) st8 he2) ?_
       rintro _ h7 ⟨rfl,ψ5,x5,le5,hx5,st10⟩
       refine ⟨(),rfl,?_⟩
       have st11:St ψ5 (⟨Rep.raw 73, [.pointer (some ⟨r14,0,none⟩)], [.int .i64 ed.1, .int .i64 ed.2]⟩::(Γ x5++F)) h7:=st10.perm (List.perm_middle (l₁:=Γ x5))
       exact AS () rfl ⟨ψ5,x5,(le3.trans le4).trans le5,hx5,st11.tail⟩
      ·obtain rfl:=iS he2
       have st9:St ψ4 (⟨Rep.raw 73, [.pointer (some ⟨r14,0,none⟩)], [.int .i64 ed.1, .int .i64 ed.2]⟩::(Γ x3++F)) h6:=st8.perm (List.perm_middle (l₁:=Γ x3))
       exact AS () rfl ⟨ψ4,x3,le3.trans le4,rfl,st9.tail⟩
     ·rintro _ h7 H
      exact Af (IntKind.wrap .i64 (z2.1+(1:Int)),()) _ rfl rfl ⟨hw2,H⟩
    ·rintro i2 z2 w2 ⟨rfl,ψ3,x3,le3,H⟩ hge
     refine AY (by rw [n8]; exact decide_eq_false (Int.not_lt.2 hge)) ?_
     exact AJ (AM z2 rfl ⟨ψ3,x3,(le.trans le2).trans le3,H⟩)
   ·rintro _ h7 H
    exact Af (IntKind.wrap .i64 (z.1+(1:Int)),()) _ rfl rfl ⟨hw,H⟩
  ·rintro i z w ⟨rfl,H⟩ hge
   refine AY (decide_eq_false (Int.not_lt.2 hge)) ?_
   exact AJ (AM z rfl H)
 ·rintro _ h7 H
  exact AB ⟨rfl,H⟩
end
theorem OD:Nn Tryz.prog 224:=⟨_,_,Tryz.underlying224,by kernel_rfl,by decide,by decide,rfl,rfl,Tryz.underlying3,Tryz.underlying3⟩
theorem PH:Nn Tryz.prog 141:=⟨_,_,Tryz.underlying141,by kernel_rfl,by decide,by decide,rfl,rfl,Tryz.underlying3,Tryz.underlying3⟩
theorem Uo:Gu Tryz.prog 134 134 224 2:=⟨Tryz.underlying134, .inl Tryz.underlying134,⟨Tryz.t224,by kernel_rfl,rfl,⟨_,rfl,rfl⟩,by decide,by decide⟩,by decide⟩
abbrev lkV (t:Slc×Slc×Slc×Slc×Slc×Slc×Unit) (ap:Option Addr) (fz:Slc×Slc×Slc×Int×Unit) (sl:Slc) (nm lm:Nat):List Value:=
 plV t++ [.pointer ap,sv fz.1,sv fz.2.1,sv fz.2.2.1, .int .i64 fz.2.2.2.1,sv sl, .map (some nm), .map (some lm)]
abbrev lkB (b:Nat) (t:Slc×Slc×Slc×Slc×Slc×Slc×Unit) (ap:Option Addr) (fz:Slc×Slc×Slc×Int×Unit) (sl:Slc) (nm lm:Nat):Chk:=cW 138 b (lkV t ap fz sl nm lm)
structure EnX where
 sl:Slc
 steps:List Stp
 num:List (Stp×Int)
abbrev enC (b:Nat) (t:Slc×Slc×Slc×Slc×Slc×Slc×Unit) (ap:Option Addr) (fz:Slc×Slc×Slc×Int×Unit) (nm lm:Nat) (x:EnX):List Chk:=
 [lkB b t ap fz x.sl nm lm,cR 224 Oe x.sl x.steps,cM Ca (Ro.int .i64) nm x.num]
section
variable {φ ψ:AC} {h:AE} {F:List Chk} {t:Slc×Slc×Slc×Slc×Slc×Slc×Unit} {p:dtP} {ap:Option Addr} {A:dtA} {fz:Slc×Slc×Slc×Int×Unit} {nm lm b:Nat}
theorem Rw {x:EnX} {n s to:Int} {r:EnS} (hd:I5 (x.steps,x.num) (n,s) to=some r) (s0:St φ (enC b t ap fz nm lm x++F) h):
 CallsH Tryz.prog 108 [.pointer (some ⟨b,0,none⟩), .agg #[.int .i64 n, .int .i64 s], .int .i64 to] h (Aq fun v h'=>v= .tuple #[] ∧ ∃ψ x',Sub φ ψ∧(x'.steps,x'.num)=r∧St ψ (enC b t ap fz nm lm x'++F) h'):=by
 refine AQ mixed Tryz.func108 ?_
 rw [show Ab Tryz.prog Tryz.f108 [.pointer (some ⟨b,0,none⟩), .agg #[.int .i64 n, .int .i64 s], .int .i64 to] =EA (some ⟨b,0,none⟩) (n,s,()) to from I2 (some ⟨b,0,none⟩) (n,s,()) to]
 unfold EA
 unfold I5 at hd
 obtain ⟨l,hl,hd⟩:=bS hd
 obtain rfl:=iS hd
 have hlen:=(s0.at1).rowLen
 refine AU (vs:= [.int .i64 n, .int .i64 s]) s0 ?_
 intro r1 h1 s1
 refine AF _ rfl ?_
 refine AA (b:=b) (j:=12) (x:=some nm) s1.at1 rfl ?_
 refine AA (b:=r1) (j:=0) (x:=n) s1 rfl ?_
 refine AA (b:=r1) (j:=1) (x:=s) s1 rfl ?_
 refine AF _ rfl ?_
 refine AA (b:=b) (j:=11) (x:=x.sl) s1.at1 rfl ?_
 refine IU (kk:=Ca) (k:=(n,s)) (y:=((x.steps.length:Nat):Int)) Tryz.underlying135 OD (s1.at3) (by rw [← hlen]; rfl) ?_
 intro h2 s2
 refine AF _ rfl ?_
 refine AA (b:=b) (j:=11) (x:=x.sl) (s2.at2) rfl ?_
 refine AA (b:=r1) (j:=0) (x:=n) (s2.at1) rfl ?_
 refine AA (b:=r1) (j:=1) (x:=s) (s2.at1) rfl ?_
 refine AU (vs:= [.int .i64 n, .int .i64 s]) s2 ?_
 intro r13 h3 s3
 refine AL (s3.at3.cell (b:=b) (j:=11) rfl) ?_
 have cw:=St.cells s3
 refine Am (r:=Oe) (ms:= [(n,s)]) Uo (s3.at4) rfl cw (.cons (a:= [_,_]) ⟨[_],_,rfl,rfl,rfl⟩ .nil) rfl hl ?_
 intro t14 h4 s4
 refine AF _ rfl ?_
 refine CI (b:=b) (j:=11) (v:=sv t14) (s4.at4) rfl (by simp) ?_
 intro h5 s5
 refine AB ⟨rfl,φ,⟨t14,l,Bn (n,s) ((x.steps.length:Nat):Int) x.num⟩,Sub.refl _,rfl,s5.at2.tail.at3.tail⟩
theorem V4 (l k:Option Addr):GG l k=Un l 108 fun n s to=> [.pointer k, .agg #[.int .i64 n, .int .i64 s], .int .i64 to] :=rfl
theorem Th (kA:Pt Fu φ ap A) (kP:PlK φ t p) {x:EnX} {s':EnS} (hd:M0 p A I5 (x.steps,x.num)=some s') (s0:St φ (enC b t ap fz nm lm x++F) h):
 CallsH Tryz.prog 107 [.pointer (some ⟨b,0,none⟩), .func (.func 108) #[.pointer (some ⟨b,0,none⟩)] #[]] h (Aq fun v h'=>v= .tuple #[] ∧ ∃ψ x',Sub φ ψ∧(x'.steps,x'.num)=s'∧St ψ (enC b t ap fz nm lm x'++F) h'):=by
 refine AQ mixed Tryz.func107 ?_
 rw [I0,V4]
 refine Q3 (φ:=φ) (F:=F) (A:=A) (ap:=ap) (t:=t) (p:=p) (fun x:EnX=>enC b t ap fz nm lm x) (fun x=>(x.steps,x.num)) I5 _ _ ?_ ?_ kA kP hd s0
 ·intro ψ x w Δ le st j v hv
  have hc:(lkV t ap fz x.sl nm lm)[j]? =some v:=by
   have e:lkV t ap fz x.sl nm lm=(plV t++ [.pointer ap]) ++ [sv fz.1,sv fz.2.1,sv fz.2.2.1, .int .i64 fz.2.2.2.1,sv x.sl, .map (some nm), .map (some lm)] :=rfl
   rw [e,List.getElem?_append_left (List.getElem?_eq_some_iff.1 hv).1]
   exact hv
  rw [Dl,Nat.zero_add]
  exact St.cell st hc
 ·intro ψ w x s' n s to Δ le st hf
  exact Rw hf st
end
abbrev Wk:Type:=LT
abbrev lkT (p:dtP) (A:dtA) (fa:dtF) (steps:List Stp) (nm lm:Option Nat):Wk:=(p.1,p.2.1,p.2.2.1,p.2.2.2.1,p.2.2.2.2.1,p.2.2.2.2.2,A,fa.1,fa.2.1,fa.2.2.1,fa.2.2.2,steps,nm,lm)
structure LkK (φ:AC) (a:Addr) (t:Slc×Slc×Slc×Slc×Slc×Slc×Unit) (ap:Option Addr) (fz:Slc×Slc×Slc×Int×Unit) (sl:Slc) (nm lm:Nat) (p:dtP) (A:dtA) (fa:dtF) (steps:List Stp):Prop where
 cells:Cs φ (some a) (lkV t ap fz sl nm lm)
 pl:PlK φ t p
 kA:Pt Fu φ ap A
 f0:Ro.SliceIs Ro.bool φ fz.1 fa.1
 f1:Ro.SliceIs (Ro.list (Ro.int .i64)) φ fz.2.1 fa.2.1
 f2:Ro.SliceIs (Ro.list (Ro.int .i64)) φ fz.2.2.1 fa.2.2.1
 f3:fz.2.2.2.1=fa.2.2.2
 ks:Ro.SliceIs Oe φ sl steps
section
variable {φ ψ:AC} {h:AE} {F:List Chk} {a:Addr} {t:Slc×Slc×Slc×Slc×Slc×Slc×Unit} {p:dtP} {ap:Option Addr} {A:dtA} {fz:Slc×Slc×Slc×Int×Unit} {sl:Slc} {nm lm b:Nat} {fa:dtF} {steps:List Stp}
theorem LkK.mono (H:LkK φ a t ap fz sl nm lm p A fa steps) (hs:Sub φ ψ):LkK ψ a t ap fz sl nm lm p A fa steps:=
 ⟨H.cells.mono hs,H.pl.mono hs,H.kA.mono hs,H.f0.mono hs,H.f1.mono hs,H.f2.mono hs,H.f3,H.ks.mono hs⟩
theorem LkK.at (H:LkK φ a t ap fz sl nm lm p A fa steps) (st:St φ F h) {j:Nat} {v:Value} (hv:(lkV t ap fz sl nm lm)[j]? =some v):BF h (a.add j)=some v:=AD st.sub (H.cells.at j hv)
theorem LkK.pv (H:LkK φ a t ap fz sl nm lm p A fa steps) (st:St φ F h): ∀j v,(plV t)[j]? =some v→BF h (a.add j)=some v:=fun j v hv=>H.at st (by
 rw [List.getElem?_append_left (List.getElem?_eq_some_iff.1 hv).1]; exact hv)
theorem LkK.pt (H:LkK φ a t ap fz sl nm lm p A fa steps):Pt Qf φ (some a) (lkT p A fa steps (some nm) (some lm)):=by
 refine ⟨a,_,rfl,?_,H.cells⟩
 exact ⟨[_],_,rfl,⟨t.1,rfl,H.pl.k0⟩, [_],_,rfl,⟨t.2.1,rfl,H.pl.k1⟩, [_],_,rfl,⟨t.2.2.1,rfl,H.pl.k2⟩, [_],_,rfl,⟨t.2.2.2.1,rfl,H.pl.k3⟩, [_],_,rfl,⟨t.2.2.2.2.1,rfl,H.pl.k4⟩, [_],_,rfl,⟨t.2.2.2.2.2.1,rfl,H.pl.k5⟩, [_],_,rfl,⟨ap,rfl,H.kA⟩,
  [_],_,rfl,⟨fz.1,rfl,H.f0⟩, [_],_,rfl,⟨fz.2.1,rfl,H.f1⟩, [_],_,rfl,⟨fz.2.2.1,rfl,H.f2⟩, [_],_,rfl,(show [Value.int .i64 fz.2.2.2.1] = [Value.int .i64 fa.2.2.2] by rw [H.f3]), [_],_,rfl,⟨sl,rfl,H.ks⟩, [_],_,rfl,rfl,rfl⟩
end
abbrev RdS:Type:=List AT×List (List Int)
noncomputable def Me (p:dtP) (A:dtA) (fa:dtF) (steps:List Stp) (num:List (Stp×Int)) (st:RdS) (s:Stp) (to:Int):Option RdS:=
 (Bj (nT p)).bind fun s0=>
 (BX (lkT p A fa steps none none) to 0).bind fun b=>
 (cond b ((Ap s0 0).bind fun u=>some u.2) (some s0)).bind fun s1=>
 (Bx A to).bind fun es=>
 (forS (σ:=AT×List Int) 0 ((es.length:Nat):Int) (s1, []) fun j z=>(idx es j).bind fun e=>(BV p e.1).bind fun t=>
  cond t ((Ap z.1 e.1).bind fun u=>some (u.2,z.2))
   ((idx fa.1 (IntKind.wrap .i64 (e.1 - nT p))).bind fun b=>cond b ((app z.2 [(BH (to,e.1) num).getD 0]).bind fun l=>some (z.1,l)) (some z))).bind fun z=>
 (app st.1 [z.1]).bind fun d'=>(app st.2 [z.2]).bind fun e'=>some (d',e')
structure RdX where
 dl:Slc
 el:Slc
 ps:List (Option Addr)
 ds:List AT
 es:List (List Int)
 eq:ps.length=ds.length
abbrev rdC (c3 c4 nm:Nat) (num:List (Stp×Int)) (x:RdX):List Chk:=
 cW 195 c3 [sv x.dl] ::cW 97 c4 [sv x.el] ::EH x.dl x.ps::P7 x.el x.es::cM Ca (Ro.int .i64) nm num::AN x.ps x.ds
theorem Ti:Gu Tryz.prog 30 30 3 1:=SY
section
variable {φ ψ:AC} {h:AE} {F:List Chk} {a:Addr} {t:Slc×Slc×Slc×Slc×Slc×Slc×Unit} {p:dtP} {ap:Option Addr} {A:dtA} {fz:Slc×Slc×Slc×Int×Unit} {sl:Slc} {nm lm b:Nat} {fa:dtF} {steps:List Stp}
theorem OE {c3 c4:Nat} {num:List (Stp×Int)} {x:RdX} {q:Option Addr} {s:AT} {d e:Slc} {es:List (List Int)}
 (H:St φ (cW 97 c4 [sv e] ::cW 195 c3 [sv d] ::P7 e es::EH d (x.ps++ [q])::BN q s::cM Ca (Ro.int .i64) nm num::(AN x.ps x.ds++F)) h):
 St φ (rdC c3 c4 nm num ⟨d,e,x.ps++ [q],x.ds++ [s],es,by simp [x.eq]⟩ ++F) h:=by
 have e1:AN (x.ps++ [q]) (x.ds++ [s])=AN x.ps x.ds++ [BN q s] :=JF x.eq q s
 show St φ (cW 195 c3 [sv d] ::cW 97 c4 [sv e] ::EH d (x.ps++ [q])::P7 e es::cM Ca (Ro.int .i64) nm num::(AN (x.ps++ [q]) (x.ds++ [s]) ++F)) h
 rw [e1,List.append_assoc]
 refine H.perm ?_
 refine (List.Perm.swap _ _ _).trans (List.Perm.cons _ (List.Perm.cons _ ((List.Perm.swap _ _ _).trans (List.Perm.cons _ (List.Perm.cons _ ((List.Perm.swap _ _ _).trans (List.Perm.cons _ ?_)))))))
 exact (List.perm_middle (l₁:=AN x.ps x.ds)).symm
set_option maxHeartbeats 4000000 in
theorem QS {c2 c3 c4:Nat} (K:LkK φ a t ap fz sl nm lm p A fa steps) (hbox:DL φ ⟨c2,0,none⟩=some (.pointer (some a))) {num:List (Stp×Int)} {x:RdX} {n s to:Int} {r:RdS} (hd:Me p A fa steps num (x.ds,x.es) (n,s) to=some r) (s0:St φ (rdC c3 c4 nm num x++F) h):
 CallsH Tryz.prog 137 [.agg #[.int .i64 n, .int .i64 s], .int .i64 to, .pointer (some ⟨c2,0,none⟩), .pointer (some ⟨c3,0,none⟩), .pointer (some ⟨c4,0,none⟩)] h (Aq fun v h'=>v= .tuple #[] ∧ ∃ψ x',Sub φ ψ∧(x'.ds,x'.es)=r∧St ψ (rdC c3 c4 nm num x'++F) h'):=by
 refine AQ mixed Tryz.func137 ?_
 rw [show Ab Tryz.prog Tryz.f137 [.agg #[.int .i64 n, .int .i64 s], .int .i64 to, .pointer (some ⟨c2,0,none⟩), .pointer (some ⟨c3,0,none⟩), .pointer (some ⟨c4,0,none⟩)] =DZ (n,s,()) to c2 c3 c4 from Hg (n,s,()) to c2 c3 c4]
 unfold DZ
 unfold Me at hd
 obtain ⟨s00,hs0,hd⟩:=bS hd
 obtain ⟨b,hb,hd⟩:=bS hd
 obtain ⟨s01,hs1,hd⟩:=bS hd
 obtain ⟨es,hes,hd⟩:=bS hd
 obtain ⟨zz,hzz,hd⟩:=bS hd
 obtain ⟨d',hd',hd⟩:=bS hd
 obtain ⟨e',he',hd⟩:=bS hd
 obtain rfl:=iS hd
 have bx: ∀ {ψ:AC} {Γ:List Chk} {w:AE},Sub φ ψ→St ψ Γ w→BF w ⟨c2,0,none⟩=some (.pointer (some a)):=fun le st=>AD st.sub (Ak le hbox)
 have n0:t.1.2.1=p.1.length:=K.pl.k0.length
 refine AU (vs:= [.int .i64 n, .int .i64 s]) s0 ?_
 intro r1 h1 s1
 have s1:=s1.tail
 refine AH (x:=some a) (bx (Sub.refl _) s1) rfl ?_
 refine AF _ rfl ?_
 refine AH (x:=t.1) (by have:=K.at s1 (j:=0) rfl; rwa [add_zero] at this) rfl ?_
 rw [n0]
 refine AI (DU s1 hs0) ?_
 rintro _ h2 ⟨ψ2,q,l2,le2,rfl,rfl,s2⟩
 refine ⟨q,rfl,?_⟩
 refine AH (x:=some a) (bx le2 s2) rfl ?_
 refine AI (Dp (K.mono le2).pt s2 (show BX (lkT p A fa steps (some nm) (some lm)) to 0=some b from hb)) ?_
 rintro _ h3 ⟨ψ3,y3,le3,rfl,rfl,s3⟩
 refine ⟨y3,rfl,?_⟩
 have le03:=le2.trans le3
 refine Ao (fun (_:Unit) w g=> ∃ψ,Sub φ ψ∧St ψ (BN q g::(rdC c3 c4 nm num x++F)) w) (g:=s01) ?_ ?_
 ·refine AK hs1 rfl (fun _ hs1=> ?_) (fun _ hs1=> ?_)
  ·obtain ⟨u,hu,hs1⟩:=bS hs1
   obtain rfl:=iS hs1
   refine AI (B8 s3 hu) ?_
   rintro _ h4 ⟨ψ4,y4,l4,le4,rfl,e4,s4⟩
   refine ⟨y4,rfl,?_⟩
   have:u.2=l4:=by rw [← e4]
   rw [this]
   exact AS () rfl ⟨ψ4,le03.trans le4,s4⟩
  ·obtain rfl:=iS hs1
   exact AS () rfl ⟨ψ3,le03,s3⟩
 ·rintro _ h4 ⟨ψ4,le4,s4⟩
  refine AH (x:=some a) (bx le4 s4) rfl ?_
  refine AF _ rfl ?_
  refine AH (x:=ap) ((K.mono le4).at s4 (j:=6) rfl) rfl ?_
  refine AI (Eh (K.mono le4).kA s4 hes) ?_
  rintro _ h5 ⟨ψ5,t13,l5,le5,rfl,rfl,k13,s5⟩
  refine ⟨t13,rfl,?_⟩
  have n13:=k13.length
  have le05:=le4.trans le5
  refine AV (fun (z:Int×Slc×Unit) w g=> ∃ψ,Sub φ ψ∧St ψ (cR 3 (Ro.int .i64) z.2.1 g.2::BN q g.1::(rdC c3 c4 nm num x++F)) w) (g:=zz) ?_ ?_
  ·refine BL hzz (fun i (z:Int×Slc×Unit) w g=>z.1=i∧ ∃ψ,Sub ψ5 ψ∧St ψ (cR 3 (Ro.int .i64) z.2.1 g.2::BN q g.1::(rdC c3 c4 nm num x++F)) w) ((0:Int),((none,0,0):Slc),()) rfl ⟨rfl,ψ5,Sub.refl _,St.nil _ _ s5⟩ ?_ ?_
   ·rintro i z w ⟨gs,gl⟩ e ⟨rfl,ψ6,le6,s6⟩ he h0 hlt hw
    dsimp only at s6 he
    have le06:=le05.trans le6
    refine Ag (by rw [n13]; exact decide_eq_true hlt) ?_
    obtain ⟨ed,hed,he⟩:=bS he
    obtain ⟨tm,htm,he⟩:=bS he
    obtain ⟨A1,cs1,ea1,hi1,q1,cl1⟩:=(k13.mono le6).get hed
    refine AF _ ea1 (Ac hi1 ?_)
    obtain ⟨_,_,rfl,q2,q3⟩:=q1
    obtain rfl:=q2
    obtain rfl:=q3
    refine AH (x:=ed.1) (AD s6.sub (cl1 0 _ rfl)) rfl ?_
    refine AH (x:=ed.2) (by rw [Ad]; exact AD s6.sub (cl1 1 _ rfl)) rfl ?_
    refine AU (vs:= [.int .i64 0, .int .i64 0]) s6 ?_
    intro r19 h7 s7
    refine CI (b:=r19) (j:=0) (v:= .int .i64 ed.1) s7 rfl (by simp) ?_
    intro h8 s8
    refine CI (b:=r19) (j:=1) (v:= .int .i64 ed.2) s8 rfl (by simp) ?_
    intro h9 s9
    refine AH (x:=some a) (bx le06 s9) rfl ?_
    refine AF _ rfl (PG (v:= .nilFunc) ((K.mono le06).pv s9) (s9.cell rfl) (K.mono le06).pl s9 htm ?_)
    intro ψ10 h10 le10 s10
    have le010:=le06.trans le10
    refine Ao (fun (y:Slc×Unit) w g=> ∃ψ,Sub ψ5 ψ∧St ψ (cR 3 (Ro.int .i64) y.1 g.2::BN q g.1::(rdC c3 c4 nm num x++F)) w) (g:=e) ?_ ?_
    ·refine AK he rfl (fun _ he=> ?_) (fun _ he=> ?_)
     ·obtain ⟨u,hu,he⟩:=bS he
      obtain rfl:=iS he
      refine AA (b:=r19) (j:=0) (x:=ed.1) s10 rfl ?_
      refine AI (B8 (s10.tail.at1) hu) ?_
      rintro _ h11 ⟨ψ11,y11,l11,le11,rfl,e11,s11⟩
      refine ⟨y11,rfl,?_⟩
      have:u.2=l11:=by rw [← e11]
      rw [this]
      exact AS (z.2.1,()) rfl ⟨ψ11,(le6.trans le10).trans le11,s11.at1⟩
     ·obtain ⟨bb,hbb,he⟩:=bS he
      refine AH (x:=some a) (bx le010 s10) rfl ?_
      refine AF _ rfl ?_
      refine AH (x:=fz.1) ((K.mono le010).at s10 (j:=7) rfl) rfl ?_
      refine AA (b:=r19) (j:=0) (x:=ed.1) s10 rfl ?_
      refine AH (x:=some a) (bx le010 s10) rfl ?_
      refine AF _ rfl ?_
      refine AH (x:=t.1) (by have:=(K.mono le010).at s10 (j:=0) rfl; rwa [add_zero] at this) rfl ?_
      rw [n0]
      obtain ⟨A2,cs2,ea2,hi2,q4,cl2⟩:=((K.mono le010).f0).get hbb
      refine AF _ ea2 (Ac hi2 ?_)
      obtain rfl:=q4
      refine AH (x:=bb) (AD s10.sub (cl2 0 _ rfl)) rfl ?_
      refine Ao (fun (y:Slc×Unit) w g=> ∃ψ,Sub ψ5 ψ∧St ψ (cR 3 (Ro.int .i64) y.1 g.2::BN q g.1::(rdC c3 c4 nm num x++F)) w) (g:=e) ?_ ?_
      ·refine AK he rfl (fun _ he=> ?_) (fun _ he=> ?_)
       ·obtain ⟨l',hl',he⟩:=bS he
        obtain rfl:=iS he
        refine AH (x:=some a) (bx le010 s10) rfl ?_
        refine AF _ rfl ?_
        refine AH (x:=some nm) ((K.mono le010).at s10 (j:=12) rfl) rfl ?_
        refine AA (b:=r19) (j:=0) (x:=ed.1) s10 rfl ?_
        refine Fj (kk:=Ca) (a:= .int .i64) (k:=(to,ed.1)) (m:=num) (0:Int) Tryz.underlying135 OD (i:=Tryz.t3) (by kernel_rfl) rfl (s10.at7) ?_
        refine AU (vs:= [.int .i64 ((BH (to,ed.1) num).getD 0)]) s10 ?_
        intro r48 h11 s11
        have cw:=St.cells s11
        refine Am (r:=Ro.int .i64) (ms:= [(BH (to,ed.1) num).getD 0]) Ti (s11.at2) rfl cw (.cons (a:= [_]) rfl .nil) rfl hl' ?_
        intro t49 h12 s12
        exact AS (t49,()) rfl ⟨ψ10,le6.trans le10,s12.at1.tail.at1.tail⟩
       ·obtain rfl:=iS he
        exact AS (z.2.1,()) rfl ⟨ψ10,le6.trans le10,s10.tail⟩
      ·rintro y h11 H
       exact AS (y.1,()) rfl H
    ·rintro y h11 H
     exact Af (IntKind.wrap .i64 (z.1+(1:Int)),y.1,()) _ rfl rfl ⟨hw,H⟩
   ·rintro i z w ⟨rfl,ψ6,le6,H⟩ hge
    refine AY (by rw [n13]; exact decide_eq_false (Int.not_lt.2 hge)) ?_
    exact AJ (AM z rfl ⟨ψ6,le05.trans le6,H⟩)
  ·rintro z14 h6 ⟨ψ6,le6,s6⟩
   obtain ⟨ψ7,le7,k14,s7⟩:=St.freezeRow (t:=z14.2.1) s6
   have le07:=le6.trans le7
   obtain ⟨hap,rfl⟩:=Ke hd' x.eq q
   refine AA (b:=c3) (j:=0) (x:=x.dl) s7.at1 rfl ?_
   refine AA (b:=c4) (j:=0) (x:=x.el) s7.at2 rfl ?_
   refine FO ?_ ?_
   ·refine AU (vs:= [.pointer q]) s7 ?_
    intro r52 h8 s8
    refine AL (s8.at3.cell rfl) ?_
    refine AL (s8.at2.cell rfl) ?_
    have cw:=St.cells s8
    refine FO ?_ ?_
    ·refine Am (r:=Ro.pt) (ms:= [q]) NI (s8.at4) rfl cw (.cons (a:= [_]) rfl .nil) rfl hap ?_
     intro t53 h9 s9
     refine AL (s9.at4.cell rfl) ?_
     refine AU (vs:= [sv z14.2.1]) s9 ?_
     intro r54 h10 s10
     refine AL (s10.at5.cell rfl) ?_
     have cw2:=St.cells s10
     refine Am (r:=Ro.list (Ro.int .i64)) (ms:= [zz.2]) Qn (s10.at6) rfl cw2 (.cons (a:= [_]) ⟨z14.2.1,rfl,k14⟩ .nil) rfl he' ?_
     intro t55 h11 s11
     refine CI (b:=c3) (j:=0) (v:=sv t53) (s11.at5) rfl (by simp) ?_
     intro h12 s12
     refine CI (b:=c4) (j:=0) (v:=sv t55) (s12.at6) rfl (by simp) ?_
     intro h13 s13
     exact AB ⟨rfl,ψ7,⟨t53,t55,x.ps++ [q],x.ds++ [zz.1],e',by simp [x.eq]⟩,le07,rfl,OE s13.at3.tail.at4.tail⟩
    ·refine AU (vs:= [sv z14.2.1]) s8 ?_
     intro r56 h9 s9
     refine AL (s9.at4.cell rfl) ?_
     refine AL (s9.at3.cell rfl) ?_
     have cw1:=St.cells s9.at1
     refine Am (r:=Ro.pt) (ms:= [q]) NI (s9.at5) rfl cw1 (.cons (a:= [_]) rfl .nil) rfl hap ?_
     intro t57 h10 s10
     refine AL (s10.at5.cell rfl) ?_
     have cw2:=St.cells s10.at1
     refine Am (r:=Ro.list (Ro.int .i64)) (ms:= [zz.2]) Qn (s10.at6) rfl cw2 (.cons (a:= [_]) ⟨z14.2.1,rfl,k14⟩ .nil) rfl he' ?_
     intro t58 h11 s11
     refine CI (b:=c3) (j:=0) (v:=sv t57) (s11.at5) rfl (by simp) ?_
     intro h12 s12
     refine CI (b:=c4) (j:=0) (v:=sv t58) (s12.at6) rfl (by simp) ?_
     intro h13 s13
     exact AB ⟨rfl,ψ7,⟨t57,t58,x.ps++ [q],x.ds++ [zz.1],e',by simp [x.eq]⟩,le07,rfl,OE s13.at4.tail.at4.tail⟩
   ·refine AU (vs:= [sv z14.2.1]) s7 ?_
    intro r59 h8 s8
    refine AL (s8.at3.cell rfl) ?_
    refine AL (s8.at2.cell rfl) ?_
    refine AU (vs:= [.pointer q]) s8 ?_
    intro r60 h9 s9
    refine AL (s9.at4.cell rfl) ?_
    refine AL (s9.at3.cell rfl) ?_
    have cw1:=St.cells s9
    refine Am (r:=Ro.pt) (ms:= [q]) NI (s9.at5) rfl cw1 (.cons (a:= [_]) rfl .nil) rfl hap ?_
    intro t61 h10 s10
    refine AL (s10.at5.cell rfl) ?_
    have cw2:=St.cells s10.at2
    refine Am (r:=Ro.list (Ro.int .i64)) (ms:= [zz.2]) Qn (s10.at6) rfl cw2 (.cons (a:= [_]) ⟨z14.2.1,rfl,k14⟩ .nil) rfl he' ?_
    intro t62 h11 s11
    refine CI (b:=c3) (j:=0) (v:=sv t61) (s11.at5) rfl (by simp) ?_
    intro h12 s12
    refine CI (b:=c4) (j:=0) (v:=sv t62) (s12.at6) rfl (by simp) ?_
    intro h13 s13
    exact AB ⟨rfl,ψ7,⟨t61,t62,x.ps++ [q],x.ds++ [zz.1],e',by simp [x.eq]⟩,le07,rfl,OE s13.at4.tail.at4.tail⟩
end
noncomputable def LK (p:dtP) (A:dtA) (fa:dtF) (steps:List Stp) (num:List (Stp×Int)):Option RdS:=M0 p A (Me p A fa steps num) ([], [])
noncomputable def Tj (p:dtP) (A:dtA) (fa:dtF) (num:List (Stp×Int)) (n:Int) (right:List Int) (i:Int) (z:Int×List (List Int)):Option (Int×List (List Int)):=
 (idx right i).bind fun sym=>
 need (0≤i∧i< ((right.length:Nat):Int)) <|
 (Ch fa p (right.drop (i+1).toNat)).bind fun sq=>
 (cond sq.2 ((BV p sym).bind fun t=>some (!t)) (some false)).bind fun b=>
 (cond b ((idx z.2 ((BH (z.1,sym) num).getD 0)).bind fun row=>(app row [n]).bind fun row'=>Dm z.2 ((BH (z.1,sym) num).getD 0) row') (some z.2)).bind fun E'=>
 (BO A z.1 sym).bind fun st=>some (st,E')
noncomputable def Fl (p:dtP) (A:dtA) (fa:dtF) (steps:List Stp) (num:List (Stp×Int)):Option (List (List Int)):=
 (E0 ((steps.length:Nat):Int) ([] :List Int)).bind fun e0=>
 forS (σ:=List (List Int)) 0 ((steps.length:Nat):Int) e0 fun n E=>(idx steps n).bind fun s=>
  forS (σ:=List (List Int)) 0 ((p.2.2.1.length:Nat):Int) E fun k E=>(idx p.2.2.1 k).bind fun r=>
   cond (r.1 !=s.2) (some E)
    ((forS (σ:=Int×List (List Int)) 0 ((r.2.1.length:Nat):Int) (s.1,E) (Tj p A fa num n r.2.1)).bind fun z=>some z.2)
section
variable {φ ψ:AC} {h:AE} {F:List Chk} {a:Addr} {t:Slc×Slc×Slc×Slc×Slc×Slc×Unit} {p:dtP} {ap:Option Addr} {A:dtA} {fz:Slc×Slc×Slc×Int×Unit} {sl:Slc} {nm lm b:Nat} {fa:dtF} {steps:List Stp}
theorem V5 (l:Option Addr) (c2 c3 c4:Nat):GI l c2 c3 c4=Un l 137 fun n s to=> [.agg #[.int .i64 n, .int .i64 s], .int .i64 to, .pointer (some ⟨c2,0,none⟩), .pointer (some ⟨c3,0,none⟩), .pointer (some ⟨c4,0,none⟩)] :=rfl
theorem Tl {c2 c3 c4:Nat} (K:LkK φ a t ap fz sl nm lm p A fa steps) (hbox:DL φ ⟨c2,0,none⟩=some (.pointer (some a))) {num:List (Stp×Int)} {x:RdX} {r:RdS} (hd:M0 p A (Me p A fa steps num) (x.ds,x.es)=some r) (s0:St φ (rdC c3 c4 nm num x++F) h):
 CallsH Tryz.prog 107 [.pointer (some a), .func (.func 137) #[] #[.pointer (some ⟨c2,0,none⟩), .pointer (some ⟨c3,0,none⟩), .pointer (some ⟨c4,0,none⟩)]] h (Aq fun v h'=>v= .tuple #[] ∧ ∃ψ x',Sub φ ψ∧(x'.ds,x'.es)=r∧St ψ (rdC c3 c4 nm num x'++F) h'):=by
 refine AQ mixed Tryz.func107 ?_
 rw [I1,V5]
 refine Q3 (φ:=φ) (F:=F) (A:=A) (ap:=ap) (t:=t) (p:=p) (fun x:RdX=>rdC c3 c4 nm num x) (fun x=>(x.ds,x.es)) (Me p A fa steps num) _ _ ?_ ?_ K.kA K.pl hd s0
 ·intro ψ x w Δ le st j v hv
  refine (K.mono le).at st ?_
  have e:lkV t ap fz sl nm lm=(plV t++ [.pointer ap]) ++ [sv fz.1,sv fz.2.1,sv fz.2.2.1, .int .i64 fz.2.2.2.1,sv sl, .map (some nm), .map (some lm)] :=rfl
  rw [e,List.getElem?_append_left (List.getElem?_eq_some_iff.1 hv).1]
  exact hv
 ·intro ψ w x s' n s to Δ le st hf
  exact QS (K.mono le) (Ak le hbox) hf st
theorem Rx (K:LkK φ a t ap fz sl nm lm p A fa steps) {num:List (Stp×Int)} {r:RdS} (hd:LK p A fa steps num=some r) (s0:St φ (cM Ca (Ro.int .i64) nm num::F) h):
 CallsH Tryz.prog 109 [.pointer (some a)] h (Aq fun v h'=> ∃(ψ:AC) (y1 y2:Slc) (ps:List (Option Addr)),Sub φ ψ∧v=((.tuple [aS,aS]):Sh).val (y1,y2,())∧ps.length=r.1.length∧Ro.SliceIs Ro.pt ψ y1 ps∧Ro.SliceIs (Ro.list (Ro.int .i64)) ψ y2 r.2∧St ψ (AN ps r.1++(cM Ca (Ro.int .i64) nm num::F)) h'):=by
 refine AQ mixed Tryz.func109 ?_
 rw [I3]
 unfold GJ
 unfold LK at hd
 refine AU (vs:= [.pointer (some a)]) s0 ?_
 intro r1 h1 s1
 obtain ⟨φ1,le1,c1,s1⟩:=Dg.St.box s1
 refine AU (vs:= [.slice none 0 0]) s1 ?_
 intro r2 h2 s2
 refine AU (vs:= [.slice none 0 0]) s2 ?_
 intro r3 h3 s3
 refine AH (x:=some a) (AD s3.sub c1) rfl ?_
 have s4:St φ1 (rdC r2 r3 nm num ⟨(none,0,0),(none,0,0), [], [], [],rfl⟩ ++F) h3:=(St.nil 139 Ro.pt (St.nil 30 (Ro.list (Ro.int .i64)) s3.at1)).at3.at3
 refine AI (Tl (K.mono le1) c1 (x:=⟨(none,0,0),(none,0,0), [], [], [],rfl⟩) hd s4) ?_
 rintro _ h4 ⟨rfl,ψ2,x',le2,hx,s5⟩
 refine ⟨(),rfl,?_⟩
 obtain ⟨dl,el,ps,ds,es,eq⟩:=x'
 obtain rfl:=hx
 refine AA (b:=r2) (j:=0) (x:=dl) s5 rfl ?_
 refine AA (b:=r3) (j:=0) (x:=el) s5.at1 rfl ?_
 obtain ⟨ψ3,le3,k1,s6⟩:=St.freezeRow (t:=dl) s5.at2
 obtain ⟨ψ4,le4,k2,s7⟩:=St.freezeRow (t:=el) s6.at2
 exact AB ⟨ψ4,dl,el,ps,((le1.trans le2).trans le3).trans le4,rfl,eq,k1.mono le4,k2,s7.tail.tail.perm (List.perm_middle (l₁:=AN ps ds)).symm⟩
end
theorem WZ:NA Tryz.prog 97 30 (.slice none 0 0):=⟨Tryz.underlying97,⟨Tryz.t30,by kernel_rfl,rfl,⟨_,rfl,rfl⟩,by decide⟩⟩
theorem Tm {α:Type} {e:TypeId} {r:Ro α} {φ:AC} {h:AE} {F:List Chk} (st:St φ F h): ∀n:Nat,St φ (NB e r (List.replicate n ((none,0,0):Slc)) (List.replicate n []) ++F) h:=by
 intro n
 induction n with
 | zero=>exact st
 | succ n ih=>exact St.nil e r ih
theorem Tn {α:Type} {r:Ro α} {φ:AC} : ∀ {ts:List Slc} {E:List (List α)} {vs:List Value},ts.length=E.length→(∀(i:Nat) t l,ts[i]? =some t→E[i]? =some l→Ro.SliceIs r φ t l)→Ro.slc.All φ vs ts→(Ro.list r).All φ vs E:=by
 intro ts
 induction ts with
 | nil=>
  intro E vs hl hk H
  cases E with
  | nil=>cases H; exact .nil
  | cons _ _=>cases hl
 | cons t ts ih=>
  intro E vs hl hk H
  cases E with
  | nil=>cases hl
  | cons l E=>
   cases H with
   | @cons x v _ _ hx hr=>
    obtain rfl:x= [sv t] :=hx
    exact Ro.All.cons (a:= [_]) ⟨t,rfl,hk 0 t l rfl rfl⟩ (ih (by simpa using hl) (fun i t' l' h1 h2=>hk (i+1) t' l' (by simpa using h1) (by simpa using h2)) hr)
theorem QU {α:Type} {r:Ro α} {φ:AC} {o:Slc} {ts:List Slc} {E:List (List α)} (hl:ts.length=E.length) (hk: ∀(i:Nat) t l,ts[i]? =some t→E[i]? =some l→Ro.SliceIs r φ t l) (H:Ro.SliceIs Ro.slc φ o ts):Ro.SliceIs (Ro.list r) φ o E:=by
 obtain ⟨g1,g2,g3,g4,vs,g5,g6⟩:=H
 exact ⟨hl.symm.trans g1,g2,g3,fun hp=>List.eq_nil_of_length_eq_zero (by rw [← hl,g4 hp]; rfl),vs,Tn hl hk g5,g6⟩
abbrev Ll (o:Slc) (ts:List Slc) (E:List (List Int)) (Δ:List Chk):List Chk:=cR 30 Ro.slc o ts::(NB 3 (Ro.int .i64) ts E++Δ)
section
variable {φ ψ:AC} {h:AE} {F:List Chk} {a:Addr} {t:Slc×Slc×Slc×Slc×Slc×Slc×Unit} {p:dtP} {ap:Option Addr} {A:dtA} {fz:Slc×Slc×Slc×Int×Unit} {sl:Slc} {nm lm b:Nat} {fa:dtF} {steps:List Stp}
theorem Up {o:Slc} {ts:List Slc} {E E':List (List Int)} {Δ:List Chk} {k n:Int} {row row':List Int} {K:T} {P:Be→AE→Prop} (hl:ts.length=E.length) (h1:idx E k=some row) (h2:app row [n] =some row') (h3:Dm E k row'=some E') (st:St φ (Ll o ts E Δ) h)
 (hk: ∀ts' h',ts'.length=E'.length→St φ (Ll o ts' E' Δ) h'→K.wp Tryz.prog P h'):
 (deref o.1 fun a57=>chk (0≤k∧k< (o.2.1:Nat)) <| T.load .slice (a57.add (Int.toNat k * 1)) fun (t58:Slc)=>T.new (.cells #[(.int .i64 n)] 3 (0,0)) fun r59=>
  T.sem (Builtin.append_ #[30,30] 30 #[(sv t58),(.slice (some ⟨r59,0,none⟩) 1 1)]) (.one aS) fun (t60:Slc)=>
  deref o.1 fun a61=>chk (0≤k∧k< (o.2.1:Nat)) <| T.store (a61.add (Int.toNat k * 1)) (sv t60) <| K).wp Tryz.prog P h:=by
 obtain ⟨k0,k1,k2⟩:=Ct h1
 have hlt:k.toNat<ts.length:=by omega
 have hu:=List.getElem?_eq_getElem hlt
 obtain ⟨u,hu'⟩: ∃u,ts[k.toNat] =u:=⟨_,rfl⟩
 rw [hu'] at hu
 have hi:idx ts k=some u:=by rw [JC k0 hlt,hu']
 obtain ⟨A1,cs1,ea1,hi1,r1,cl1⟩:=St.get st hi
 refine AF _ ea1 (Ac hi1 ?_)
 obtain rfl:=r1
 refine AH (x:=u) (cl1 0 _ rfl) rfl ?_
 refine AU (vs:= [.int .i64 n]) st ?_
 intro r59 h4 s4
 have cw:=St.cells s4
 obtain ⟨rest,p1,p2⟩:=RV (f:=cR 3 (Ro.int .i64)) hu k2
 have s5:St φ (cR 3 (Ro.int .i64) u row::cW 3 r59 [.int .i64 n] ::cR 30 Ro.slc o ts::(rest++Δ)) h4:=
  s4.perm ((List.Perm.cons _ (List.Perm.cons _ (List.Perm.append_right Δ p1))).trans (Ay 2 (cW 3 r59 [.int .i64 n] ::cR 30 Ro.slc o ts::cR 3 (Ro.int .i64) u row::(rest++Δ))))
 refine Am (r:=Ro.int .i64) (ms:= [n]) Ti s5 rfl cw (.cons (a:= [_]) rfl .nil) rfl h2 ?_
 intro t60 h6 s6
 obtain ⟨e0,e1,rfl⟩:=Dc h3
 have hset:Dm ts k t60=some (ts.set k.toNat t60):=by unfold Dm; rw [if_pos ⟨k0,by omega⟩]
 have s7:=s6.at2
 obtain ⟨A2,ea2,q2⟩:=s7.there hset
 refine AF _ ea2 (Ac q2 (Ht s7 hset rfl ea2 ?_))
 intro h8 s8
 refine hk (ts.set k.toNat t60) h8 (by simp [hl]) ?_
 have s9:=s8.at2.tail
 exact s9.perm (List.Perm.cons _ (List.Perm.append_right Δ (p2 t60 row').symm))
theorem Uq {K:Slc→Slc→Slc→Slc→Slc→Slc→T} {P:Be→AE→Prop} (hc: ∀j v,(plV t)[j]? =some v→BF h (a.add j)=some v) (H:(K t.1 t.2.1 t.2.2.1 t.2.2.2.1 t.2.2.2.2.1 t.2.2.2.2.2.1).wp Tryz.prog P h):
 (T.load .slice a fun (t3:Slc)=>T.load .slice (a.add 1) fun (t4:Slc)=>T.load .slice (a.add 2) fun (t5:Slc)=>T.load .slice (a.add 3) fun (t6:Slc)=>T.load .slice (a.add 4) fun (t7:Slc)=>T.load .slice (a.add 5) fun (t8:Slc)=>K t3 t4 t5 t6 t7 t8).wp Tryz.prog P h:=by
 refine AH (x:=t.1) (by have:=hc 0 _ rfl; rwa [add_zero] at this) rfl ?_
 refine AH (x:=t.2.1) (hc 1 _ rfl) rfl ?_
 refine AH (x:=t.2.2.1) (hc 2 _ rfl) rfl ?_
 refine AH (x:=t.2.2.2.1) (hc 3 _ rfl) rfl ?_
 refine AH (x:=t.2.2.2.2.1) (hc 4 _ rfl) rfl ?_
 exact AH (x:=t.2.2.2.2.2.1) (hc 5 _ rfl) rfl H
theorem Bt {b:Nat} {vs:List Value} (c:Cs φ (some ⟨b,0,none⟩) vs) (st:St φ F h) {j:Nat} {v:Value} (hv:vs[j]? =some v):BF h ⟨b,j,none⟩=some v:=by
 have:=AD st.sub (c.at j hv)
 rwa [Dl,Nat.zero_add] at this
set_option maxHeartbeats 4000000 in
theorem OF (gk:Dg.Glob φ) (K:LkK φ a t ap fz sl nm lm p A fa steps) {num:List (Stp×Int)} {r:List (List Int)} (hd:Fl p A fa steps num=some r) (s0:St φ (cM Ca (Ro.int .i64) nm num::F) h):
 CallsH Tryz.prog 112 [.pointer (some a)] h (Aq fun v h'=> ∃(ψ:AC) (y:Slc),Sub φ ψ∧v=((.one aS):Sh).val y∧Ro.SliceIs (Ro.list (Ro.int .i64)) ψ y r∧St ψ (cM Ca (Ro.int .i64) nm num::F) h'):=by
 refine AQ mixed Tryz.func112 ?_
 rw [HF]
 unfold Ej
 unfold Fl at hd
 obtain ⟨e0,he0,hd⟩:=bS hd
 obtain ⟨m0,m1,rfl⟩:=L3 he0
 have nS:sl.2.1=steps.length:=K.ks.length
 have nR:t.2.2.1.2.1=p.2.2.1.length:=K.pl.k2.length
 obtain ⟨D0,hD0⟩: ∃D0:List Chk,D0=cM Ca (Ro.int .i64) nm num::F:=⟨_,rfl⟩
 refine AF _ rfl ?_
 refine AH (x:=sl) (K.at s0 (j:=11) rfl) rfl ?_
 refine IW (r:=Ro.slc) (x:=((none,0,0):Slc)) (l:=List.replicate ((steps.length:Nat):Int).toNat ((none,0,0):Slc)) WZ s0 rfl rfl (by rw [nS]; unfold E0; rw [if_pos ⟨m0,m1⟩]) ?_
 intro o h1 s1
 have s2:St φ (Ll o (List.replicate ((steps.length:Nat):Int).toNat ((none,0,0):Slc)) (List.replicate ((steps.length:Nat):Int).toNat []) D0) h1:=by
  rw [hD0]
  exact (Tm (e:=3) (r:=Ro.int .i64) s1 _).perm (List.perm_middle (l₁:=NB 3 (Ro.int .i64) _ _))
 refine AF _ rfl ?_
 refine AH (x:=sl) (K.at s2 (j:=11) rfl) rfl ?_
 refine AV (fun (y:Int×Unit) w E=> ∃ψ ts,Sub φ ψ∧ts.length=E.length∧St ψ (Ll o ts E D0) w) (g:=r) ?_ ?_
 ·refine BL hd (fun i (y:Int×Unit) w E=>y.1=i∧ ∃ψ ts,Sub φ ψ∧ts.length=E.length∧St ψ (Ll o ts E D0) w) ((0:Int),()) rfl ⟨rfl,φ,_,Sub.refl _,by simp,s2⟩ ?_ ?_
  ·rintro i z w E e ⟨rfl,ψ,ts,le,hl,st⟩ he h0 hlt hw
   refine Ag (by rw [nS]; exact decide_eq_true hlt) ?_
   obtain ⟨s,hs,he⟩:=bS he
   obtain ⟨A1,cs1,ea1,hi1,q1,cl1⟩:=(K.ks.mono le).get hs
   refine AF _ ea1 (Ac hi1 ?_)
   obtain ⟨_,_,rfl,q2,q3⟩:=q1
   obtain rfl:=q2
   obtain rfl:=q3
   refine AH (x:=s.1) (AD st.sub (cl1 0 _ rfl)) rfl ?_
   refine AH (x:=s.2) (by rw [Ad]; exact AD st.sub (cl1 1 _ rfl)) rfl ?_
   refine AU (vs:= [.int .i64 0, .int .i64 0]) st ?_
   intro r11 h3 s3
   refine CI (b:=r11) (j:=0) (v:= .int .i64 s.1) s3 rfl (by simp) ?_
   intro h4 s4
   refine CI (b:=r11) (j:=1) (v:= .int .i64 s.2) s4 rfl (by simp) ?_
   intro h5 s5
   obtain ⟨ψ1,le1,cB,s6⟩:=St.blk s5
   have le01:=le.trans le1
   refine AF _ rfl ?_
   refine AH (x:=t.2.2.1) ((K.mono le01).at s6 (j:=2) rfl) rfl ?_
   refine AV (fun (y:Int×Unit) w E=> ∃ψ ts,Sub φ ψ∧ts.length=E.length∧St ψ (Ll o ts E D0) w) (g:=e) ?_ ?_
   ·refine BL he (fun i (y:Int×Unit) w E=>y.1=i∧ ∃ψ ts,Sub ψ1 ψ∧ts.length=E.length∧St ψ (Ll o ts E D0) w) ((0:Int),()) rfl ⟨rfl,ψ1,ts,Sub.refl _,hl,s6⟩ ?_ ?_
    ·rintro i2 z2 w2 E2 e2 ⟨rfl,ψ2,ts2,le2,hl2,st2⟩ he2 h02 hlt2 hw2
     have le02:=le01.trans le2
     refine Ag (by rw [nR]; exact decide_eq_true hlt2) ?_
     obtain ⟨ru,hr1,he2⟩:=bS he2
     refine AV (fun (_:Unit) w (_:Unit)=> ∃ψ ts,Sub ψ1 ψ∧ts.length=e2.length∧St ψ (Ll o ts e2 D0) w) (g:=()) ?_ ?_
     ·refine Lo (K.pl.k2.mono le02) hr1 st2 ?_
      intro r21 u h7 ku s7
      obtain ⟨ψ3,le3,cR1,s8⟩:=St.blk s7
      have ku:=ku.mono le3
      have le03:=le02.trans le3
      have cB3:=cB.mono (le2.trans le3)
      refine AH (x:=ru.1) (Bt cR1 s8 (j:=0) rfl) rfl ?_
      refine AH (x:=s.2) (Bt cB3 s8 (j:=1) rfl) rfl ?_
      refine AK he2 rfl (fun _ he2=> ?_) (fun _ he2=> ?_)
      ·obtain rfl:=iS he2
       exact Pj () rfl ⟨ψ3,ts2,le2.trans le3,hl2,s8⟩
      ·obtain ⟨zz,hzz,he2⟩:=bS he2
       obtain rfl:=iS he2
       refine AH (x:=s.1) (Bt cB3 s8 (j:=0) rfl) rfl ?_
       refine AH (x:=u) (Bt cR1 s8 (j:=1) rfl) rfl ?_
       have nu:=ku.length
       refine AV (fun (y:Int×Int×Unit) w (g:Int×List (List Int))=> ∃ψ ts,Sub ψ1 ψ∧ts.length=g.2.length∧St ψ (Ll o ts g.2 D0) w) (g:=zz) ?_ ?_
       ·refine BL hzz (fun i (y:Int×Int×Unit) w (g:Int×List (List Int))=>y.1=i∧y.2.1=g.1∧ ∃ψ ts,Sub ψ3 ψ∧ts.length=g.2.length∧St ψ (Ll o ts g.2 D0) w) ((0:Int),s.1,()) rfl ⟨rfl,rfl,ψ3,ts2,Sub.refl _,hl2,s8⟩ ?_ ?_
        ·rintro i4 z4 w4 ⟨g1,E4⟩ e4 ⟨rfl,hg,ψ4,ts4,le4,hl4,st4⟩ he4 h04 hlt4 hw4
         dsimp only at hg hl4 st4 he4
         subst hg
         have le04:=le03.trans le4
         unfold Tj at he4
         refine Ag (by rw [nu]; exact decide_eq_true hlt4) ?_
         obtain ⟨sym,hsy,he4⟩:=bS he4
         obtain ⟨_,he4⟩:=Bw he4
         obtain ⟨sq,hsq,he4⟩:=bS he4
         obtain ⟨bb,hbb,he4⟩:=bS he4
         obtain ⟨E',hE',he4⟩:=bS he4
         obtain ⟨so,hso,he4⟩:=bS he4
         obtain rfl:=iS he4
         obtain ⟨A4,cs4,ea4,hi4,q4,cl4⟩:=(ku.mono le4).get hsy
         refine AF _ ea4 (Ac hi4 ?_)
         obtain rfl:=q4
         refine AH (x:=sym) (AD st4.sub (cl4 0 _ rfl)) rfl ?_
         refine AF _ rfl ?_
         have K4:=K.mono le04
         refine AH (x:=fz.1) (K4.at st4 (j:=7) rfl) rfl ?_
         refine AH (x:=fz.2.1) (by rw [Ad]; exact K4.at st4 (j:=8) rfl) rfl ?_
         refine AH (x:=fz.2.2.1) (by rw [Ad]; exact K4.at st4 (j:=9) rfl) rfl ?_
         refine AH (x:=fz.2.2.2.1) (by rw [Ad]; exact K4.at st4 (j:=10) rfl) rfl ?_
         refine AF _ rfl (Uq (K4.pv st4) ?_)
         refine AH (x:=u) (Bt (cR1.mono le4) st4 (j:=1) rfl) rfl ?_
         obtain ⟨q5,kt⟩:=(ku.mono le4).cut (Ps (ku.mono le4) (lo:=IntKind.wrap .i64 (z4.1+1)) (by rw [hw4]; omega) (by rw [hw4]; omega)) (sz:=1) rfl
         refine Ac q5 ?_
         rw [← hw4] at hsq
         refine AI (Jf (f_0:=fz) (p_1:=t) (gk.mono le04) K4.f0 K4.f1 K4.f2 K4.pl.k0 K4.pl.k1 K4.pl.k2 K4.pl.k3 K4.pl.k4 K4.pl.k5 kt st4 (r:=sq) (by rw [K4.f3]; exact hsq)) ?_
         rintro _ h9 ⟨ψ5,y5,l5,le5,rfl,e5,k5,st5⟩
         refine ⟨y5,rfl,?_⟩
         have e5':sq.2=y5.2.1:=by rw [← e5]
         rw [e5'] at hbb
         have le05:=le04.trans le5
         refine Ao (fun (y:Bool×Unit) w g=>y.1=g∧ ∃ψ,Sub ψ5 ψ∧St ψ (Ll o ts4 E4 D0) w) (g:=bb) ?_ ?_
         ·refine AK hbb rfl (fun _ hbb=> ?_) (fun _ hbb=> ?_)
          ·obtain ⟨tm,htm,hbb⟩:=bS hbb
           obtain rfl:=iS hbb
           refine AF _ rfl (OB ((K.mono le05).pv st5) (K.mono le05).pl st5 htm ?_)
           intro ψ6 h6 le6 s6
           exact AS (!tm,()) rfl ⟨rfl,ψ6,le6,s6⟩
          ·obtain rfl:=iS hbb
           exact AS (false,()) rfl ⟨rfl,ψ5,Sub.refl _,st5⟩
         ·rintro y h10 ⟨hy,ψ6,le6,s6⟩
          obtain rfl:=hy
          have le06:=le05.trans le6
          refine Ao (fun (_:Unit) w g=> ∃ts,ts.length=g.length∧St ψ6 (Ll o ts g D0) w) (g:=E') ?_ ?_
          ·refine AK hE' rfl (fun _ hE'=> ?_) (fun _ hE'=> ?_)
           ·obtain ⟨row,hrow,hE'⟩:=bS hE'
            obtain ⟨row',hrow',hE'⟩:=bS hE'
            refine AF _ rfl ?_
            refine AH (x:=some nm) ((K.mono le06).at s6 (j:=12) rfl) rfl ?_
            have sM:St ψ6 (cM Ca (Ro.int .i64) nm num::(cR 30 Ro.slc o ts4::(NB 3 (Ro.int .i64) ts4 E4++F))) h10:=by
             rw [hD0] at s6
             exact s6.perm ((List.Perm.cons _ (List.perm_middle (l₁:=NB 3 (Ro.int .i64) ts4 E4))).trans (List.Perm.swap _ _ _))
            refine Fj (kk:=Ca) (a:= .int .i64) (k:=(z4.2.1,sym)) (m:=num) (0:Int) Tryz.underlying135 OD (i:=Tryz.t3) (by kernel_rfl) rfl sM ?_
            refine Up hl4 hrow hrow' hE' s6 ?_
            intro ts' h11 hl' s11
            exact AS () rfl ⟨ts',hl',s11⟩
           ·obtain rfl:=iS hE'
            exact AS () rfl ⟨ts4,hl4,s6⟩
          ·rintro _ h11 ⟨ts5,hl5,s11⟩
           refine AF _ rfl ?_
           refine AH (x:=ap) ((K.mono le06).at s11 (j:=6) rfl) rfl ?_
           refine AI (C2 (K.mono le06).kA s11 hso) ?_
           rintro _ h12 ⟨ψ7,y7,le7,rfl,rfl,s12⟩
           refine ⟨y7,rfl,?_⟩
           exact Af (IntKind.wrap .i64 (z4.1+(1:Int)),y7,()) _ rfl rfl ⟨hw4,rfl,ψ7,ts5,((le4.trans le5).trans le6).trans le7,hl5,s12⟩
        ·rintro i4 z4 w4 ⟨rfl,hg,ψ4,ts4,le4,H⟩ hge
         refine AY (by rw [nu]; exact decide_eq_false (Int.not_lt.2 hge)) ?_
         exact AJ (AM z4 rfl ⟨ψ4,ts4,(le2.trans le3).trans le4,H⟩)
       ·rintro _ h9 H
        exact Nk () rfl H
     ·rintro _ h9 H
      exact Af (IntKind.wrap .i64 (z2.1+(1:Int)),()) _ rfl rfl ⟨hw2,H⟩
    ·rintro i2 z2 w2 ⟨rfl,ψ2,ts2,le2,H⟩ hge
     refine AY (by rw [nR]; exact decide_eq_false (Int.not_lt.2 hge)) ?_
     exact AJ (AM z2 rfl ⟨ψ2,ts2,le01.trans le2,H⟩)
   ·rintro _ h9 H
    exact Af (IntKind.wrap .i64 (z.1+(1:Int)),()) _ rfl rfl ⟨hw,H⟩
  ·rintro i z w ⟨rfl,H⟩ hge
   refine AY (by rw [nS]; exact decide_eq_false (Int.not_lt.2 hge)) ?_
   exact AJ (AM z rfl H)
 ·rintro _ h9 ⟨ψ,ts,le,hl,st⟩
  obtain ⟨ψ1,le1,k1,st1⟩:=St.freezeRow (t:=o) st
  obtain ⟨ψ2,le2,k2,st2⟩:=St.freezeRows hl st1
  rw [hD0] at st2
  exact AB ⟨ψ2,o,(le.trans le1).trans le2,rfl,QU hl k2 (k1.mono le2),st2⟩
end
abbrev At:Type:=WJ
def mz (ps:List (Option Addr)) (L:List (At×AT)):List (At×Option Addr):=List.zipWith (fun p e=>(e.1,p)) ps L
theorem Q4 {k:At} : ∀ {ps:List (Option Addr)} {L:List (At×AT)},BH k L=none→BH k (mz ps L)=none:=by
 intro ps
 induction ps with
 | nil=>intro L _; rfl
 | cons p ps ih=>
  intro L h
  cases L with
  | nil=>rfl
  | cons e L=>
   simp only [BH] at h
   split at h
   ·cases h
   ·rename_i hk
    show BH k ((e.1,p)::mz ps L)=none
    simp only [BH]
    rw [if_neg hk]
    exact ih h
theorem PI {k:At} {s:AT} {p:Option Addr} : ∀ {ps:List (Option Addr)} {L:List (At×AT)},ps.length=L.length→BH k L=none→Bn k s L=L++ [(k,s)] ∧Bn k p (mz ps L)=mz (ps++ [p]) (L++ [(k,s)]):=by
 intro ps
 induction ps with
 | nil=>
  intro L hl _
  cases L with
  | nil=>exact ⟨rfl,rfl⟩
  | cons _ _=>cases hl
 | cons q ps ih=>
  intro L hl h
  cases L with
  | nil=>cases hl
  | cons e L=>
   simp only [BH] at h
   split at h
   ·cases h
   ·rename_i hk
    obtain ⟨h1,h2⟩:=ih (L:=L) (by simpa using hl) h
    refine ⟨?_,?_⟩
    ·simp only [Bn,if_neg hk,h1]; rfl
    ·show Bn k p ((e.1,q)::mz ps L)=(e.1,q)::mz (ps++ [p]) (L++ [(k,s)])
     simp only [Bn,if_neg hk,h2]
theorem Lp {k:At} {s:AT} : ∀ {ps:List (Option Addr)} {L:List (At×AT)},ps.length=L.length→BH k L=some s→
 ∃(i:Nat) (p:Option Addr),ps[i]? =some p∧(L.map (·.2))[i]? =some s∧BH k (mz ps L)=some p∧(∀s',(Bn k s' L).map (·.2)=(L.map (·.2)).set i s'∧mz ps (Bn k s' L)=mz ps L∧(Bn k s' L).length=L.length)∧ ∀s' p',Bn k p' (mz ps L)=mz (ps.set i p') (Bn k s' L):=by
 intro ps
 induction ps with
 | nil=>
  intro L hl h
  cases L with
  | nil=>cases h
  | cons _ _=>cases hl
 | cons q ps ih=>
  intro L hl h
  cases L with
  | nil=>cases hl
  | cons e L=>
   simp only [BH] at h
   split at h
   ·rename_i hk
    cases h
    refine ⟨0,q,rfl,rfl,?_,fun s'=> ?_,fun s' p'=> ?_⟩
    ·show BH k ((e.1,q)::mz ps L)=some q
     simp only [BH,if_pos hk]
    ·simp only [Bn,if_pos hk]
     exact ⟨rfl,rfl,rfl⟩
    ·show Bn k p' ((e.1,q)::mz ps L)=mz (p'::ps) (Bn k s' (e::L))
     simp only [Bn,if_pos hk]
     rfl
   ·rename_i hk
    obtain ⟨i,p,h1,h2,h3,h4,h5⟩:=ih (L:=L) (by simpa using hl) h
    refine ⟨i+1,p,by simpa using h1,by simpa using h2,?_,fun s'=> ?_,fun s' p'=> ?_⟩
    ·show BH k ((e.1,q)::mz ps L)=some p
     simp only [BH,if_neg hk]
     exact h3
    ·obtain ⟨g1,g2,g3⟩:=h4 s'
     simp only [Bn,if_neg hk,List.map_cons,List.set_cons_succ,List.length_cons]
     refine ⟨by rw [g1],?_,by rw [g3]⟩
     show (e.1,q)::mz ps (Bn k s' L)=(e.1,q)::mz ps L
     rw [g2]
    ·show Bn k p' ((e.1,q)::mz ps L)=mz (q::ps.set i p') (Bn k s' (e::L))
     simp only [Bn,if_neg hk]
     show (e.1,q)::Bn k p' (mz ps L)=(e.1,q)::mz (ps.set i p') (Bn k s' L)
     rw [h5 s']
abbrev LkL:Type:=List (At×AT)
noncomputable def PJ (p:dtP) (A:dtA) (fo:List AT) (n:Int) (s:Stp) (k:Int) (L:LkL):Option LkL:=
 (idx p.2.2.1 k).bind fun r=>
 cond (r.1 !=s.2) (some L)
  ((Bl A s.1 r.2.1).bind fun w=>
  (cond (BH (w,k) L).isNone ((Bj (nT p)).bind fun s0=>some (Bn (w,k) s0 L)) (some L)).bind fun L'=>
  (idx fo n).bind fun o=>(BH (w,k) L').bind fun s'=>need (OkS s'∧OkS o) <| some (Bn (w,k) (BB s' o) L'))
noncomputable def NS (p:dtP) (A:dtA) (fa:dtF) (steps:List Stp) (fo:List AT):Option LkL:=
 (forS (σ:=LkL) 0 ((steps.length:Nat):Int) [] fun n L=>(idx steps n).bind fun s=>forS (σ:=LkL) 0 ((p.2.2.1.length:Nat):Int) L fun k L=>PJ p A fo n s k L).bind fun L=>
 (BW A).bind fun m=>forS (σ:=LkL) 0 m L fun n L=>
  (BX (lkT p A fa steps none none) n 0).bind fun b=>cond b ((CQ (nT p) [0]).bind fun s=>some (Bn (n,0) s L)) (some L)
abbrev giC (lm:Nat) (ps:List (Option Addr)) (L:LkL) (Δ:List Chk):List Chk:=cM Ca Ro.pt lm (mz ps L)::(AN ps (L.map (·.2)) ++Δ)
section
variable {φ ψ:AC} {h:AE} {F:List Chk} {a:Addr} {t:Slc×Slc×Slc×Slc×Slc×Slc×Unit} {p:dtP} {ap:Option Addr} {A:dtA} {fz:Slc×Slc×Slc×Int×Unit} {sl:Slc} {nm lm b:Nat} {fa:dtF} {steps:List Stp}
theorem NT {φ:AC} {h:AE} {F:List Chk} {p:Option Addr} {s:AT} (H:St φ (BN p s::F) h):p.isNone=false:=by
 obtain ⟨b,e⟩:=St.ptr H
 rw [e]; rfl
theorem To {ps:List (Option Addr)} {L:LkL} {Δ:List Chk} {k:At} {q:Option Addr} {s:AT} (hl:ps.length=L.length) (st:St φ (cM Ca Ro.pt lm (Bn k q (mz ps L))::BN q s::(AN ps (L.map (·.2)) ++Δ)) h):
 ∃ps',ps'.length=(Bn k s L).length∧St φ (giC lm ps' (Bn k s L) Δ) h:=by
 cases hg:BH k L with
 | none=>
  obtain ⟨h1,h2⟩:=PI (s:=s) (p:=q) hl hg
  refine ⟨ps++ [q],by rw [h1]; simp [hl],?_⟩
  rw [h2] at st
  have e:AN (ps++ [q]) ((Bn k s L).map (·.2))=AN ps (L.map (·.2)) ++ [BN q s] :=by
   rw [h1,List.map_append]
   exact JF (by simpa using hl) q s
  show St φ (cM Ca Ro.pt lm (mz (ps++ [q]) (Bn k s L))::(AN (ps++ [q]) ((Bn k s L).map (·.2)) ++Δ)) h
  rw [e,List.append_assoc,h1]
  exact st.perm (List.Perm.cons _ (List.perm_middle (l₁:=AN ps (L.map (·.2)))).symm)
 | some s0=>
  obtain ⟨i,p0,h1,h2,h3,h4,h5⟩:=Lp hl hg
  obtain ⟨g1,g2,g3⟩:=h4 s
  refine ⟨ps.set i q,by simp [g3,hl],?_⟩
  rw [h5 s q] at st
  obtain ⟨rest,r1,r2⟩:=HZ h1 h2
  show St φ (cM Ca Ro.pt lm (mz (ps.set i q) (Bn k s L))::(AN (ps.set i q) ((Bn k s L).map (·.2)) ++Δ)) h
  rw [g1]
  have st2:=st.perm (List.Perm.cons _ (List.Perm.cons _ (List.Perm.append_right Δ r1)))
  have st3:=st2.at2.tail
  exact st3.perm (List.Perm.cons _ (List.Perm.append_right Δ (r2 q s).symm))
noncomputable def Tp (l_0 f_p:Option Addr) (f_n:Nat) (n:Int) (r26:Nat):T:=
 deref l_0 fun a27=>
 T.load .map (a27.add 13) fun (t28:Option Nat)=>
 T.load (.int .i64) ⟨r26,0,none⟩ fun (t29:Int)=>
 T.load (.int .i64) ⟨r26,1,none⟩ fun (t30:Int)=>
 T.sem (Instr.lookup 136 (.map t28) (.agg #[(.int .i64 t29),(.int .i64 t30)]) false) (.one aP) fun (t31:Option Addr)=>
 T.join []
 (cond (Option.isNone t31)
 (deref l_0 fun a33=>
 T.load .map (a33.add 13) fun (t34:Option Nat)=>
 T.load (.int .i64) ⟨r26,0,none⟩ fun (t35:Int)=>
 T.load (.int .i64) ⟨r26,1,none⟩ fun (t36:Int)=>
 deref l_0 fun a37=>
 T.load .slice a37 fun (t38:Slc)=>
 T.call 138 [(.int .i64 ((t38.2.1:Nat):Int))] (.one aP) fun (t39:Option Addr)=>
 T.still ⟨r26,0,none⟩ (.int .i64 t35) <|
 T.still ⟨r26,1,none⟩ (.int .i64 t36) <|
 T.still (a33.add 13) (.map t34) <|
 T.sem (Sem.bind (Instr.mapUpdate 136 (.map t34) (.agg #[(.int .i64 t35),(.int .i64 t36)]) (.pointer t39)) fun _=> .pure undef) (.tuple []) fun (_:Unit)=>
 T.out [])
 (T.out [])) fun (_:Unit)=>
 deref l_0 fun a41=>
 T.load .map (a41.add 13) fun (t42:Option Nat)=>
 T.load (.int .i64) ⟨r26,0,none⟩ fun (t43:Int)=>
 T.load (.int .i64) ⟨r26,1,none⟩ fun (t44:Int)=>
 deref f_p fun a45=>
 chk (0≤n∧n< (f_n:Nat)) <|
 T.load .pointer (a45.add (Int.toNat n * 1)) fun (t46:Option Addr)=>
 T.sem (Instr.lookup 136 (.map t42) (.agg #[(.int .i64 t43),(.int .i64 t44)]) false) (.one aP) fun (t47:Option Addr)=>
 T.still (a45.add (Int.toNat n * 1)) (.pointer t46) <|
 T.call 139 [(.pointer t47),(.pointer t46)] (.one aB) fun (_:Bool)=>
 T.out []
set_option maxHeartbeats 2000000 in
theorem Tq (gk:Dg.Glob φ) (K:LkK φ a t ap fz sl nm lm p A fa steps) {fs:Slc} {qs:List (Option Addr)} {fo:List AT} (kf:Ro.SliceIs Ro.pt φ fs qs) (hq:qs.length=fo.length) {n w k:Int} {r26:Nat} (cB:Cs φ (some ⟨r26,0,none⟩) [.int .i64 w, .int .i64 k]) {L L':LkL} {o s':AT} {ps:List (Option Addr)} {Δ:List Chk} {P:Be→AE→Prop}
 (hL:cond (BH (w,k) L).isNone ((Bj (nT p)).bind fun s0=>some (Bn (w,k) s0 L)) (some L)=some L') (ho:idx fo n=some o) (hs:BH (w,k) L'=some s') (ok:OkS s'∧OkS o) (hl:ps.length=L.length) (st:St φ (giC lm ps L (AN qs fo++Δ)) h)
 (hk: ∀ψ ps' h',Sub φ ψ→ps'.length=(Bn (w,k) (BB s' o) L').length→St ψ (giC lm ps' (Bn (w,k) (BB s' o) L') (AN qs fo++Δ)) h'→P (.out []) h'):(Tp (some a) fs.1 fs.2.1 n r26).wp Tryz.prog P h:=by
 unfold Tp
 have n0:t.1.2.1=p.1.length:=K.pl.k0.length
 refine AF _ rfl ?_
 refine AH (x:=some lm) (K.at st (j:=13) rfl) rfl ?_
 refine AH (x:=w) (Bt cB st (j:=0) rfl) rfl ?_
 refine AH (x:=k) (Bt cB st (j:=1) rfl) rfl ?_
 refine Fj (kk:=Ca) (a:= .pointer) (k:=(w,k)) (m:=mz ps L) (none:Option Addr) Tryz.underlying136 PH (i:=Tryz.t139) (by kernel_rfl) rfl st ?_
 refine Ao (fun (_:Unit) wd g=> ∃ψ ps',Sub φ ψ∧ps'.length=g.length∧St ψ (giC lm ps' g (AN qs fo++Δ)) wd) (g:=L') ?_ ?_
 ·cases hg:BH (w,k) L with
  | none=>
   rw [hg] at hL
   obtain ⟨s0,h0,hL⟩:=bS (show ((Bj (nT p)).bind fun s0=>some (Bn (w,k) s0 L))=some L' from hL)
   obtain rfl:=iS hL
   rw [Q4 hg]
   refine Ag rfl ?_
   refine AF _ rfl ?_
   refine AH (x:=some lm) (K.at st (j:=13) rfl) rfl ?_
   refine AH (x:=w) (Bt cB st (j:=0) rfl) rfl ?_
   refine AH (x:=k) (Bt cB st (j:=1) rfl) rfl ?_
   refine AF _ rfl ?_
   refine AH (x:=t.1) (by have:=K.at st (j:=0) rfl; rwa [add_zero] at this) rfl ?_
   rw [n0]
   refine AI (DU st h0) ?_
   rintro _ h2 ⟨ψ2,q,l2,le2,rfl,rfl,s2⟩
   refine ⟨q,rfl,?_⟩
   refine AL (Bt (cB.mono le2) s2 (j:=0) rfl) ?_
   refine AL (Bt (cB.mono le2) s2 (j:=1) rfl) ?_
   refine AL ((K.mono le2).at s2 (j:=13) rfl) ?_
   refine IU (kk:=Ca) (k:=(w,k)) (y:=q) Tryz.underlying136 PH s2.at1 rfl ?_
   intro h3 s3
   obtain ⟨ps',g1,g2⟩:=To hl s3
   exact AS () rfl ⟨ψ2,ps',le2,g1,g2⟩
  | some s0=>
   rw [hg] at hL
   obtain rfl:=iS (show some L=some L' from hL)
   obtain ⟨i,p0,h1,h2,h3,h4,h5⟩:=Lp hl hg
   obtain ⟨rest,r1,_⟩:=HZ h1 h2
   have hp:p0.isNone=false:=NT (st.tail.perm (List.Perm.append_right (AN qs fo++Δ) r1))
   rw [h3]
   refine AY hp ?_
   exact AS () rfl ⟨φ,ps,Sub.refl _,hl,st⟩
 ·rintro _ h4 ⟨ψ4,ps',le4,hl',s4⟩
  obtain ⟨i0,i1,i2⟩:=Ct ho
  have hlt:n.toNat<qs.length:=by omega
  have hqn:=List.getElem?_eq_getElem hlt
  obtain ⟨i,p0,h1,h2,h3,h5,h6⟩:=Lp hl' hs
  refine AF _ rfl ?_
  refine AH (x:=some lm) ((K.mono le4).at s4 (j:=13) rfl) rfl ?_
  refine AH (x:=w) (Bt (cB.mono le4) s4 (j:=0) rfl) rfl ?_
  refine AH (x:=k) (Bt (cB.mono le4) s4 (j:=1) rfl) rfl ?_
  obtain ⟨A1,cs1,ea1,hi1,r1,cl1⟩:=(kf.mono le4).get (JC i0 hlt)
  refine AF _ ea1 (Ac hi1 ?_)
  obtain rfl:=r1
  refine AH (x:=qs[n.toNat]) (AD s4.sub (cl1 0 _ rfl)) rfl ?_
  refine Fj (kk:=Ca) (a:= .pointer) (k:=(w,k)) (m:=mz ps' L') (none:Option Addr) Tryz.underlying136 PH (i:=Tryz.t139) (by kernel_rfl) rfl s4 ?_
  rw [h3]
  refine AL (AD s4.sub (cl1 0 _ rfl)) ?_
  obtain ⟨rq,b1,_⟩:=Dw hqn i2
  obtain ⟨M,hM⟩: ∃M:Chk,M=cM Ca Ro.pt lm (mz ps' L'):=⟨_,rfl⟩
  have s5:St ψ4 (BN qs[n.toNat] o::(AN ps' (L'.map (·.2)) ++(M::(rq++Δ)))) h4:=by
   have s4':St ψ4 (M::(AN ps' (L'.map (·.2)) ++(AN qs fo++Δ))) h4:=by rw [hM]; exact s4
   refine s4'.perm ?_
   refine (List.Perm.cons M (List.Perm.append_left _ (List.Perm.append_right Δ b1))).trans ?_
   exact (List.Perm.cons M (List.perm_middle (l₁:=AN ps' (L'.map (·.2))))).trans ((List.Perm.swap _ _ _).trans (List.Perm.cons _ (List.perm_middle (l₁:=AN ps' (L'.map (·.2)))).symm))
  refine AI (Oy (gk.mono le4) h2 h1 ok s5) ?_
  rintro _ h7 ⟨ψ7,le7,rfl,s7⟩
  refine ⟨_,rfl,?_⟩
  obtain ⟨g1,g2,g3⟩:=h5 (BB s' o)
  refine hk ψ7 ps' h7 (le4.trans le7) (by rw [g3]; exact hl') ?_
  show St ψ7 (cM Ca Ro.pt lm (mz ps' (Bn (w,k) (BB s' o) L'))::(AN ps' ((Bn (w,k) (BB s' o) L').map (·.2)) ++(AN qs fo++Δ))) h7
  rw [g1,g2,← hM]
  refine s7.perm ?_
  refine ((List.Perm.cons _ (List.perm_middle (l₁:=AN ps' ((L'.map (·.2)).set i (BB s' o))))).trans (List.Perm.swap _ _ _)).trans (List.Perm.cons M ?_)
  exact (List.perm_middle (l₁:=AN ps' ((L'.map (·.2)).set i (BB s' o)))).symm.trans (List.Perm.append_left _ (List.Perm.append_right Δ b1.symm))
end
section
variable {φ ψ:AC} {h:AE} {F:List Chk} {a:Addr} {t:Slc×Slc×Slc×Slc×Slc×Slc×Unit} {p:dtP} {ap:Option Addr} {A:dtA} {fz:Slc×Slc×Slc×Int×Unit} {sl:Slc} {nm lm b:Nat} {fa:dtF} {steps:List Stp}
theorem OG (lm:Nat) (ps:List (Option Addr)) (L:LkL) (Δ M:List Chk):giC lm ps L Δ++M=giC lm ps L (Δ++M):=by
 unfold giC
 rw [List.cons_append,List.append_assoc]
set_option maxHeartbeats 4000000 in
theorem Ts (gk:Dg.Glob φ) (K:LkK φ a t ap fz sl nm lm p A fa steps) {fs:Slc} {qs:List (Option Addr)} {fo:List AT} (kf:Ro.SliceIs Ro.pt φ fs qs) (hq:qs.length=fo.length) {r:LkL} (hd:NS p A fa steps fo=some r) (s0:St φ (giC lm [] [] (AN qs fo++F)) h):
 CallsH Tryz.prog 110 [.pointer (some a),sv fs] h (Aq fun v h'=>v= .tuple #[] ∧ ∃(ψ:AC) (ps:List (Option Addr)),Sub φ ψ∧ps.length=r.length∧St ψ (giC lm ps r (AN qs fo++F)) h'):=by
 refine AQ mixed Tryz.func110 ?_
 rw [Jb]
 unfold Gg
 unfold NS at hd
 obtain ⟨L1,hL1,hd⟩:=bS hd
 obtain ⟨mm,hmm,hd⟩:=bS hd
 have nS:sl.2.1=steps.length:=K.ks.length
 have nR:t.2.2.1.2.1=p.2.2.1.length:=K.pl.k2.length
 have n0:t.1.2.1=p.1.length:=K.pl.k0.length
 refine AF _ rfl ?_
 refine AH (x:=sl) (K.at s0 (j:=11) rfl) rfl ?_
 refine AV (fun (y:Int×Unit) w L=> ∃ψ ps,Sub φ ψ∧ps.length=List.length L∧St ψ (giC lm ps L (AN qs fo++F)) w) (g:=L1) ?_ ?_
 ·refine BL hL1 (fun i (y:Int×Unit) w L=>y.1=i∧ ∃ψ ps,Sub φ ψ∧ps.length=List.length L∧St ψ (giC lm ps L (AN qs fo++F)) w) ((0:Int),()) rfl ⟨rfl,φ, [],Sub.refl _,rfl,s0⟩ ?_ ?_
  ·rintro i z w L e ⟨rfl,ψ,ps,le,hl,st⟩ he h0 hlt hw
   refine Ag (by rw [nS]; exact decide_eq_true hlt) ?_
   obtain ⟨s,hs,he⟩:=bS he
   obtain ⟨A1,cs1,ea1,hi1,q1,cl1⟩:=(K.ks.mono le).get hs
   refine AF _ ea1 (Ac hi1 ?_)
   obtain ⟨_,_,rfl,q2,q3⟩:=q1
   obtain rfl:=q2
   obtain rfl:=q3
   refine AH (x:=s.1) (AD st.sub (cl1 0 _ rfl)) rfl ?_
   refine AH (x:=s.2) (by rw [Ad]; exact AD st.sub (cl1 1 _ rfl)) rfl ?_
   refine AU (vs:= [.int .i64 0, .int .i64 0]) st ?_
   intro r8 h3 s3
   refine CI (b:=r8) (j:=0) (v:= .int .i64 s.1) s3 rfl (by simp) ?_
   intro h4 s4
   refine CI (b:=r8) (j:=1) (v:= .int .i64 s.2) s4 rfl (by simp) ?_
   intro h5 s5
   obtain ⟨ψ1,le1,cB,s6⟩:=St.blk s5
   have le01:=le.trans le1
   refine AF _ rfl ?_
   refine AH (x:=t.2.2.1) ((K.mono le01).at s6 (j:=2) rfl) rfl ?_
   refine AV (fun (y:Int×Unit) w L=> ∃ψ ps,Sub φ ψ∧ps.length=List.length L∧St ψ (giC lm ps L (AN qs fo++F)) w) (g:=e) ?_ ?_
   ·refine BL he (fun i (y:Int×Unit) w L=>y.1=i∧ ∃ψ ps,Sub ψ1 ψ∧ps.length=List.length L∧St ψ (giC lm ps L (AN qs fo++F)) w) ((0:Int),()) rfl ⟨rfl,ψ1,ps,Sub.refl _,hl,s6⟩ ?_ ?_
    ·rintro i2 z2 w2 L2 e2 ⟨rfl,ψ2,ps2,le2,hl2,st2⟩ he2 h02 hlt2 hw2
     have le02:=le01.trans le2
     unfold PJ at he2
     refine Ag (by rw [nR]; exact decide_eq_true hlt2) ?_
     obtain ⟨ru,hr1,he2⟩:=bS he2
     refine AV (fun (_:Unit) w (_:Unit)=> ∃ψ ps,Sub ψ1 ψ∧ps.length=List.length e2∧St ψ (giC lm ps e2 (AN qs fo++F)) w) (g:=()) ?_ ?_
     ·refine Lo (K.pl.k2.mono le02) hr1 st2 ?_
      intro r18 u h7 ku s7
      obtain ⟨ψ3,le3,cR1,s8⟩:=St.blk s7
      have ku:=ku.mono le3
      have le03:=le02.trans le3
      have le13:=le2.trans le3
      have cB3:=cB.mono le13
      have K3:=K.mono le03
      refine AH (x:=ru.1) (Bt cR1 s8 (j:=0) rfl) rfl ?_
      refine AH (x:=s.2) (Bt cB3 s8 (j:=1) rfl) rfl ?_
      refine AK he2 rfl (fun _ he2=> ?_) (fun _ he2=> ?_)
      ·obtain rfl:=iS he2
       exact Pj () rfl ⟨ψ3,ps2,le13,hl2,s8⟩
      ·obtain ⟨wk,hwk,he2⟩:=bS he2
       obtain ⟨L',hL',he2⟩:=bS he2
       obtain ⟨o,ho,he2⟩:=bS he2
       obtain ⟨s',hs',he2⟩:=bS he2
       obtain ⟨ok,he2⟩:=Bw he2
       obtain rfl:=iS he2
       refine AF _ rfl ?_
       refine AH (x:=ap) (K3.at s8 (j:=6) rfl) rfl ?_
       refine AH (x:=s.1) (Bt cB3 s8 (j:=0) rfl) rfl ?_
       refine AH (x:=u) (Bt cR1 s8 (j:=1) rfl) rfl ?_
       have fin: ∀ {ψ5:AC} {h9:AE} {r26:Nat},Sub ψ3 ψ5→Cs ψ5 (some ⟨r26,0,none⟩) [.int .i64 wk, .int .i64 z2.1] →St ψ5 (giC lm ps2 L2 (AN qs fo++F)) h9→ ∀ {P:Be→AE→Prop},
        (∀(ψ:AC) (ps':List (Option Addr)) (h':AE),Sub ψ1 ψ→ps'.length=List.length (Bn (wk,z2.1) (BB s' o) L')→St ψ (giC lm ps' (Bn (wk,z2.1) (BB s' o) L') (AN qs fo++F)) h'→P (.out []) h')→
        (Tp (some a) fs.1 fs.2.1 z.1 r26).wp Tryz.prog P h9:=by
        intro ψ5 h9 r26 le5 cX st9 P hP
        refine Tq (gk.mono (le03.trans le5)) (K3.mono le5) (kf.mono (le03.trans le5)) hq cX hL' ho hs' ok hl2 st9 ?_
        intro ψ6 ps' h10 le6 hl6 st10
        exact hP ψ6 ps' h10 ((le13.trans le5).trans le6) hl6 st10
       refine FO ?_ ?_
       ·refine AI (DW K3.kA ku s8 hwk) ?_
        rintro _ h9 ⟨ψ4,y4,le4,rfl,rfl,s9⟩
        refine ⟨y4,rfl,?_⟩
        refine AU (vs:= [.int .i64 0, .int .i64 0]) s9 ?_
        intro r26 h10 s10
        refine CI (b:=r26) (j:=0) (v:= .int .i64 y4) s10 rfl (by simp) ?_
        intro h11 s11
        refine CI (b:=r26) (j:=1) (v:= .int .i64 z2.1) s11 rfl (by simp) ?_
        intro h12 s12
        obtain ⟨ψ5,le5,cX,s13⟩:=St.blk s12
        refine fin (le4.trans le5) cX s13 ?_
        intro ψ6 ps' h13 le6 hl6 s14
        exact ⟨(),rfl,ψ6,ps',le6,hl6,s14⟩
       ·refine AU (vs:= [.int .i64 0, .int .i64 0]) s8 ?_
        intro r49 h9 s9
        refine AL (Bt cR1 s9 (j:=1) rfl) ?_
        refine AL (Bt cB3 s9 (j:=0) rfl) ?_
        refine AL (K3.at s9 (j:=6) rfl) ?_
        refine AI (DW K3.kA ku s9 hwk) ?_
        rintro _ h10 ⟨ψ4,y4,le4,rfl,rfl,s10⟩
        refine ⟨y4,rfl,?_⟩
        refine CI (b:=r49) (j:=0) (v:= .int .i64 y4) s10 rfl (by simp) ?_
        intro h11 s11
        refine CI (b:=r49) (j:=1) (v:= .int .i64 z2.1) s11 rfl (by simp) ?_
        intro h12 s12
        obtain ⟨ψ5,le5,cX,s13⟩:=St.blk s12
        refine fin (le4.trans le5) cX s13 ?_
        intro ψ6 ps' h13 le6 hl6 s14
        exact ⟨(),rfl,ψ6,ps',le6,hl6,s14⟩
     ·rintro _ h9 H
      exact Af (IntKind.wrap .i64 (z2.1+(1:Int)),()) _ rfl rfl ⟨hw2,H⟩
    ·rintro i2 z2 w2 ⟨rfl,ψ2,ps2,le2,H⟩ hge
     refine AY (by rw [nR]; exact decide_eq_false (Int.not_lt.2 hge)) ?_
     exact AJ (AM z2 rfl ⟨ψ2,ps2,le01.trans le2,H⟩)
   ·rintro _ h9 H
    exact Af (IntKind.wrap .i64 (z.1+(1:Int)),()) _ rfl rfl ⟨hw,H⟩
  ·rintro i z w ⟨rfl,H⟩ hge
   refine AY (by rw [nS]; exact decide_eq_false (Int.not_lt.2 hge)) ?_
   exact AJ (AM z rfl H)
 ·rintro _ h1 ⟨ψ1,ps1,le1,hl1,st1⟩
  have K1:=K.mono le1
  refine AF _ rfl ?_
  refine AH (x:=ap) (K1.at st1 (j:=6) rfl) rfl ?_
  refine AI (CK K1.kA st1 hmm) ?_
  rintro _ h2 ⟨ψ2,y2,le2,rfl,rfl,st2⟩
  refine ⟨y2,rfl,?_⟩
  have le02:=le1.trans le2
  refine AV (fun (y:Int×Unit) w L=> ∃ψ ps,Sub φ ψ∧ps.length=List.length L∧St ψ (giC lm ps L (AN qs fo++F)) w) (g:=r) ?_ ?_
  ·refine BL hd (fun i (y:Int×Unit) w L=>y.1=i∧ ∃ψ ps,Sub φ ψ∧ps.length=List.length L∧St ψ (giC lm ps L (AN qs fo++F)) w) ((0:Int),()) rfl ⟨rfl,ψ2,ps1,le02,hl1,st2⟩ ?_ ?_
   ·rintro i z w L e ⟨rfl,ψ,ps,le,hl,st⟩ he h0 hlt hw
    refine Ag (decide_eq_true hlt) ?_
    obtain ⟨bd,hbd,he⟩:=bS he
    have K3:=K.mono le
    refine AI (Dp K3.pt st (show BX (lkT p A fa steps (some nm) (some lm)) z.1 0=some bd from hbd)) ?_
    rintro _ h3 ⟨ψ3,y3,le3,rfl,rfl,st3⟩
    refine ⟨y3,rfl,?_⟩
    have le03:=le.trans le3
    refine Ao (fun (_:Unit) w L=> ∃ψ ps,Sub φ ψ∧ps.length=List.length L∧St ψ (giC lm ps L (AN qs fo++F)) w) (g:=e) ?_ ?_
    ·refine AK he rfl (fun _ he=> ?_) (fun _ he=> ?_)
     ·obtain ⟨sn,hsn,he⟩:=bS he
      obtain rfl:=iS he
      refine AF _ rfl ?_
      refine AH (x:=some lm) ((K.mono le03).at st3 (j:=13) rfl) rfl ?_
      refine AF _ rfl ?_
      refine AH (x:=t.1) (by have:=(K.mono le03).at st3 (j:=0) rfl; rwa [add_zero] at this) rfl ?_
      refine AU (vs:= [.int .i64 0]) st3 ?_
      intro r84 h4 st4
      refine AL (by have:=(K.mono le03).at st4 (j:=0) rfl; rwa [add_zero] at this) ?_
      refine AL ((K.mono le03).at st4 (j:=13) rfl) ?_
      have st5:=St.lit (r:=Ro.int .i64) (l:= [(0:Int)]) (n:=1) st4 (.cons (a:= [_]) rfl .nil) rfl (by decide)
      obtain ⟨ψ5,le5,k5,st6⟩:=St.freezeRow (t:=(some ⟨r84,0,none⟩,1,1)) st5
      rw [n0]
      refine AI (Dv k5 st6 hsn) ?_
      rintro _ h6 ⟨ψ6,q,l6,le6,rfl,rfl,st7⟩
      refine ⟨q,rfl,?_⟩
      have le06:=(le03.trans le5).trans le6
      refine AL ((K.mono le06).at st7 (j:=13) rfl) ?_
      refine IU (kk:=Ca) (k:=(z.1,(0:Int))) (y:=q) Tryz.underlying136 PH st7.at1 rfl ?_
      intro h8 st8
      obtain ⟨ps',g1,g2⟩:=To hl st8
      exact AS () rfl ⟨ψ6,ps',le06,g1,g2⟩
     ·obtain rfl:=iS he
      exact AS () rfl ⟨ψ3,ps,le03,hl,st3⟩
    ·rintro _ h9 H
     exact Af (IntKind.wrap .i64 (z.1+(1:Int)),()) _ rfl rfl ⟨hw,H⟩
   ·rintro i z w ⟨rfl,H⟩ hge
    refine AY (decide_eq_false (Int.not_lt.2 hge)) ?_
    exact AJ (AM z rfl H)
  ·rintro _ h9 ⟨ψ9,ps9,le9,hl9,st9⟩
   exact AB ⟨rfl,ψ9,ps9,le9,hl9,st9⟩
end
structure LkD where
 p:dtP
 A:dtA
 fa:dtF
 steps:List Stp
 L:LkL
def LkL.at (φ:AC) (cs:List Value) (d:LkD) (Γ:List Chk):Prop:=
 ∃(a:Addr) (t:Slc×Slc×Slc×Slc×Slc×Slc×Unit) (ap:Option Addr) (fz:Slc×Slc×Slc×Int×Unit) (sl:Slc) (nm lm:Nat) (ps:List (Option Addr)),
  cs= [.pointer (some a)] ∧LkK φ a t ap fz sl nm lm d.p d.A d.fa d.steps∧ps.length=d.L.length∧Γ=giC lm ps d.L []
def Ry:Pk (Option LkD) where
 sz:=1
 L φ cs x Γ:=match x with
  | none=>cs= [.pointer none] ∧Γ= []
  | some d=>LkL.at φ cs d Γ
 len {φ cs x Γ} h:=by
  cases x with
  | none=>rw [h.1]; rfl
  | some d=>obtain ⟨a,t,ap,fz,sl,nm,lm,ps,h1,_⟩:=h; rw [h1]; rfl
 mono {φ ψ cs x Γ} hs h:=by
  cases x with
  | none=>exact h
  | some d=>obtain ⟨a,t,ap,fz,sl,nm,lm,ps,h1,h2,h3,h4⟩:=h; exact ⟨a,t,ap,fz,sl,nm,lm,ps,h1,h2.mono hs,h3,h4⟩
 plain {φ cs x Γ} h v hv:=by
  cases x with
  | none=>rw [h.1] at hv; simp at hv; subst hv; rfl
  | some d=>obtain ⟨a,t,ap,fz,sl,nm,lm,ps,h1,_⟩:=h; rw [h1] at hv; simp at hv; subst hv; rfl
abbrev Da:Rep (Option LkD):=Rep.pack Ry
noncomputable def Q5 (p:dtP) (A:dtA):Option (Option LkD):=
 (Ma p).bind fun fa=>(M0 p A I5 ([], [])).bind fun st=>(LK p A fa st.1 st.2).bind fun rd=>(Fl p A fa st.1 st.2).bind fun inc=>
 (Gs rd.2 rd.1).bind fun f1=>(Gs inc f1).bind fun f2=>(NS p A fa st.1 f2).bind fun L=>some (some ⟨p,A,fa,st.1,L⟩)
noncomputable def Kr (d:Option LkD) (s:Int):Option (List Int):=d.bind fun d=>Ci (lkT d.p d.A d.fa d.steps none none) s
noncomputable def Ks (d:Option LkD) (s r:Int):Option (List Eb):=d.bind fun d=>Cj (lkT d.p d.A d.fa d.steps none none) s r
noncomputable def PK (d:Option LkD) (s r:Int):Option (List Int):=d.bind fun d=>match BH (s,r) d.L with
 | none=>some []
 | some x=>Hw x
section
variable {φ ψ:AC} {h:AE} {F:List Chk} {a:Addr} {t:Slc×Slc×Slc×Slc×Slc×Slc×Unit} {p:dtP} {ap:Option Addr} {A:dtA} {fz:Slc×Slc×Slc×Int×Unit} {sl:Slc} {nm lm b:Nat} {fa:dtF} {steps:List Stp}
theorem Q6 (H:St φ F h):St φ (⟨Da, [.pointer none],none⟩::F) h:=St.pack (p:=Ry) (Γ:= []) ⟨rfl,rfl⟩ H
theorem V6 {q:Option Addr} {d:Option LkD} (H:St φ (⟨Da, [.pointer q],d⟩::F) h):Option.isNone q=Option.isNone d:=by
 obtain ⟨Γ,h1,_⟩:=St.unpack H
 cases d with
 | none=>cases h1.1; rfl
 | some d=>obtain ⟨a,t,ap,fz,sl,nm,lm,ps,h1,_⟩:=h1; cases h1; rfl
theorem Mf {q:Option Addr} {d:Option LkD} {s:Int} (s0:St φ (⟨Da, [.pointer q],d⟩::F) h) {r:List Int} (hd:Kr d s=some r):
 CallsH Tryz.prog 22 [.pointer q, .int .i64 s] h (Aq fun v h'=> ∃ψ:AC,∃y:Slc,∃l:List Int,Sub φ ψ∧v=((.one aS):Sh).val y∧l=r∧Ro.SliceIs (Ro.int .i64) ψ y l∧St ψ (⟨Da, [.pointer q],d⟩::F) h'):=by
 obtain ⟨d,rfl,hd1⟩:=Option.bind_eq_some_iff.1 hd
 obtain ⟨Γ,⟨a,t,ap,fz,sl,nm,lm,ps,h1,h2,h3,h4⟩,s1⟩:=St.unpack s0
 cases h1
 refine (Jg h2.pt s1 (show Ci (lkT d.p d.A d.fa d.steps (some nm) (some lm)) s=some r from hd1)).mono ?_
 rintro e h' ⟨v,rfl,ψ,y,l,le,rfl,rfl,k,s2⟩
 exact ⟨_,rfl,ψ,y,l,le,rfl,rfl,k,St.pack (p:=Ry) ⟨a,t,ap,fz,sl,nm,lm,ps,rfl,h2.mono le,h3,h4⟩ s2⟩
theorem Mg {q:Option Addr} {d:Option LkD} {s k:Int} (s0:St φ (⟨Da, [.pointer q],d⟩::F) h) {r:List Eb} (hd:Ks d s k=some r):
 CallsH Tryz.prog 27 [.pointer q, .int .i64 s, .int .i64 k] h (Aq fun v h'=> ∃ψ:AC,∃y:Slc,∃l:List Eb,Sub φ ψ∧v=((.one aS):Sh).val y∧l=r∧Ro.SliceIs Fe ψ y l∧St ψ (⟨Da, [.pointer q],d⟩::F) h'):=by
 obtain ⟨d,rfl,hd1⟩:=Option.bind_eq_some_iff.1 hd
 obtain ⟨Γ,⟨a,t,ap,fz,sl,nm,lm,ps,h1,h2,h3,h4⟩,s1⟩:=St.unpack s0
 cases h1
 refine (Jh h2.pt s1 (show Cj (lkT d.p d.A d.fa d.steps (some nm) (some lm)) s k=some r from hd1)).mono ?_
 rintro e h' ⟨v,rfl,ψ,y,l,le,rfl,rfl,kk,s2⟩
 exact ⟨_,rfl,ψ,y,l,le,rfl,rfl,kk,St.pack (p:=Ry) ⟨a,t,ap,fz,sl,nm,lm,ps,rfl,h2.mono le,h3,h4⟩ s2⟩
theorem PL {q:Option Addr} {d:Option LkD} {s k:Int} (gk:Dg.Glob φ) (s0:St φ (⟨Da, [.pointer q],d⟩::F) h) {r:List Int} (hd:PK d s k=some r):
 CallsH Tryz.prog 24 [.pointer q, .int .i64 s, .int .i64 k] h (Aq fun v h'=> ∃ψ:AC,∃y:Slc,∃l:List Int,Sub φ ψ∧v=((.one aS):Sh).val y∧l=r∧Ro.SliceIs (Ro.int .i64) ψ y l∧St ψ (⟨Da, [.pointer q],d⟩::F) h'):=by
 obtain ⟨d,rfl,hd1⟩:=Option.bind_eq_some_iff.1 hd
 obtain ⟨Γ,⟨a,t,ap,fz,sl,nm,lm,ps,h1,h2,h3,h4⟩,s1⟩:=St.unpack s0
 cases h1
 subst h4
 rw [OG,List.nil_append] at s1
 refine AQ mixed Tryz.func24 ?_
 rw [Kp]
 unfold Hy
 refine AF _ rfl ?_
 refine AH (x:=some lm) (h2.at s1 (j:=13) rfl) rfl ?_
 refine Fj (kk:=Ca) (a:= .pointer) (k:=(s,k)) (m:=mz ps d.L) (none:Option Addr) Tryz.underlying136 PH (i:=Tryz.t139) (by kernel_rfl) rfl s1 ?_
 have back: ∀ {ψ:AC} {h':AE},Sub φ ψ→St ψ (giC lm ps d.L F) h'→St ψ (⟨Da, [.pointer (some a)],some d⟩::F) h':=fun le st=>
  St.pack (p:=Ry) (Γ:=giC lm ps d.L []) ⟨a,t,ap,fz,sl,nm,lm,ps,rfl,h2.mono le,h3,rfl⟩ (by rw [OG,List.nil_append]; exact st)
 cases hg:BH (s,k) d.L with
 | none=>
  rw [hg] at hd1
  obtain rfl:=iS hd1
  rw [Q4 hg]
  refine Ag rfl ?_
  exact AB ⟨φ,(none,0,0), [],Sub.refl _,rfl,rfl,Ro.SliceIs.nil _ _,back (Sub.refl _) s1⟩
 | some x=>
  rw [hg] at hd1
  obtain ⟨i,p0,g1,g2,g3,g4,g5⟩:=Lp h3 hg
  rw [g3]
  obtain ⟨rest,r1,_⟩:=Dw g1 g2
  have s2:St φ (BN p0 x::(rest++(cM Ca Ro.pt lm (mz ps d.L)::F))) h:=s1.perm ((List.Perm.cons _ (List.Perm.append_right F r1)).trans ((List.Perm.swap _ _ _).trans (List.Perm.cons _ (List.perm_middle (l₁:=rest)).symm)))
  refine AY (NT s2) ?_
  refine AI (Kf gk s2 hd1) ?_
  rintro _ h5 ⟨ψ5,y5,le5,rfl,k5,s5⟩
  refine ⟨y5,rfl,?_⟩
  refine AB ⟨ψ5,y5,r,le5,rfl,rfl,k5,back le5 ?_⟩
  exact s5.perm (((List.Perm.cons _ (List.perm_middle (l₁:=rest))).trans (List.Perm.swap _ _ _)).trans (List.Perm.cons _ (List.Perm.append_right F r1).symm))
noncomputable def Tt (t2 t3 t4 t5 t6 t7:Slc) (ap:Option Addr) (fz:Slc×Slc×Slc×Int×Unit) (nm lm:Nat):T:=
 T.new (.cells #[(sv t2),(sv t3),(sv t4),(sv t5),(sv t6),(sv t7),(.pointer ap),(sv fz.1),(sv fz.2.1),(sv fz.2.2.1),(.int .i64 fz.2.2.2.1),(.slice none 0 0),(.map (some nm)),(.map (some lm))] 138 (0,0)) fun r17=>
 T.call 107 [(.pointer (some ⟨r17,0,none⟩)),(.func (.func 108) #[(.pointer (some ⟨r17,0,none⟩))] #[])] (.tuple []) fun (t18:Unit)=>
 T.call 109 [(.pointer (some ⟨r17,0,none⟩))] (.tuple [aS,aS]) fun (t19:Slc×Slc×Unit)=>
 T.call 112 [(.pointer (some ⟨r17,0,none⟩))] (.one aS) fun (t20:Slc)=>
 T.call 111 [(sv t19.2.1),(sv t19.1)] (.one aS) fun (t21:Slc)=>
 T.call 111 [(sv t20),(sv t21)] (.one aS) fun (t22:Slc)=>
 T.call 110 [(.pointer (some ⟨r17,0,none⟩)),(sv t22)] (.tuple []) fun (t23:Unit)=>
 T.ret (.pointer (some ⟨r17,0,none⟩))
noncomputable def QW (p:dtP) (A:dtA) (fa:dtF):Option (Option LkD):=
 (M0 p A I5 ([], [])).bind fun st=>(LK p A fa st.1 st.2).bind fun rd=>(Fl p A fa st.1 st.2).bind fun inc=>
 (Gs rd.2 rd.1).bind fun f1=>(Gs inc f1).bind fun f2=>(NS p A fa st.1 f2).bind fun L=>some (some ⟨p,A,fa,st.1,L⟩)
def OfS (φ:AC) (F:List Chk) (r:Option LkD) (v:Value) (h':AE):Prop:= ∃ψ:AC,∃y:Option Addr,∃l:Option LkD,Sub φ ψ∧v=((.one aP):Sh).val y∧l=r∧St ψ (⟨Da, [.pointer y],l⟩::F) h'
set_option maxHeartbeats 2000000 in
theorem Fm {φ0:AC} (le0:Sub φ0 φ) (gk:Dg.Glob φ) (kP:PlK φ t p) (kA:Pt Fu φ ap A) (f0:Ro.SliceIs Ro.bool φ fz.1 fa.1) (f1:Ro.SliceIs (Ro.list (Ro.int .i64)) φ fz.2.1 fa.2.1) (f2:Ro.SliceIs (Ro.list (Ro.int .i64)) φ fz.2.2.1 fa.2.2.1) (f3:fz.2.2.2.1=fa.2.2.2)
 {r:Option LkD} (hd:QW p A fa=some r) (s0:St φ (cM Ca (Ro.int .i64) nm [] ::cM Ca Ro.pt lm [] ::F) h):
 (Tt t.1 t.2.1 t.2.2.1 t.2.2.2.1 t.2.2.2.2.1 t.2.2.2.2.2.1 ap fz nm lm).wp Tryz.prog (Ly (Aq (OfS φ0 F r))) h:=by
 unfold Tt
 unfold QW at hd
 obtain ⟨en,hen,hd⟩:=bS hd
 obtain ⟨rd,hrd,hd⟩:=bS hd
 obtain ⟨inc,hinc,hd⟩:=bS hd
 obtain ⟨g1,hg1,hd⟩:=bS hd
 obtain ⟨g2,hg2,hd⟩:=bS hd
 obtain ⟨L,hL,hd⟩:=bS hd
 obtain rfl:=iS hd
 refine AU (vs:=lkV t ap fz ((none,0,0):Slc) nm lm) s0 ?_
 intro r17 h1 s1
 have s2:St φ (enC r17 t ap fz nm lm ⟨((none,0,0):Slc), [], []⟩ ++(cM Ca Ro.pt lm [] ::F)) h1:=(St.nil 224 Oe s1).at1
 refine AI (Th kA kP (x:=⟨((none,0,0):Slc), [], []⟩) hen s2) ?_
 rintro _ h2 ⟨rfl,ψ2,x,le2,hx,s3⟩
 refine ⟨(),rfl,?_⟩
 obtain ⟨sl,steps,num⟩:=x
 obtain rfl:=hx
 obtain ⟨ψ3,le3,cB,s4⟩:=St.blk s3
 obtain ⟨ψ4,le4,ks,s5⟩:=St.freezeRow (t:=sl) s4
 have le04:=(le2.trans le3).trans le4
 have K:LkK ψ4 ⟨r17,0,none⟩ t ap fz sl nm lm p A fa steps:=⟨cB.mono le4,kP.mono le04,kA.mono le04,f0.mono le04,f1.mono le04,f2.mono le04,f3,ks⟩
 refine AI (Rx K hrd s5) ?_
 rintro _ h5 ⟨ψ5,y1,y2,ps,le5,rfl,hps,k1,k2,s6⟩
 refine ⟨_,rfl,?_⟩
 have le05:=le04.trans le5
 have s7:St ψ5 (cM Ca (Ro.int .i64) nm num::(AN ps rd.1++(cM Ca Ro.pt lm [] ::F))) h5:=s6.perm (List.perm_middle (l₁:=AN ps rd.1))
 refine AI (OF (gk.mono le05) (K.mono le5) hinc s7) ?_
 rintro _ h6 ⟨ψ6,y3,le6,rfl,k3,s8⟩
 refine ⟨_,rfl,?_⟩
 have le06:=le05.trans le6
 refine AI (NJ (gk.mono le06) (k2.mono le6) (k1.mono le6) hps s8.tail hg1) ?_
 rintro _ h7 ⟨ψ7,y4,qs,le7,rfl,hqs,s9⟩
 refine ⟨_,rfl,?_⟩
 have le07:=le06.trans le7
 obtain ⟨ψ8,le8,k4,s10⟩:=St.freezeRow (t:=y4) s9
 have le08:=le07.trans le8
 refine AI (NJ (gk.mono le08) (k3.mono (le7.trans le8)) k4 hqs s10 hg2) ?_
 rintro _ h8 ⟨ψ9,y5,us,le9,rfl,hus,s11⟩
 refine ⟨_,rfl,?_⟩
 obtain ⟨ψ10,le10,k5,s12⟩:=St.freezeRow (t:=y5) s11
 have le010:=(le08.trans le9).trans le10
 have le410:=(((((le5.trans le6).trans le7).trans le8).trans le9).trans le10)
 have s13:St ψ10 (giC lm [] [] (AN us g2++(AN qs g1++(AN ps rd.1++F)))) h8:=by
  refine s12.perm ?_
  show (AN us g2++(AN qs g1++(AN ps rd.1++(cM Ca Ro.pt lm [] ::F)))).Perm (cM Ca Ro.pt lm [] ::(AN us g2++(AN qs g1++(AN ps rd.1++F))))
  rw [← List.append_assoc,← List.append_assoc,← List.append_assoc (AN us g2),← List.append_assoc (AN us g2++AN qs g1)]
  exact List.perm_middle
 refine AI (Ts (gk.mono le010) (K.mono le410) k5 hus hL s13) ?_
 rintro _ h9 ⟨rfl,ψ11,vs,le11,hvs,s14⟩
 refine ⟨(),rfl,?_⟩
 refine AB ⟨ψ11,some ⟨r17,0,none⟩,_,(le0.trans le010).trans le11,rfl,rfl,?_⟩
 refine St.pack (p:=Ry) (Γ:=giC lm vs L []) ⟨⟨r17,0,none⟩,t,ap,fz,sl,nm,lm,vs,rfl,K.mono (le410.trans le11),hvs,rfl⟩ ?_
 rw [OG,List.nil_append]
 have s15:St ψ11 ((AN us g2++(AN qs g1++AN ps rd.1)) ++(giC lm vs L F)) h9:=by
  refine s14.perm ?_
  show (cM Ca Ro.pt lm (mz vs L)::(AN vs (L.map (·.2)) ++(AN us g2++(AN qs g1++(AN ps rd.1++F))))).Perm ((AN us g2++(AN qs g1++AN ps rd.1)) ++(cM Ca Ro.pt lm (mz vs L)::(AN vs (L.map (·.2)) ++F)))
  rw [show AN us g2++(AN qs g1++(AN ps rd.1++F))=(AN us g2++(AN qs g1++AN ps rd.1)) ++F by simp [List.append_assoc]]
  generalize AN us g2++(AN qs g1++AN ps rd.1)=X
  refine (List.Perm.cons _ ?_).trans (List.perm_middle (l₁:=X)).symm
  rw [← List.append_assoc,← List.append_assoc]
  exact List.Perm.append_right F List.perm_append_comm
 exact St.drop _ s15
set_option maxHeartbeats 4000000 in
theorem Tu {p_0:Slc×Slc×Slc×Slc×Slc×Slc×Unit} {d0 d1:List ByteArray} {d2:List BA} {d3 d4:List Int} {d5:List ByteArray} {d6:dtA} {a_1:Option Addr} (gk:Dg.Glob φ)
 (k0:Ro.SliceIs Ro.str φ p_0.1 d0) (k1:Ro.SliceIs Ro.str φ p_0.2.1 d1) (k2:Ro.SliceIs CA φ p_0.2.2.1 d2) (k3:Ro.SliceIs (Ro.int .i64) φ p_0.2.2.2.1 d3) (k4:Ro.SliceIs (Ro.int .i64) φ p_0.2.2.2.2.1 d4) (k5:Ro.SliceIs Ro.str φ p_0.2.2.2.2.2.1 d5) (kA:Pt Fu φ a_1 d6) (s0:St φ F h) {r:Option LkD} (hd:Q5 (d0,d1,d2,d3,d4,d5) d6=some r):
 CallsH Tryz.prog 69 [.agg #[sv p_0.1,sv p_0.2.1,sv p_0.2.2.1,sv p_0.2.2.2.1,sv p_0.2.2.2.2.1,sv p_0.2.2.2.2.2.1], .pointer a_1] h (Aq (OfS φ F r)):=by
 refine AQ mixed Tryz.func69 ?_
 rw [PF]
 unfold NQ
 obtain ⟨fa,hfa,hd⟩:=bS hd
 have hd:QW (d0,d1,d2,d3,d4,d5) d6 fa=some r:=hd
 have kP:PlK φ p_0 (d0,d1,d2,d3,d4,d5):=⟨k0,k1,k2,k3,k4,k5⟩
 refine AU (vs:=plV p_0) s0 ?_
 intro r1 h1 s1
 obtain ⟨φ1,le1,cB,s1⟩:=St.blk s1
 have hc: ∀ {ψ:AC} {Γ:List Chk} {h':AE},Sub φ1 ψ→St ψ Γ h'→ ∀j v,(plV p_0)[j]? =some v→BF h' ⟨r1,j,none⟩=some v:=fun {ψ Γ h'} le st j v hv=>by
  have:=AD st.sub ((cB.mono le).at j hv)
  rw [Dl,Nat.zero_add] at this
  exact this
 have hc1:=hc (Sub.refl _) s1
 refine I4 hc1 ?_
 refine I4 hc1 ?_
 have gk1:=gk.mono le1
 have kP1:=kP.mono le1
 have kA1:=kA.mono le1
 have call: ∀ {Γ:List Chk} {w:AE} {K:(Slc×Slc×Slc×Int×Unit)→T} {Q:Be→AE→Prop},St φ1 Γ w→
  (∀(ψ:AC) (fz:Slc×Slc×Slc×Int×Unit) (w':AE),Sub φ1 ψ→Ro.SliceIs Ro.bool ψ fz.1 fa.1→Ro.SliceIs (Ro.list (Ro.int .i64)) ψ fz.2.1 fa.2.1→Ro.SliceIs (Ro.list (Ro.int .i64)) ψ fz.2.2.1 fa.2.2.1→fz.2.2.2.1=fa.2.2.2→St ψ Γ w'→(K fz).wp Tryz.prog Q w')→
  (T.call 106 [(.agg #[(sv p_0.1),(sv p_0.2.1),(sv p_0.2.2.1),(sv p_0.2.2.2.1),(sv p_0.2.2.2.2.1),(sv p_0.2.2.2.2.2.1)])] (.one (.agg [.slice, .slice, .slice,(.int .i64)])) K).wp Tryz.prog Q w:=by
  intro Γ w K Q st hk
  refine AI (OC gk1 kP1 st hfa) ?_
  rintro _ w' ⟨ψ,y,le,rfl,g0,g1,g2,g3,st'⟩
  exact ⟨y,rfl,hk ψ y w' le g0 g1 g2 g3 st'⟩
 refine FO ?_ (FO ?_ ?_)
 ·refine call s1 ?_
  intro ψ fz w le g0 g1 g2 g3 st
  have hcc:=fun {Γ:List Chk} {h':AE} (st:St ψ Γ h')=>hc le st
  repeat refine AL (hcc st _ _ rfl) ?_
  refine FO ?_ ?_
  ·refine C3 Ca (Ro.int .i64) st ?_
   intro r15 w2 st2
   repeat refine AL (hcc st2 _ _ rfl) ?_
   refine C3 Ca Ro.pt st2 ?_
   intro r16 w3 st3
   repeat refine AL (hcc st3 _ _ rfl) ?_
   exact Fm (le1.trans le) (gk1.mono le) (kP1.mono le) (kA1.mono le) g0 g1 g2 g3 hd st3.at1
  ·refine C3 Ca Ro.pt st ?_
   intro r15 w2 st2
   repeat refine AL (hcc st2 _ _ rfl) ?_
   refine C3 Ca (Ro.int .i64) st2 ?_
   intro r16 w3 st3
   repeat refine AL (hcc st3 _ _ rfl) ?_
   exact Fm (le1.trans le) (gk1.mono le) (kP1.mono le) (kA1.mono le) g0 g1 g2 g3 hd st3
 ·refine C3 Ca (Ro.int .i64) s1 ?_
  intro r33 w2 st2
  have hc2:=hc (Sub.refl _) st2
  repeat refine AL (hc2 _ _ rfl) ?_
  refine FO ?_ ?_
  ·refine call st2 ?_
   intro ψ fz w le g0 g1 g2 g3 st
   have hcc:=fun {Γ:List Chk} {h':AE} (st:St ψ Γ h')=>hc le st
   repeat refine AL (hcc st _ _ rfl) ?_
   refine C3 Ca Ro.pt st ?_
   intro r35 w3 st3
   repeat refine AL (hcc st3 _ _ rfl) ?_
   exact Fm (le1.trans le) (gk1.mono le) (kP1.mono le) (kA1.mono le) g0 g1 g2 g3 hd st3.at1
  ·refine C3 Ca Ro.pt st2 ?_
   intro r35 w3 st3
   have hc3:=hc (Sub.refl _) st3
   repeat refine AL (hc3 _ _ rfl) ?_
   refine call st3 ?_
   intro ψ fz w le g0 g1 g2 g3 st
   have hcc:=fun {Γ:List Chk} {h':AE} (st:St ψ Γ h')=>hc le st
   repeat refine AL (hcc st _ _ rfl) ?_
   exact Fm (le1.trans le) (gk1.mono le) (kP1.mono le) (kA1.mono le) g0 g1 g2 g3 hd st.at1
 ·refine C3 Ca Ro.pt s1 ?_
  intro r33 w2 st2
  have hc2:=hc (Sub.refl _) st2
  repeat refine AL (hc2 _ _ rfl) ?_
  refine FO ?_ ?_
  ·refine call st2 ?_
   intro ψ fz w le g0 g1 g2 g3 st
   have hcc:=fun {Γ:List Chk} {h':AE} (st:St ψ Γ h')=>hc le st
   repeat refine AL (hcc st _ _ rfl) ?_
   refine C3 Ca (Ro.int .i64) st ?_
   intro r35 w3 st3
   repeat refine AL (hcc st3 _ _ rfl) ?_
   exact Fm (le1.trans le) (gk1.mono le) (kP1.mono le) (kA1.mono le) g0 g1 g2 g3 hd st3
  ·refine C3 Ca (Ro.int .i64) st2 ?_
   intro r35 w3 st3
   have hc3:=hc (Sub.refl _) st3
   repeat refine AL (hc3 _ _ rfl) ?_
   refine call st3 ?_
   intro ψ fz w le g0 g1 g2 g3 st
   have hcc:=fun {Γ:List Chk} {h':AE} (st:St ψ Γ h')=>hc le st
   repeat refine AL (hcc st _ _ rfl) ?_
   exact Fm (le1.trans le) (gk1.mono le) (kP1.mono le) (kA1.mono le) g0 g1 g2 g3 hd st
end
def trE (p:dtP) (n:Nat) (es:List Edge):List (Stp×Int):=(es.filter fun e=> !(decide (0≤e.1) && decide (e.1<nT p))).map fun e=>(((n:Int),e.1),e.2)
def trs (p:dtP) (E:List (List Edge)) (n:Nat):List (Stp×Int):=(List.range n).flatMap fun k=>trE p k (E[k]?.getD [])
theorem Mh (p:dtP) (E:List (List Edge)) (n:Nat):trs p E (n+1)=trs p E n++trE p n (E[n]?.getD []):=by
 unfold trs
 rw [List.range_succ,List.flatMap_append]
 simp
theorem Tv (p:dtP) (E:List (List Edge)) {n m:Nat} (h:n≤m):trs p E n<+:trs p E m:=by
 induction h with
 | refl=>exact List.prefix_refl _
 | step _ ih=>rw [Mh]; exact ih.trans (List.prefix_append _ _)
theorem PM {p:dtP} {n:Nat} {es:List Edge} {j:Nat} {e:Edge} (h:es[j]? =some e):trE p n (es.take (j+1))=trE p n (es.take j) ++trE p n [e] :=by
 unfold trE
 rw [List.take_add_one,h,List.filter_append,List.map_append]
 rfl
theorem Ur (p:dtP) (n:Nat) (es:List Edge) (j:Nat):trE p n (es.take j) <+:trE p n es:=by
 unfold trE
 obtain ⟨r,hr⟩:=List.take_prefix j es
 refine ⟨(r.filter fun e=> !(decide (0≤e.1) && decide (e.1<nT p))).map fun e=>(((n:Int),e.1),e.2),?_⟩
 rw [← List.map_append,← List.filter_append,hr]
section
variable {p:dtP} {B:List dtK} {E:List (List Edge)} {tt:Int}
theorem Q7 (V:VPp p) (H:Fin p B E) (hB:B.length≤1000000) {σ:Type} {f:σ→Stp→Int→Option σ} {s:σ} (I:List (Stp×Int)→σ→Prop) (h0:I [] s)
 (hs: ∀pre x s,pre++ [x] <+:trs p E B.length→I pre s→Ok (f s x.1 x.2) (I (pre++ [x]))):Ok (M0 p (DH p B E tt) f s) (I (trs p E B.length)):=by
 unfold M0
 refine AR (LF H) ?_
 refine B6 (n:=B.length) (fun k s=>I (trs p E k) s) (by omega) h0 fun k s hk hI=> ?_
 have hb:=List.getElem?_eq_getElem hk
 obtain ⟨es,he⟩:=H.edge hb
 refine AR (O7 V H hb he) ?_
 have hl:=H.edges_len V hb he
 have hsucc:trs p E (k+1)=trs p E k++trE p k es:=by rw [Mh,he]; rfl
 have hpre:=Tv p E (show k+1≤B.length from hk)
 rw [hsucc] at hpre
 obtain ⟨s',e1,e2⟩:=B6 (f:=fun j s=>(idx es j).bind fun e=>(BV p e.1).bind fun t=>cond (!t) (f s ((k:Int),e.1) e.2) (some s)) (n:=es.length) (fun j s=>I (trs p E k++trE p k (es.take j)) s) (by omega) (s:=s) (by
  rw [List.take_zero]
  show I (trs p E k++ []) s
  rw [List.append_nil]; exact hI) fun j s hj hI=>by
   have hx:=List.getElem?_eq_getElem hj
   refine AZ hx (AR (Hd p _) ?_)
   rw [PM hx]
   cases hc:(decide (0≤es[j].1) && decide (es[j].1<nT p)) with
   | true=>
    have e:trE p k [es[j]] = [] :=by unfold trE; rw [List.filter_cons,hc]; rfl
    rw [e,List.append_nil]
    refine Al ?_ (AG hI)
    show (!(decide (0≤es[j].1) && decide (es[j].1<nT p)))=false
    rw [hc]; rfl
   | false=>
    have e:trE p k [es[j]] = [(((k:Int),es[j].1),es[j].2)] :=by unfold trE; rw [List.filter_cons,hc]; rfl
    rw [e]
    refine Cg ?_ ?_
    ·show (!(decide (0≤es[j].1) && decide (es[j].1<nT p)))=true
     rw [hc]; rfl
    ·rw [← List.append_assoc]
     refine hs _ (((k:Int),es[j].1),es[j].2) s ?_ hI
     rw [List.append_assoc,← e,← PM hx]
     exact ((List.prefix_append_right_inj _).2 (Ur p k es (j+1))).trans hpre
 refine ⟨s',e1,?_⟩
 rw [List.take_of_length_le (Nat.le_refl _)] at e2
 show I (trs p E (k+1)) s'
 rw [hsucc]
 exact e2
theorem Tw (H:Fin p B E) {n:Nat} {b:dtK} {e:List Edge} (hb:B[n]? =some b) (he:E[n]? =some e) {s t:Int} :(s,t) ∈ e ↔ IB p.2.2.1 B b e s t∧t ≠ -1:=by
 have hd:=H.done n b e hb he
 constructor
 ·intro h
  obtain ⟨q,bt,h1,h2,h3,h4⟩:=hd.2 _ h
  dsimp only at h1 h4
  exact ⟨.inl ⟨by rw [← hd.1]; exact List.mem_map.2 ⟨_,h,rfl⟩,q,bt,h1,h2,h3,h4,h⟩,by omega⟩
 ·rintro ⟨⟨_,q,bt,_,_,_,_,h⟩ | ⟨_,h⟩,h2⟩
  ·exact h
  ·exact absurd h h2
theorem Hh (H:Fin p B E) {n:Nat} {e:List Edge} (hn:n<B.length) (he:E[n]? =some e) {s t:Int} :(s,t) ∈ e ↔ ∃m:Nat,t=(m:Int)∧TrB p B E n s m:=by
 have hb:=List.getElem?_eq_getElem hn
 rw [Tw H hb he]
 constructor
 ·rintro ⟨hg,h2⟩
  have hg':=hg
  rcases hg with ⟨_,q,bt,h3,_⟩ | ⟨_,h⟩
  ·subst h3; exact ⟨q,rfl,_,e,hb,he,hg'⟩
  ·exact absurd h h2
 ·rintro ⟨m,rfl,b',e',hb',he',hg⟩
  rw [hb] at hb'; cases hb'
  rw [he] at he'; cases he'
  exact ⟨hg,by omega⟩
theorem JM (V:VPp p) (H:Fin p B E) {x:Stp×Int} :x ∈ trs p E B.length ↔ ∃(n:Nat) (s:Int) (m:Nat),x=(((n:Int),s),(m:Int))∧nT p≤s∧TrB p B E n s m:=by
 unfold trs trE
 rw [List.mem_flatMap]
 constructor
 ·rintro ⟨n,hn,hx⟩
  have hn:=List.mem_range.1 hn
  obtain ⟨e,he⟩:=H.edge (List.getElem?_eq_getElem hn)
  rw [he] at hx
  obtain ⟨y,hy,rfl⟩:=List.mem_map.1 hx
  obtain ⟨h1,h2⟩:=List.mem_filter.1 hy
  obtain ⟨m,hm,ht⟩:=(Hh H hn he (s:=y.1) (t:=y.2)).1 h1
  have h0:=((Kl V H).st ht).2.2.2
  refine ⟨n,y.1,m,by rw [hm],?_,ht⟩
  rw [decide_eq_true h0,Bool.true_and,Bool.not_eq_true',decide_eq_false_iff_not] at h2
  omega
 ·rintro ⟨n,s,m,rfl,hs,ht⟩
  have hn:n<B.length:=((Kl V H).st ht).1
  obtain ⟨e,he⟩:=H.edge (List.getElem?_eq_getElem hn)
  have h0:=((Kl V H).st ht).2.2.2
  refine ⟨n,List.mem_range.2 hn,?_⟩
  rw [he]
  refine List.mem_map.2 ⟨(s,(m:Int)),List.mem_filter.2 ⟨(Hh H hn he).2 ⟨m,rfl,ht⟩,?_⟩,rfl⟩
  rw [decide_eq_false (show ¬s<nT p by omega),Bool.and_false]
  rfl
theorem NU (V:VPp p) (H:Fin p B E):((trs p E B.length).map (·.1)).Nodup:=by
 have key: ∀n,n≤B.length→((trs p E n).map (·.1)).Nodup∧ ∀x ∈ (trs p E n).map (·.1),x.1< (n:Int):=by
  intro n
  induction n with
  | zero=>intro _; exact ⟨by simp [trs],by simp [trs]⟩
  | succ n ih=>
   intro hn
   obtain ⟨h1,h2⟩:=ih (by omega)
   have hb:=List.getElem?_eq_getElem (show n<B.length from hn)
   obtain ⟨e,he⟩:=H.edge hb
   have hd:=(H.done n _ e hb he).1
   have hu:=WT p.2.2.1 B[n].2.1
   rw [← hd] at hu
   have h3: ∀x ∈ (trE p n e).map (·.1),x.1=(n:Int):=by
    intro x hx
    obtain ⟨y,hy,rfl⟩:=List.mem_map.1 hx
    obtain ⟨z,_,rfl⟩:=List.mem_map.1 hy
    rfl
   have h4:((trE p n e).map (·.1)).Nodup:=by
    unfold trE
    rw [List.map_map]
    have hsub:((e.filter fun e=> !(decide (0≤e.1) && decide (e.1<nT p))).map (·.1)).Pairwise (· < ·):=hu.sublist (List.Sublist.map _ List.filter_sublist)
    rw [List.nodup_iff_pairwise_ne,List.pairwise_map]
    rw [List.pairwise_map] at hsub
    exact hsub.imp fun {a b} h g=>by
     have:=(Prod.mk.inj g).2
     omega
   rw [Mh,he]
   show ((trs p E n++trE p n e).map (·.1)).Nodup∧ ∀x ∈ (trs p E n++trE p n e).map (·.1),x.1< ((n+1:Nat):Int)
   rw [List.map_append]
   refine ⟨List.nodup_append.2 ⟨h1,h4,fun a ha b hb g=> ?_⟩,fun x hx=> ?_⟩
   ·have:=h2 a ha
    have:=h3 b hb
    subst g
    omega
   ·rcases List.mem_append.1 hx with h | h
    ·have:=h2 x h; omega
    ·have:=h3 x h; omega
 exact (key _ (Nat.le_refl _)).1
theorem Us (V:VPp p) (H:Fin p B E) (hV: ∀n s m,TrB p B E n s m→s<nT p+((p.2.1.length:Nat):Int)):(trs p E B.length).length≤B.length * p.2.1.length:=by
 have h:=List.Nodup.length_le_of_subset (l₂:=(List.range B.length).flatMap fun a=>(List.range p.2.1.length).map fun b=>(((a:Nat):Int),nT p+((b:Nat):Int))) (NU V H) fun x hx=>by
  obtain ⟨y,hy,rfl⟩:=List.mem_map.1 hx
  obtain ⟨n,s,m,rfl,hs,ht⟩:=(JM V H).1 hy
  have h1:=hV n s m ht
  have hn:n<B.length:=((Kl V H).st ht).1
  refine List.mem_flatMap.2 ⟨n,List.mem_range.2 hn,List.mem_map.2 ⟨(s - nT p).toNat,List.mem_range.2 (by omega),Prod.ext rfl ?_⟩⟩
  dsimp only
  omega
 rw [List.length_map,List.length_flatMap] at h
 simp only [List.length_map,List.length_range,List.map_const',List.sum_replicate_nat] at h
 exact h
structure Num (st:List Stp) (nm:List (Stp×Int)):Prop where
 at_: ∀(i:Nat) k,st[i]? =some k→BH k nm=some (i:Int)
 none: ∀k,k ∉ st→BH k nm=none
theorem Tx (V:VPp p) (H:Fin p B E) (hB:B.length≤1000000) (hl:(trs p E B.length).length≤100000):Ok (M0 p (DH p B E tt) I5 ([], [])) fun st=>st.1=(trs p E B.length).map (·.1)∧Num st.1 st.2:=by
 have hnd:=NU V H
 refine Q7 V H hB (fun pre (st:EnS)=>st.1=pre.map (·.1)∧Num st.1 st.2) ⟨rfl,fun i k h=>by simp at h,fun _ _=>rfl⟩ fun pre x st hpre hI=> ?_
 obtain ⟨st1,nm⟩:=st
 obtain ⟨rfl,hN⟩:=hI
 dsimp only at hN ⊢
 have hlen:pre.length+1≤(trs p E B.length).length:=by
  have:=hpre.length_le
  simpa using this
 have hnew:x.1 ∉ pre.map (·.1):=by
  obtain ⟨r,hr⟩:=hpre
  rw [← hr,List.map_append,List.map_append] at hnd
  have:=(List.nodup_append.1 (List.nodup_append.1 hnd).1).2.2
  intro hm
  exact this _ hm x.1 (by simp) rfl
 unfold I5
 dsimp only
 refine Bp (by simp; omega) (AG ⟨by simp,fun i k h=> ?_,fun k hk=> ?_⟩)
 ·dsimp only at h ⊢
  rw [CX]
  rcases Nat.lt_or_ge i pre.length with g | g
  ·rw [List.getElem?_append_left (by simpa using g)] at h
   rw [if_neg (fun e=>hnew (by rw [← e]; exact List.mem_of_getElem? h))]
   exact hN.at_ i k h
  ·rw [List.getElem?_append_right (by simpa using g),List.length_map] at h
   have:i - pre.length=0:=by
    have:=(List.getElem?_eq_some_iff.1 h).1
    simp at this
    omega
   rw [this] at h
   simp at h
   rw [if_pos h.symm]
   congr 1
   simp
   omega
 ·dsimp only at hk ⊢
  rw [List.mem_append] at hk
  rw [CX,if_neg fun e=>hk (.inr (by simp [e])),hN.none k fun h=>hk (.inl h)]
end
structure DI (p:dtP) (B:List dtK) (E:List (List Edge)) (fa:dtF):Prop where
 vp:VPp p
 sy:Sy p
 fin:Fin p B E
 gr:Gr (nT p) p.2.2.1
 few:B.length≤300
 vars:p.2.1.length≤16
 fa:Te p fa
 zero: ∃st,p.2.2.1[0]? =some (nT p+((p.2.1.length:Nat):Int), [st],0)
section
variable {p:dtP} {B:List dtK} {E:List (List Edge)} {fa:dtF} {tt:Int} {steps:List Stp} {o1 o2:Option Nat}
theorem DI.aut (H:DI p B E fa):Aut p.2.2.1 (SB B) (KB B) (TrB p B E):=Kl H.vp H.fin
theorem DI.sym (H:DI p B E fa) {n m:Nat} {s:Int} (h:TrB p B E n s m):0≤s∧s<nT p+((p.2.1.length:Nat):Int):=by
 have A:=H.aut
 obtain ⟨y,h1,h2⟩:=A.some_ h
 obtain ⟨k,d,rfl,_,_⟩:=A.form (A.st h).1 h1
 obtain ⟨r,h3,h4⟩:=MY H.gr h2 (A.st h).2.2.2
 exact H.sy.right r (List.mem_of_getElem? h3) s (List.mem_of_getElem? h4)
theorem DI.lens (H:DI p B E fa):(trs p E B.length).length≤4800:=by
 have h:=Us H.vp H.fin fun n s m ht=>(H.sym ht).2
 have h1:=H.few
 have h2:=H.vars
 have h3:B.length * p.2.1.length≤300 * 16:=Nat.mul_le_mul h1 h2
 omega
theorem OH (H:DI p B E fa) {n:Nat} (hn:n<B.length) {k:Nat} {r:BA} (hr:p.2.2.1[k]? =some r):
 Ok (BX (lkT p (DH p B E tt) fa steps o1 o2) (n:Int) (k:Int)) fun b=>b=true ↔ It p.2.2.1 (KB B) n k r.2.1.length:=by
 have hk:=BQ hr
 have hb:=List.getElem?_eq_getElem hn
 have hg:=(H.fin.good H.vp hb).2.2.2.2
 unfold BX
 refine AO (Q:=fun c=>c=false) (Al (decide_eq_false (by omega)) (AG (decide_eq_false (by dsimp only; omega)))) fun c hc=> ?_
 subst hc
 refine Al rfl (AZ hr (AR (MX H.vp H.fin hb) (AR (Iw (by omega)) (AG ?_))))
 rw [decide_eq_true_eq]
 exact Eu H.vp H.fin hb _
def Dir (p:dtP) (B:List dtK) (E:List (List Edge)) (m:Nat) (j:Int):Prop:=(j<nT p∧ ∃q,TrB p B E m j q)∨(j=0∧It p.2.2.1 (KB B) m 0 1)
structure RdI (p:dtP) (B:List dtK) (E:List (List Edge)) (num:List (Stp×Int)) (x:Stp×Int) (d:AT) (l:List Int):Prop where
 ok:OkS d∧d.1=nT p
 mem: ∀m:Nat,x.2=(m:Int)→ ∀j,Dg.mem d j=true ↔ Dir p B E m j
 few:l.length≤20000
 next: ∀m:Nat,x.2=(m:Int)→ ∀k,k ∈ l ↔ ∃c q,TrB p B E m c q∧nT p≤c∧Nul p.2.2.1 c∧(BH ((m:Int),c) num).getD 0=k
theorem BI {α:Type} {l:List α} {k:Nat} {x:α} (h:l[k]? =some x) {y:α} :y ∈ l.take (k+1) ↔ y ∈ l.take k∨y=x:=by
 rw [List.take_add_one,h,List.mem_append]
 simp
theorem Tz (H:DI p B E fa) {num:List (Stp×Int)} {x:Stp×Int} {st:RdS} (hx:x ∈ trs p E B.length) (h1:st.1.length≤100000) (h2:st.2.length≤100000):
 Ok (Me p (DH p B E tt) fa steps num st x.1 x.2) fun st'=> ∃d l,st'=(st.1++ [d],st.2++ [l])∧RdI p B E num x d l:=by
 obtain ⟨n,s,m,rfl,hs,ht⟩:=(JM H.vp H.fin).1 hx
 have A:=H.aut
 have hm:m<B.length:=(A.st ht).2.1
 have hT:=H.sy.t1
 have hV:=H.vars
 have hnT:nT p=(p.1.length:Int):=rfl
 have hb:=List.getElem?_eq_getElem hm
 obtain ⟨es,he⟩:=H.fin.edge hb
 have hel:=H.fin.edges_len H.vp hb he
 have cl:=Kn H.sy
 obtain ⟨z,hz⟩:=H.zero
 unfold Me
 dsimp only
 obtain ⟨s0,e0,k1,k2,k3⟩:=Dg.new_ok (nT p)
 refine AR e0 (AO (OH H hm (k:=0) hz) fun b hbd=> ?_)
 have hbd:b=true ↔ It p.2.2.1 (KB B) m 0 1:=hbd
 refine AO (Q:=fun (u:AT)=>OkS u∧u.1=nT p∧ ∀j,mem u j=true ↔ (j=0∧It p.2.2.1 (KB B) m 0 1)) (Ae (fun hc=> ?_) fun hc=>AG ⟨k1,k2.trans cl,fun j=> ?_⟩) fun u hu=> ?_
 ·obtain ⟨u,a1,a2,a3,a4⟩:=Dg.add_ok k1 0
  refine AR a1 (AG ⟨a2,a3.trans (k2.trans cl),fun j=> ?_⟩)
  dsimp only
  rw [a4,k3,Bool.false_or,decide_eq_true_eq]
  exact ⟨fun h=>⟨h.1,hbd.1 hc⟩,fun h=>⟨h.1,by omega,by rw [k2,cl]; omega⟩⟩
 ·rw [k3]
  constructor
  ·intro h; cases h
  ·intro h; have:=hbd.2 h.2; rw [hc] at this; cases this
 obtain ⟨u1,u2,u3⟩:=hu
 refine AR (O7 H.vp H.fin hb he) ?_
 refine CT (fun j (z:AT×List Int)=>OkS z.1∧z.1.1=nT p∧(∀i,mem z.1 i=true ↔ (mem u i=true∨ ∃e ∈ es.take j,e.1=i∧e.1<nT p))∧z.2.length≤j∧ ∀k,k ∈ z.2 ↔ ∃e ∈ es.take j,nT p≤e.1∧Nul p.2.2.1 e.1∧(BH ((m:Int),e.1) num).getD 0=k) (by omega)
  ⟨u1,u2,fun i=>by simp,by simp,fun k=>by simp⟩ (fun j z hj hz=> ?_) fun z hz=> ?_
 ·obtain ⟨zs,zl⟩:=z
  obtain ⟨z1,z2,z3,z4,z5⟩:=hz
  dsimp only at z1 z2 z3 z4 z5 ⊢
  have hx:=List.getElem?_eq_getElem hj
  obtain ⟨e,hee⟩: ∃e,es[j] =e:=⟨_,rfl⟩
  rw [hee] at hx
  obtain ⟨q,hq,htq⟩:=(Hh H.fin hm he (s:=e.1) (t:=e.2)).1 (List.mem_of_getElem? hx)
  obtain ⟨g0,g1⟩:=H.sym htq
  refine AZ hx (AR (Hd p _) (Ae (fun hc=> ?_) fun hc=> ?_))
  ·rw [Bool.and_eq_true,decide_eq_true_eq,decide_eq_true_eq] at hc
   obtain ⟨v,a1,a2,a3,a4⟩:=Dg.add_ok z1 e.1
   refine AR a1 (AG ⟨a2,a3.trans z2,fun i=> ?_,by dsimp only; omega,fun k=> ?_⟩)
   ·dsimp only
    rw [a4,Bool.or_eq_true,z3,decide_eq_true_eq,z2]
    constructor
    ·rintro ((h | ⟨e',h1,h2⟩) | h)
     ·exact .inl h
     ·exact .inr ⟨e',(BI hx).2 (.inl h1),h2⟩
     ·exact .inr ⟨e,(BI hx).2 (.inr rfl),h.1.symm,by omega⟩
    ·rintro (h | ⟨e',h1,h2,h3⟩)
     ·exact .inl (.inl h)
     ·rcases (BI hx).1 h1 with h1 | rfl
      ·exact .inl (.inr ⟨e',h1,h2,h3⟩)
      ·exact .inr ⟨h2.symm,g0,h3⟩
   ·dsimp only
    rw [z5]
    constructor
    ·rintro ⟨e',h1,h2⟩; exact ⟨e',(BI hx).2 (.inl h1),h2⟩
    ·rintro ⟨e',h1,h2⟩
     rcases (BI hx).1 h1 with h1 | rfl
     ·exact ⟨e',h1,h2⟩
     ·omega
  ·rw [Bool.and_eq_false_iff,decide_eq_false_iff_not,decide_eq_false_iff_not] at hc
   have hge:nT p≤e.1:=by omega
   have ee:IntKind.wrap .i64 (e.1 - nT p)=(((e.1 - nT p).toNat:Nat):Int):=by rw [w64 (by omega) (by omega)]; omega
   have hn:=H.fa.len
   have hlt:(e.1 - nT p).toNat<fa.1.length:=by omega
   have hbb:=List.getElem?_eq_getElem hlt
   have hnul:=H.fa.nul e.1 hge
   rw [hbb] at hnul
   rw [ee]
   refine AZ hbb ?_
   have sets: ∀i,mem zs i=true ↔ (mem u i=true∨ ∃e ∈ es.take (j+1),e.1=i∧e.1<nT p):=fun i=>by
    rw [z3]
    constructor
    ·rintro (h | ⟨e',h1,h2⟩)
     ·exact .inl h
     ·exact .inr ⟨e',(BI hx).2 (.inl h1),h2⟩
    ·rintro (h | ⟨e',h1,h2,h3⟩)
     ·exact .inl h
     ·rcases (BI hx).1 h1 with h1 | rfl
      ·exact .inr ⟨e',h1,h2,h3⟩
      ·omega
   refine Ae (fun hc2=>Bp (by simp; omega) (AG ⟨z1,z2,sets,by simp; omega,fun k=> ?_⟩)) fun hc2=>AG ⟨z1,z2,sets,by dsimp only; omega,fun k=> ?_⟩
   ·dsimp only
    rw [List.mem_append,z5,List.mem_singleton]
    constructor
    ·rintro (⟨e',h1,h2⟩ | h)
     ·exact ⟨e',(BI hx).2 (.inl h1),h2⟩
     ·exact ⟨e,(BI hx).2 (.inr rfl),hge,hnul.1 (by rw [hc2]),h.symm⟩
    ·rintro ⟨e',h1,h2,h3,h4⟩
     rcases (BI hx).1 h1 with h1 | rfl
     ·exact .inl ⟨e',h1,h2,h3,h4⟩
     ·exact .inr h4.symm
   ·dsimp only
    rw [z5]
    constructor
    ·rintro ⟨e',h1,h2⟩; exact ⟨e',(BI hx).2 (.inl h1),h2⟩
    ·rintro ⟨e',h1,h2,h3,h4⟩
     rcases (BI hx).1 h1 with h1 | rfl
     ·exact ⟨e',h1,h2,h3,h4⟩
     ·have:=hnul.2 h3
      rw [hc2] at this
      cases this
 ·obtain ⟨zs,zl⟩:=z
  obtain ⟨z1,z2,z3,z4,z5⟩:=hz
  dsimp only at z1 z2 z3 z4 z5 ⊢
  rw [List.take_of_length_le (Nat.le_refl _)] at z3 z5
  refine Bp (by simp; omega) (Bp (by simp; omega) (AG ⟨zs,zl,rfl,⟨⟨z1,z2⟩,fun m' hm' j=> ?_,by omega,fun m' hm' k=> ?_⟩⟩))
  ·have:m'=m:=by dsimp only at hm'; omega
   subst this
   rw [z3,u3]
   unfold Dir
   constructor
   ·rintro (h | ⟨e,h1,rfl,h3⟩)
    ·exact .inr h
    ·obtain ⟨q,_,hq⟩:=(Hh H.fin hm he (s:=e.1) (t:=e.2)).1 h1
     exact .inl ⟨h3,q,hq⟩
   ·rintro (⟨h1,q,hq⟩ | h)
    ·exact .inr ⟨(j,(q:Int)),(Hh H.fin hm he).2 ⟨q,rfl,hq⟩,rfl,h1⟩
    ·exact .inl h
  ·have:m'=m:=by dsimp only at hm'; omega
   subst this
   rw [z5]
   constructor
   ·rintro ⟨e,h1,h2,h3,h4⟩
    obtain ⟨q,_,hq⟩:=(Hh H.fin hm he (s:=e.1) (t:=e.2)).1 h1
    exact ⟨e.1,q,hq,h2,h3,h4⟩
   ·rintro ⟨c,q,hq,h2,h3,h4⟩
    exact ⟨(c,(q:Int)),(Hh H.fin hm he).2 ⟨q,rfl,hq⟩,h2,h3,h4⟩
theorem Ut {α:Type} {l:List α} {i:Nat} {x y:α} (h:(l++ [x])[i]? =some y):(i<l.length∧l[i]? =some y)∨(i=l.length∧y=x):=by
 rcases Nat.lt_or_ge i l.length with g | g
 ·rw [List.getElem?_append_left g] at h; exact .inl ⟨g,h⟩
 ·rw [List.getElem?_append_right g] at h
  have:i - l.length=0:=by
   have:=(List.getElem?_eq_some_iff.1 h).1
   simp at this
   omega
  rw [this] at h
  simp at h
  exact .inr ⟨by omega,h.symm⟩
theorem NV {α:Type} (l:List α) (x:α):(l++ [x])[l.length]? =some x:=by simp
theorem T0 (H:DI p B E fa) {num:List (Stp×Int)} :
 Ok (LK p (DH p B E tt) fa steps num) fun r=>r.1.length=(trs p E B.length).length∧r.2.length=(trs p E B.length).length∧ ∀(i:Nat) x,(trs p E B.length)[i]? =some x→ ∃d l,r.1[i]? =some d∧r.2[i]? =some l∧RdI p B E num x d l:=by
 have hl:=H.lens
 unfold LK
 refine Q7 H.vp H.fin (by have:=H.few; omega) (fun pre (r:RdS)=>r.1.length=pre.length∧r.2.length=pre.length∧ ∀(i:Nat) x,pre[i]? =some x→ ∃d l,r.1[i]? =some d∧r.2[i]? =some l∧RdI p B E num x d l) ⟨rfl,rfl,fun i x h=>by simp at h⟩ fun pre x st hpre hI=> ?_
 obtain ⟨h1,h2,h3⟩:=hI
 have hlen:=hpre.length_le
 rw [List.length_append,List.length_singleton] at hlen
 refine (Tz H (hpre.mem (by simp)) (by omega) (by omega)).mono ?_
 rintro _ ⟨d,l,rfl,hR⟩
 refine ⟨by simp [h1],by simp [h2],fun i y hy=> ?_⟩
 rcases Ut hy with ⟨g,hy⟩ | ⟨rfl,rfl⟩
 ·obtain ⟨d',l',a1,a2,a3⟩:=h3 i y hy
  exact ⟨d',l',Dh a1,Dh a2,a3⟩
 ·exact ⟨d,l,by rw [← h1]; exact NV _ _,by rw [← h2]; exact NV _ _,hR⟩
theorem Kt {ll:List (List Int)} {n x y:Int} :y ∈ CW ll x n ↔ x< (ll.length:Int)∧y ∈ ll[x.toNat]?.getD [] ∧0≤y∧y<n:=by
 unfold CW Io
 split
 ·constructor
  ·intro h; cases h
  ·intro h; omega
 ·rw [List.mem_filter]
  constructor
  ·rintro ⟨h1,h2⟩
   rw [Bool.not_eq_true',Bool.or_eq_false_iff,decide_eq_false_iff_not,decide_eq_false_iff_not] at h2
   exact ⟨by omega,h1,by omega,by omega⟩
  ·rintro ⟨h1,h2,h3,h4⟩
   refine ⟨h2,?_⟩
   rw [Bool.not_eq_true',Bool.or_eq_false_iff,decide_eq_false_iff_not,decide_eq_false_iff_not]
   omega
theorem Mi (H:DI p B E fa) {num:List (Stp×Int)} (hN:Num ((trs p E B.length).map (·.1)) num) {n m:Nat} {s:Int} (hs:nT p≤s) (ht:TrB p B E n s m): ∃i:Nat,(trs p E B.length)[i]? =some (((n:Int),s),(m:Int))∧BH ((n:Int),s) num=some (i:Int):=by
 obtain ⟨i,hi⟩:=List.getElem?_of_mem ((JM H.vp H.fin).2 ⟨n,s,m,rfl,hs,ht⟩)
 exact ⟨i,hi,hN.at_ i _ (by rw [List.getElem?_map,hi]; rfl)⟩
theorem Mj {a:List AT} {i:Nat} {d:AT} (h:a[i]? =some d) (j:Int):mem (gv a (i:Int)) j=mem d j:=by rw [Q0 h]
theorem V7 (H:DI p B E fa) {num:List (Stp×Int)} (hN:Num ((trs p E B.length).map (·.1)) num) {ds:List AT} {es:List (List Int)} (h1:ds.length=(trs p E B.length).length) (h2:es.length=(trs p E B.length).length)
 (h3: ∀(i:Nat) x,(trs p E B.length)[i]? =some x→ ∃d l,ds[i]? =some d∧es[i]? =some l∧RdI p B E num x d l):
 Ok (Gs es ds) fun r=>r.length=(trs p E B.length).length∧ ∀(i:Nat) (n:Int) (s:Int) (m:Nat),(trs p E B.length)[i]? =some ((n,s),(m:Int))→ ∃d,r[i]? =some d∧(OkS d∧d.1=nT p)∧ ∀j,mem d j=true ↔ Rdd (nT p) p.2.2.1 (KB B) (TrB p B E) m j:=by
 have hT:=H.sy.t1
 have hl:=H.lens
 have hnT:nT p=(p.1.length:Int):=rfl
 have A:=H.aut
 obtain ⟨r,e1,e2,e3⟩:=PB (ll:=es) (B:=ds) (wide:=nT p) (by omega) (by omega) (by omega) (fun l hl=>by
  obtain ⟨i,hi⟩:=List.getElem?_of_mem hl
  have hlt:=BQ hi
  obtain ⟨d,l',_,g2,g3⟩:=h3 i _ (List.getElem?_eq_getElem (by omega))
  rw [hi] at g2
  cases g2
  have:=g3.few
  omega) (fun k s hk=>by
  have hlt:=BQ hk
  obtain ⟨d,l',g1,_,g3⟩:=h3 k _ (List.getElem?_eq_getElem (by omega))
  rw [hk] at g1
  cases g1
  exact g3.ok)
 refine ⟨r,e1,e2.trans h1,fun i n s m hi=> ?_⟩
 have hlt:=BQ hi
 have hr:=List.getElem?_eq_getElem (l:=r) (i:=i) (by omega)
 obtain ⟨k1,k2,k3⟩:=e3 i _ hr
 refine ⟨_,hr,⟨k1,k2⟩,fun j=> ?_⟩
 rw [k3]
 constructor
 ·rintro ⟨z,hz,hj⟩
  have key: ∀(v z:Int),Dg.Reach es (ds.length:Int) v z→mem (gv ds z) j=true→ ∀(i:Nat) (n s:Int) (m:Nat),v=(i:Int)→(trs p E B.length)[i]? =some ((n,s),(m:Int))→Rdd (nT p) p.2.2.1 (KB B) (TrB p B E) m j:=by
   intro v z hv
   induction hv with
   | refl v=>
    intro hj i n s m hv hi
    obtain ⟨d,l,g1,_,g3⟩:=h3 i _ hi
    subst hv
    rw [Mj g1] at hj
    rcases (g3.mem m rfl j).1 hj with ⟨a1,q,a2⟩ | ⟨rfl,a2⟩
    ·exact .term a2 a1
    ·exact .fin a2
   | @step x y z hy _ ih=>
    intro hj i n s m hv hi
    subst hv
    obtain ⟨d,l,g1,g2,g3⟩:=h3 i _ hi
    obtain ⟨f1,f2,f3,f4⟩:=Kt.1 hy
    rw [Int.toNat_natCast,g2] at f2
    obtain ⟨c,q,a1,a2,a3,a4⟩:=(g3.next m rfl y).1 f2
    obtain ⟨i',b1,b2⟩:=Mi H hN a2 a1
    rw [b2] at a4
    exact .next a1 a2 a3 (ih hj i' _ _ q a4.symm b1)
  exact key _ _ hz hj i n s m rfl hi
 ·intro h
  have key: ∀ {m:Nat} {j:Int},Rdd (nT p) p.2.2.1 (KB B) (TrB p B E) m j→ ∀(i:Nat) (n s:Int),(trs p E B.length)[i]? =some ((n,s),(m:Int))→Jv es (ds.length:Int) ds (i:Int) j:=by
   intro m j h
   induction h with
   | term a1 a2=>
    intro i n s hi
    obtain ⟨d,l,g1,_,g3⟩:=h3 i _ hi
    exact ⟨_, .refl _,by rw [Mj g1]; exact (g3.mem _ rfl _).2 (.inl ⟨a2,_,a1⟩)⟩
   | fin a1=>
    intro i n s hi
    obtain ⟨d,l,g1,_,g3⟩:=h3 i _ hi
    exact ⟨_, .refl _,by rw [Mj g1]; exact (g3.mem _ rfl _).2 (.inr ⟨rfl,a1⟩)⟩
   | @next m q c t a1 a2 a3 _ ih=>
    intro i n s hi
    obtain ⟨d,l,g1,g2,g3⟩:=h3 i _ hi
    obtain ⟨i',b1,b2⟩:=Mi H hN a2 a1
    refine Jv.back (.step (Kt.2 ⟨by have:=BQ hi; omega,?_,by omega,by have:=BQ b1; omega⟩) (.refl _)) (ih i' _ _ b1)
    rw [Int.toNat_natCast,g2]
    exact (g3.next m rfl _).2 ⟨c,q,a1,a2,a3,by rw [b2]; rfl⟩
  exact key h i n s hi
end
section
variable {p:dtP} {B:List dtK} {E:List (List Edge)} {fa:dtF} {tt:Int} {steps:List Stp} {o1 o2:Option Nat}
theorem Uu (H:DI p B E fa) {s:Int} (h:s<nT p): ¬Nul p.2.2.1 s:=fun g=>by have:=g.var H.gr; omega
theorem Rz {s o:AT} (H:OkS s) (K:OkS o):Ok (N2 s o) fun r=>OkS r.2:=by
 unfold N2
 exact Bc ⟨H,K⟩ (AG (Kb H K).1)
theorem Mk {s:AT} (H:OkS s):Ok (NK s) fun _=>True:=by
 unfold NK
 rw [Iq H]
 exact AG trivial
theorem V8 (H:DI p B E fa) {seq:List Int} (hs: ∀s ∈ seq,0≤s∧s<nT p+((p.2.1.length:Nat):Int)) (hq:seq.length≤1000):Ok (Ch fa p seq) fun r=>r.2=true ↔ ∀s ∈ seq,Nul p.2.2.1 s:=by
 have hT:=H.sy.t1
 have hV:=H.vars
 have hnT:nT p=(p.1.length:Int):=rfl
 have hF:=H.fa
 have cl:=Kn H.sy
 unfold Ch
 obtain ⟨s0,e0,k1,k2,_⟩:=Dg.new_ok (nT p)
 refine AR e0 ?_
 refine F8 (fun k (z:AT)=>OkS z∧ ∀s ∈ seq.take k,Nul p.2.2.1 s) (fun b=>b.2=false∧ ¬ ∀s ∈ seq,Nul p.2.2.1 s) (by omega) ⟨k1,by simp⟩ (fun k z hk hz=> ?_) (fun z hz=> ?_) fun b hb=>AG ⟨fun h=>(by rw [hb.1] at h; cases h),fun h=>absurd h hb.2⟩
 ·obtain ⟨z1,z2⟩:=hz
  have hsk:=List.getElem?_eq_getElem hk
  have hmem:=List.getElem_mem hk
  obtain ⟨b0,b1⟩:=hs _ hmem
  refine AO (Q:=fun (e:AW AT (List Int×Bool))=>(∃s',e= .next s'∧OkS s'∧ ∀s ∈ seq.take (k+1),Nul p.2.2.1 s)∨ ∃b,e= .done b∧b.2=false∧ ¬ ∀s ∈ seq,Nul p.2.2.1 s) ?_ fun e he=> ?_
  ·refine AZ hsk (AR (Hd p seq[k]) (Ae (fun hc=> ?_) fun hc=> ?_))
   ·rw [Bool.and_eq_true,decide_eq_true_eq,decide_eq_true_eq] at hc
    obtain ⟨v,a1,a2,_⟩:=Dg.add_ok z1 seq[k]
    refine AR a1 (AO (Mk a2) fun l _=>AG (.inr ⟨_,rfl,rfl,fun h=>Uu H (by omega) (h _ hmem)⟩))
   ·rw [Bool.and_eq_false_iff,decide_eq_false_iff_not,decide_eq_false_iff_not] at hc
    have ee:IntKind.wrap .i64 (seq[k] - (((List.length p.1):Nat):Int))=(((seq[k] - nT p).toNat:Nat):Int):=by rw [w64 (by omega) (by omega)]; omega
    rw [ee]
    have hn:=hF.len
    have hfl:=hF.flen
    refine AO (Q:=fun c=>c=false) (Al (decide_eq_false (by omega)) (AG (decide_eq_false (by omega)))) fun c hc2=> ?_
    subst hc2
    refine Al rfl ?_
    have hf:=List.getElem?_eq_getElem (l:=fa.2.1) (i:=(seq[k] - nT p).toNat) (by omega)
    have hfew:=hF.few _ (List.mem_of_getElem? hf)
    obtain ⟨o,e1,o1,_⟩:=Dg.of_ok (nT p) fa.2.1[(seq[k] - nT p).toNat] (by omega)
    have hb:=List.getElem?_eq_getElem (l:=fa.1) (i:=(seq[k] - nT p).toNat) (by omega)
    have hnul:=hF.nul seq[k] (by omega)
    rw [hb] at hnul
    refine AZ hf (AR e1 (AO (Rz z1 o1) fun u hu=>AZ hb (Ae (fun hc2=>AO (Mk hu) fun l _=>AG (.inr ⟨_,rfl,rfl,fun h=> ?_⟩)) fun hc2=>AG (.inl ⟨_,rfl,hu,fun s hs'=> ?_⟩))))
    ·have:=hnul.2 (h _ hmem)
     rw [Bool.not_eq_true'] at hc2
     rw [hc2] at this
     cases this
    ·rcases (BI hsk).1 hs' with h | rfl
     ·exact z2 s h
     ·refine hnul.1 ?_
      rw [Bool.not_eq_false'] at hc2
      rw [hc2]
  ·rcases he with ⟨s',rfl,h1,h2⟩ | ⟨b,rfl,h1,h2⟩
   ·exact CJ ⟨h1,h2⟩
   ·exact Bs ⟨h1,h2⟩
 ·obtain ⟨z1,z2⟩:=hz
  rw [List.take_of_length_le (Nat.le_refl _)] at z2
  exact AO (Mk z1) fun l _=>AG ⟨fun _=>z2,fun _=>rfl⟩
def Hit (p:dtP) (B:List dtK) (E:List (List Edge)) (num:List (Stp×Int)) (n k i:Nat) (kk:Nat):Prop:=
 ∃(q m':Nat) (r:BA) (c:Int),((trs p E B.length).map (·.1))[n]? =some ((q:Int),r.1)∧p.2.2.1[k]? =some r∧r.2.1[i]? =some c∧(∀s ∈ r.2.1.drop (i+1),Nul p.2.2.1 s)∧nT p≤c∧Pth (TrB p B E) q (r.2.1.take i) m'∧BH ((m':Int),c) num=some (kk:Int)
def Bef (n k i n' k' i':Nat):Prop:=n'<n∨(n'=n∧(k'<k∨(k'=k∧i'<i)))
structure Ml (p:dtP) (B:List dtK) (E:List (List Edge)) (num:List (Stp×Int)) (n k i:Nat) (X:List (List Int)):Prop where
 len:X.length=(trs p E B.length).length
 few: ∀l ∈ X,l.length≤(n * 100+k) * 100+i
 mem: ∀(kk:Nat) l,X[kk]? =some l→ ∀z,z ∈ l ↔ ∃n' k' i',z=((n':Nat):Int)∧Bef n k i n' k' i'∧Hit p B E num n' k' i' kk
theorem Ml.same {num:List (Stp×Int)} {n k i n2 k2 i2:Nat} {X:List (List Int)} (h:Ml p B E num n k i X) (hc:(n * 100+k) * 100+i≤(n2 * 100+k2) * 100+i2) (hb: ∀n' k' i' kk,Hit p B E num n' k' i' kk→(Bef n k i n' k' i' ↔ Bef n2 k2 i2 n' k' i')):Ml p B E num n2 k2 i2 X:=
 ⟨h.len,fun l hl=>Nat.le_trans (h.few l hl) hc,fun kk l hl z=>by
  rw [h.mem kk l hl z]
  constructor
  ·rintro ⟨n',k',i',h1,h2,h3⟩; exact ⟨n',k',i',h1,(hb _ _ _ _ h3).1 h2,h3⟩
  ·rintro ⟨n',k',i',h1,h2,h3⟩; exact ⟨n',k',i',h1,(hb _ _ _ _ h3).2 h2,h3⟩⟩
theorem JN (H:DI p B E fa) {n:Nat} (hn:n< (trs p E B.length).length): ∃(q m:Nat) (s:Int),(trs p E B.length)[n]? =some (((q:Int),s),(m:Int))∧((trs p E B.length).map (·.1))[n]? =some ((q:Int),s)∧nT p≤s∧TrB p B E q s m:=by
 obtain ⟨q,s,m,h1,h2,h3⟩:=(JM H.vp H.fin).1 (List.getElem_mem hn)
 exact ⟨q,m,s,by rw [List.getElem?_eq_getElem hn,h1],by rw [List.getElem?_map,List.getElem?_eq_getElem hn,h1]; rfl,h2,h3⟩
theorem Wa (H:DI p B E fa) {n m:Nat} {s:Int} (h:TrB p B E n s m):BO (DH p B E tt) (n:Int) s=some (m:Int):=by
 obtain ⟨b,e,hb,he,hg⟩:=h
 obtain ⟨x,h1,h2⟩:=TW (t:=tt) H.vp H.fin hb he s
 rw [h1,IB.unique H.fin h2 hg]
theorem HH {n k i n' k' i':Nat} :Bef n k (i+1) n' k' i' ↔ Bef n k i n' k' i'∨(n'=n∧k'=k∧i'=i):=by
 unfold Bef
 omega
set_option maxHeartbeats 1000000 in
theorem Uv (H:DI p B E fa) {num:List (Stp×Int)} (hN:Num ((trs p E B.length).map (·.1)) num) {n k:Nat} {q:Nat} {r:BA} {m:Nat} (hs:((trs p E B.length).map (·.1))[n]? =some ((q:Int),r.1)) (hr:p.2.2.1[k]? =some r) (ht:TrB p B E q r.1 m)
 {i:Nat} {c:Int} (hc:r.2.1[i]? =some c) {m':Nat} (hp:Pth (TrB p B E) q (r.2.1.take i) m') {X:List (List Int)} (hX:Ml p B E num n k i X) (hn:n≤4800):
 Ok (Tj p (DH p B E tt) fa num (n:Int) r.2.1 (i:Int) ((m':Int),X)) fun z=> ∃m2:Nat,z.1=(m2:Int)∧Pth (TrB p B E) q (r.2.1.take (i+1)) m2∧Ml p B E num n k (i+1) z.2:=by
 have A:=H.aut
 have hi:=BQ hc
 have hmem:=List.mem_of_getElem? hr
 have hk:=BQ hr
 have hkf:=H.vp.few
 have hsh:=H.vp.short r hmem
 obtain ⟨hk0,hit⟩:=A.starts H.gr hr ht
 have hq:SB B q:=(A.st ht).1
 have hm':=A.part H.gr hq hr hit (l:=r.2.1.take i) (l':=r.2.1.drop i) (List.take_append_drop _ _).symm hp
 rw [List.length_take,Nat.min_eq_left (by omega)] at hm'
 obtain ⟨m2,g1,g2⟩:=A.step H.gr (A.at0 hq hp) hm' hr hc
 unfold Tj
 have e1:((i:Int) +1).toNat=i+1:=by omega
 rw [e1]
 refine AZ hc (Bc ⟨by omega,by omega⟩ (AO (V8 H (seq:=r.2.1.drop (i+1)) (fun s hs=>H.sy.right r hmem s (List.mem_of_mem_drop hs)) (by simp; omega)) fun sq hsq=> ?_))
 refine AO (Q:=fun b=>b=true ↔ (∀s ∈ r.2.1.drop (i+1),Nul p.2.2.1 s)∧nT p≤c) (Ae (fun h=>AR (Hd p c) (AG ?_)) fun h=>AG ?_) fun b hb=> ?_
 ·have h0:=(H.sy.right r hmem c (List.mem_of_getElem? hc)).1
  rw [decide_eq_true h0,Bool.true_and,Bool.not_eq_true',decide_eq_false_iff_not]
  exact ⟨fun g=>⟨hsq.1 h,Int.not_lt.1 g⟩,fun g=>Int.not_lt.2 g.2⟩
 ·constructor
  ·intro g; cases g
  ·intro g; rw [hsq.2 g.1] at h; cases h
 have next:Pth (TrB p B E) q (r.2.1.take (i+1)) m2:=by
  rw [List.take_add_one,hc]
  exact Pth.app.2 ⟨m',hp,m2,g1,rfl⟩
 refine AO (Q:=fun X'=>Ml p B E num n k (i+1) X') (Ae (fun h=> ?_) fun h=>AG ?_) fun X' hX'=> ?_
 ·obtain ⟨ha,hc0⟩:=hb.1 h
  obtain ⟨kk,b1,b2⟩:=Mi H hN hc0 g1
  rw [b2]
  have hkk:kk<X.length:=by rw [hX.len]; exact BQ b1
  have hrow:=List.getElem?_eq_getElem hkk
  have hrf:=hX.few _ (List.getElem_mem hkk)
  refine AZ (i:=kk) hrow (Bp (by simp; omega) ?_)
  show Ok (Dm X ((kk:Nat):Int) (X[kk] ++ [(n:Int)])) _
  rw [Ga (by omega) (by omega),Int.toNat_natCast]
  refine AG ⟨by simp [hX.len],fun l hl=> ?_,fun k3 l hl z=> ?_⟩
  ·rcases List.mem_or_eq_of_mem_set hl with h | rfl
   ·have:=hX.few l h; omega
   ·rw [List.length_append,List.length_singleton]; omega
  ·have hit1:Hit p B E num n k i kk:=⟨q,m',r,c,hs,hr,hc,ha,hc0,hp,b2⟩
   rw [List.getElem?_set] at hl
   split at hl
   ·rename_i e
    subst e
    try rw [if_pos hkk] at hl
    cases hl
    rw [List.mem_append,hX.mem kk _ hrow,List.mem_singleton]
    constructor
    ·rintro (⟨n',k',i',h1,h2,h3⟩ | rfl)
     ·exact ⟨n',k',i',h1,HH.2 (.inl h2),h3⟩
     ·exact ⟨n,k,i,rfl,HH.2 (.inr ⟨rfl,rfl,rfl⟩),hit1⟩
    ·rintro ⟨n',k',i',h1,h2,h3⟩
     rcases HH.1 h2 with h2 | ⟨rfl,rfl,rfl⟩
     ·exact .inl ⟨n',k',i',h1,h2,h3⟩
     ·exact .inr h1
   ·rename_i e
    rw [hX.mem k3 l hl]
    constructor
    ·rintro ⟨n',k',i',h1,h2,h3⟩; exact ⟨n',k',i',h1,HH.2 (.inl h2),h3⟩
    ·rintro ⟨n',k',i',h1,h2,h3⟩
     rcases HH.1 h2 with h2 | ⟨rfl,rfl,rfl⟩
     ·exact ⟨n',k',i',h1,h2,h3⟩
     ·exfalso
      obtain ⟨q2,m3,r2,c2,j1,j2,j3,_,_,j6,j7⟩:=h3
      rw [hr] at j2
      cases j2
      rw [hc] at j3
      cases j3
      rw [hs] at j1
      have hqq:q=q2:=by have:=(Prod.mk.inj (Option.some.inj j1)).1; omega
      subst hqq
      have:=Pth.fn A hp j6
      subst this
      rw [b2] at j7
      have:=Option.some.inj j7
      omega
 ·refine hX.same (by omega) fun n' k' i' kk hh=> ?_
  rw [HH]
  constructor
  ·exact fun g=> .inl g
  ·rintro (g | ⟨rfl,rfl,rfl⟩)
   ·exact g
   ·exfalso
    obtain ⟨q2,m3,r2,c2,j1,j2,j3,j4,j5,_,_⟩:=hh
    rw [hr] at j2
    cases j2
    rw [hc] at j3
    cases j3
    have:=hb.2 ⟨j4,j5⟩
    rw [h] at this
    cases this
 ·refine AR (Wa H g1) (AG ⟨m2,rfl,next,hX'⟩)
set_option maxHeartbeats 1000000 in
theorem PN (H:DI p B E fa) {num:List (Stp×Int)} (hN:Num ((trs p E B.length).map (·.1)) num):
 Ok (Fl p (DH p B E tt) fa ((trs p E B.length).map (·.1)) num) fun X=>Ml p B E num (trs p E B.length).length 0 0 X:=by
 have hl:=H.lens
 have A:=H.aut
 have hkf:=H.vp.few
 unfold Fl
 rw [List.length_map]
 refine AR (x:=List.replicate (trs p E B.length).length []) (by unfold E0; rw [if_pos ⟨by omega,by omega⟩,Int.toNat_natCast]) ?_
 refine B6 (n:=(trs p E B.length).length) (fun n X=>Ml p B E num n 0 0 X) (by omega) ⟨by simp,fun l hl=>by rw [(List.mem_replicate.1 hl).2]; simp,fun kk l hl z=> ?_⟩ fun n X hn hX=> ?_
 ·rw [List.getElem?_replicate] at hl
  split at hl
  ·cases hl
   constructor
   ·intro h; cases h
   ·rintro ⟨n',k',i',_,h2,_⟩; unfold Bef at h2; omega
  ·cases hl
 obtain ⟨q,m,s,h1,h2,h3,h4⟩:=JN H hn
 refine AZ h2 ?_
 obtain ⟨X',e1,e2⟩:=B6 (f:=fun k X=>(idx p.2.2.1 k).bind fun r=>cond (r.1 !=s) (some X) ((forS (σ:=Int×List (List Int)) 0 ((r.2.1.length:Nat):Int) ((q:Int),X) (Tj p (DH p B E tt) fa num (n:Int) r.2.1)).bind fun z=>some z.2)) (n:=p.2.2.1.length) (fun k X=>Ml p B E num n k 0 X) (by omega) (s:=X) hX fun k X hk hX=>by
  have hr:=List.getElem?_eq_getElem hk
  obtain ⟨r,hre⟩: ∃r,p.2.2.1[k] =r:=⟨_,rfl⟩
  rw [hre] at hr
  have hsh:=H.vp.short r (List.mem_of_getElem? hr)
  refine AZ hr (Ae (fun hc=>AG ?_) fun hc=> ?_)
  ·refine hX.same (by omega) fun n' k' i' kk hh=> ?_
   constructor
   ·unfold Bef; omega
   ·intro g
    by_cases e:n'=n∧k'=k
    ·obtain ⟨rfl,rfl⟩:=e
     exfalso
     obtain ⟨q2,m3,r2,c2,j1,j2,_⟩:=hh
     rw [hr] at j2
     cases j2
     rw [h2] at j1
     have:=(Prod.mk.inj (Option.some.inj j1)).2
     rw [this] at hc
     simp at hc
    ·unfold Bef at g ⊢; omega
  ·have hsr:r.1=s:=by simpa using hc
   subst hsr
   refine CT (fun i (z:Int×List (List Int))=> ∃m':Nat,z.1=(m':Int)∧Pth (TrB p B E) q (r.2.1.take i) m'∧Ml p B E num n k i z.2) (by omega) ⟨q,rfl,by rw [List.take_zero]; rfl,hX⟩ (fun i z hi hz=> ?_) fun z hz=> ?_
   ·obtain ⟨z1,z2⟩:=z
    obtain ⟨m',rfl,g1,g2⟩:=hz
    exact Uv H hN h2 hr h4 (List.getElem?_eq_getElem hi) g1 g2 (by omega)
   ·obtain ⟨m',_,_,g2⟩:=hz
    refine AG (g2.same (by omega) fun n' k' i' kk hh=> ?_)
    constructor
    ·unfold Bef; omega
    ·intro g
     by_cases e:n'=n∧k'=k
     ·obtain ⟨rfl,rfl⟩:=e
      obtain ⟨q2,m3,r2,c2,_,j2,j3,_⟩:=hh
      rw [hr] at j2
      cases j2
      have:=BQ j3
      unfold Bef; omega
     ·unfold Bef at g ⊢; omega
 refine ⟨X',e1,e2.same (by omega) fun n' k' i' kk hh=> ?_⟩
 obtain ⟨q2,m3,r2,c2,_,j2,_⟩:=hh
 have:=BQ j2
 unfold Bef
 omega
theorem V9 (H:DI p B E fa) {num:List (Stp×Int)} (hN:Num ((trs p E B.length).map (·.1)) num) {inc:List (List Int)} (hI:Ml p B E num (trs p E B.length).length 0 0 inc) {f1:List AT} (h1:f1.length=(trs p E B.length).length)
 (h3: ∀(i:Nat) (n:Int) (s:Int) (m:Nat),(trs p E B.length)[i]? =some ((n,s),(m:Int))→ ∃d,f1[i]? =some d∧(OkS d∧d.1=nT p)∧ ∀j,mem d j=true ↔ Rdd (nT p) p.2.2.1 (KB B) (TrB p B E) m j):
 Ok (Gs inc f1) fun r=>r.length=(trs p E B.length).length∧ ∀(i:Nat) (n:Nat) (s:Int) (m:Nat),(trs p E B.length)[i]? =some (((n:Int),s),(m:Int))→ ∃d,r[i]? =some d∧(OkS d∧d.1=nT p)∧ ∀j,mem d j=true ↔ Fol (nT p) p.2.2.1 (KB B) (TrB p B E) n s j:=by
 have hT:=H.sy.t1
 have hl:=H.lens
 have hnT:nT p=(p.1.length:Int):=rfl
 have A:=H.aut
 obtain ⟨r,e1,e2,e3⟩:=PB (ll:=inc) (B:=f1) (wide:=nT p) (by omega) (by omega) (by omega) (fun l hl=>by have:=hI.few l hl; omega) (fun k s hk=>by
  obtain ⟨q,m,s',g1,_⟩:=JN H (n:=k) (by have:=BQ hk; omega)
  obtain ⟨d,g2,g3,_⟩:=h3 k _ _ _ g1
  rw [hk] at g2
  cases g2
  exact g3)
 refine ⟨r,e1,e2.trans h1,fun i n s m hi=> ?_⟩
 have hlt:=BQ hi
 have hr:=List.getElem?_eq_getElem (l:=r) (i:=i) (by omega)
 obtain ⟨k1,k2,k3⟩:=e3 i _ hr
 refine ⟨_,hr,⟨k1,k2⟩,fun j=> ?_⟩
 rw [k3]
 have tr: ∀ {i n m:Nat} {s:Int},(trs p E B.length)[i]? =some (((n:Int),s),(m:Int))→nT p≤s∧TrB p B E n s m:=fun {i n m s} h=>by
  obtain ⟨n',s',m',g1,g2,g3⟩:=(JM H.vp H.fin).1 (List.mem_of_getElem? h)
  have a1:=(Prod.mk.inj (Prod.mk.inj g1).1).1
  have a2:=(Prod.mk.inj (Prod.mk.inj g1).1).2
  have a3:=(Prod.mk.inj g1).2
  have:n=n':=by omega
  subst this
  have:m=m':=by omega
  subst this
  subst a2
  exact ⟨g2,g3⟩
 constructor
 ·rintro ⟨z,hz,hj⟩
  have key: ∀(v z:Int),Dg.Reach inc (f1.length:Int) v z→mem (gv f1 z) j=true→ ∀(i n:Nat) (s:Int) (m:Nat),v=(i:Int)→(trs p E B.length)[i]? =some (((n:Int),s),(m:Int))→Fol (nT p) p.2.2.1 (KB B) (TrB p B E) n s j:=by
   intro v z hv
   induction hv with
   | refl v=>
    intro hj i n s m hv hi
    subst hv
    obtain ⟨d,g1,_,g3⟩:=h3 i _ _ _ hi
    rw [Mj g1] at hj
    exact .read (tr hi).2 ((g3 j).1 hj)
   | @step x y z hy _ ih=>
    intro hj i n s m hv hi
    subst hv
    obtain ⟨w1,w2,w3,w4⟩:=Kt.1 hy
    have hil:i<inc.length:=by omega
    have hrow:=List.getElem?_eq_getElem hil
    rw [Int.toNat_natCast,hrow] at w2
    obtain ⟨n',k',i',rfl,_,q,m',r,c,j1,j2,j3,j4,j5,j6,j7⟩:=(hI.mem i _ hrow y).1 w2
    have hn':n'< (trs p E B.length).length:=by have:=BQ j1; rwa [List.length_map] at this
    obtain ⟨q2,m2,s2,a1,a2,a3,a4⟩:=JN H hn'
    rw [j1] at a2
    have b1:=(Prod.mk.inj (Option.some.inj a2)).1
    have b2:=(Prod.mk.inj (Option.some.inj a2)).2
    have:q=q2:=by omega
    subst this
    subst b2
    obtain ⟨hk0,hit⟩:=A.starts H.gr j2 a4
    have hq:SB B q:=(A.st a4).1
    have hpt:=A.part H.gr hq j2 hit (l:=r.2.1.take i') (l':=r.2.1.drop i') (List.take_append_drop _ _).symm j6
    rw [List.length_take,Nat.min_eq_left (by have:=BQ j3; omega)] at hpt
    obtain ⟨mm,c1,c2⟩:=A.step H.gr (A.at0 hq j6) hpt j2 j3
    obtain ⟨kk,d1,d2⟩:=Mi H hN j5 c1
    rw [j7] at d2
    have:kk=i:=by have:=Option.some.inj d2; omega
    subst this
    rw [hi] at d1
    have d1:=Option.some.inj d1
    have e1:=(Prod.mk.inj (Prod.mk.inj d1).1).1
    have e2:=(Prod.mk.inj (Prod.mk.inj d1).1).2
    have e1:n=m':=by omega
    subst e1
    subst e2
    exact .incl (tr hi).2 j2 (FI j3) j4 hit j6 (ih hj n' q r.1 m2 rfl a1)
  exact key _ _ hz hj i n s m rfl hi
 ·intro h
  have key: ∀ {n:Nat} {s j:Int},Fol (nT p) p.2.2.1 (KB B) (TrB p B E) n s j→ ∀(i m:Nat),(trs p E B.length)[i]? =some (((n:Int),s),(m:Int))→Jv inc (f1.length:Int) f1 (i:Int) j:=by
   intro n s j h
   induction h with
   | read a1 a2=>
    intro i m hi
    have:=A.fn a1 (tr hi).2
    subst this
    obtain ⟨d,g1,_,g3⟩:=h3 i _ _ _ hi
    exact ⟨_, .refl _,by rw [Mj g1]; exact (g3 _).2 a2⟩
   | @incl n m0 q k a t r b g a1 a2 a3 a4 a5 a6 a7 ih=>
    intro i m hi
    obtain ⟨m2,a8⟩:=a7.tr
    have hL:nT p≤r.1:=(H.sy.left r (List.mem_of_getElem? a2)).1
    obtain ⟨i',b1,b2⟩:=Mi H hN hL a8
    refine Jv.back (.step (Kt.2 ⟨by have:=BQ hi; have:=hI.len; omega,?_,by omega,by have:=BQ b1; omega⟩) (.refl _)) (ih i' m2 b1)
    have hil:i<inc.length:=by have:=BQ hi; have:=hI.len; omega
    have hrow:=List.getElem?_eq_getElem hil
    rw [Int.toNat_natCast,hrow]
    refine (hI.mem i _ hrow _).2 ⟨i',k,b.length,rfl, .inl (BQ b1),q,n,r,a,by rw [List.getElem?_map,b1]; rfl,a2,by rw [a3]; simp,fun s hs=>a4 s ?_,(tr hi).1,by rw [a3]; simpa using a6,?_⟩
    ·rw [a3] at hs
     have e:(b++a::g).drop (b.length+1)=g:=by simp
     rwa [e] at hs
    ·exact hN.at_ i _ (by rw [List.getElem?_map,hi]; rfl)
  exact key h i m hi
end
section
variable {p:dtP} {B:List dtK} {E:List (List Edge)} {fa:dtF} {tt:Int} {steps:List Stp} {o1 o2:Option Nat}
theorem PO (H:Fin p B E) {l:List Int} {n m:Nat} (hn:n<B.length) (h:Pth (TrB p B E) n l m):Walk p.2.2.1 B E (n:Int) l (m:Int):=(O9 H hn).2 h
theorem Uw (H:DI p B E fa) {n m:Nat} {l:List Int} (hn:n<B.length) (hl:l.length≤1000000) (h:Pth (TrB p B E) n l m):Bl (DH p B E tt) (n:Int) l=some (m:Int):=by
 obtain ⟨x,h1,h2,_⟩:=Qy (t:=tt) H.vp H.fin hn hl
 rw [h1,Walk.unique H.fin h2 (PO H.fin hn h)]
def Mz (p:dtP) (B:List dtK) (E:List (List Edge)) (n k:Nat) (key:At) (q:Nat) (r:BA):Prop:=
 ((trs p E B.length).map (·.1))[n]? =some ((q:Int),r.1)∧p.2.2.1[k]? =some r∧ ∃w:Nat,Pth (TrB p B E) q r.2.1 w∧key=((w:Int),(k:Int))
structure GiI (p:dtP) (B:List dtK) (E:List (List Edge)) (n k:Nat) (L:LkL):Prop where
 some_: ∀key d,BH key L=some d→(OkS d∧d.1=nT p)∧(∃n' k' q r,Bef n k 0 n' k' 0∧Mz p B E n' k' key q r)∧ ∀j,mem d j=true ↔ ∃n' k' q r,Bef n k 0 n' k' 0∧Mz p B E n' k' key q r∧Fol (nT p) p.2.2.1 (KB B) (TrB p B E) q r.1 j
 none_: ∀key,BH key L=none→ ∀n' k' q r,Bef n k 0 n' k' 0→ ¬Mz p B E n' k' key q r
theorem Ea {n k n' k':Nat} :Bef n (k+1) 0 n' k' 0 ↔ Bef n k 0 n' k' 0∨(n'=n∧k'=k):=by
 unfold Bef
 omega
theorem GiI.same {n k n2 k2:Nat} {L:LkL} (h:GiI p B E n k L) (hb: ∀n' k' key q r,Mz p B E n' k' key q r→(Bef n k 0 n' k' 0 ↔ Bef n2 k2 0 n' k' 0)):GiI p B E n2 k2 L:=by
 refine ⟨fun key d hk=> ?_,fun key hk n' k' q r hb' hg=>h.none_ key hk n' k' q r ((hb _ _ _ _ _ hg).2 hb') hg⟩
 obtain ⟨h1,⟨n',k',q,r,h2,h3⟩,h4⟩:=h.some_ key d hk
 refine ⟨h1,⟨n',k',q,r,(hb _ _ _ _ _ h3).1 h2,h3⟩,fun j=> ?_⟩
 rw [h4]
 constructor
 ·rintro ⟨n',k',q,r,a,b,c⟩; exact ⟨n',k',q,r,(hb _ _ _ _ _ b).1 a,b,c⟩
 ·rintro ⟨n',k',q,r,a,b,c⟩; exact ⟨n',k',q,r,(hb _ _ _ _ _ b).2 a,b,c⟩
theorem T1 (H:DI p B E fa) {fo:List AT} (hf: ∀(i:Nat) (n:Nat) (s:Int) (m:Nat),(trs p E B.length)[i]? =some (((n:Int),s),(m:Int))→ ∃d,fo[i]? =some d∧(OkS d∧d.1=nT p)∧ ∀j,mem d j=true ↔ Fol (nT p) p.2.2.1 (KB B) (TrB p B E) n s j)
 {n k q m:Nat} {s:Int} (hn:(trs p E B.length)[n]? =some (((q:Int),s),(m:Int))) (ht:TrB p B E q s m) (hk:k<p.2.2.1.length) {L:LkL} (hL:GiI p B E n k L):
 Ok (PJ p (DH p B E tt) fo (n:Int) ((q:Int),s) (k:Int) L) (GiI p B E n (k+1)):=by
 have A:=H.aut
 have hT:=H.sy.t1
 have hnT:nT p=(p.1.length:Int):=rfl
 have cl:=Kn H.sy
 have hr:=List.getElem?_eq_getElem hk
 obtain ⟨r,hre⟩: ∃r,p.2.2.1[k] =r:=⟨_,rfl⟩
 rw [hre] at hr
 have hst:((trs p E B.length).map (·.1))[n]? =some ((q:Int),s):=by rw [List.getElem?_map,hn]; rfl
 unfold PJ
 refine AZ hr (Ae (fun hc=>AG ?_) fun hc=> ?_)
 ·refine hL.same fun n' k' key q' r' hg=> ?_
  rw [Ea]
  constructor
  ·exact fun g=> .inl g
  ·rintro (g | ⟨rfl,rfl⟩)
   ·exact g
   ·exfalso
    obtain ⟨j1,j2,_⟩:=hg
    rw [hr] at j2
    cases j2
    rw [hst] at j1
    have:=(Prod.mk.inj (Option.some.inj j1)).2
    dsimp only at hc
    rw [this] at hc
    simp at hc
 ·have hsr:r.1=s:=by simpa using hc
  subst hsr
  obtain ⟨hk0,hit⟩:=A.starts H.gr hr ht
  have hq:SB B q:=(A.st ht).1
  obtain ⟨w,hw,_⟩:=A.along H.gr hr hq hit (l:=r.2.1) rfl
  have hsh:=H.sy.short r (List.mem_of_getElem? hr)
  refine AR (Uw H hq (by omega) hw) ?_
  obtain ⟨o,ho,⟨o1,o2⟩,o3⟩:=hf n q r.1 m hn
  have hget:Mz p B E n k ((w:Int),(k:Int)) q r:=⟨hst,hr,w,hw,rfl⟩
  have uniq: ∀key q' r',Mz p B E n k key q' r'→key=((w:Int),(k:Int))∧q'=q∧r'=r:=fun key q' r' hg=>by
   obtain ⟨j1,j2,w',j3,j4⟩:=hg
   rw [hr] at j2
   cases j2
   rw [hst] at j1
   have hqq:q=q':=by have:=(Prod.mk.inj (Option.some.inj j1)).1; omega
   subst hqq
   have:=Pth.fn A hw j3
   subst this
   exact ⟨j4,rfl,rfl⟩
  refine AO (Q:=fun L'=> ∃d,BH ((w:Int),(k:Int)) L'=some d∧(OkS d∧d.1=nT p)∧(∀j,mem d j=true ↔ ∃n' k' q' r',Bef n k 0 n' k' 0∧Mz p B E n' k' ((w:Int),(k:Int)) q' r'∧Fol (nT p) p.2.2.1 (KB B) (TrB p B E) q' r'.1 j)∧ ∀key,key ≠ ((w:Int),(k:Int))→BH key L'=BH key L) ?_ fun L' hL'=> ?_
  ·cases hg:BH ((w:Int),(k:Int)) L with
   | none=>
    obtain ⟨s0,e0,k1,k2,k3⟩:=Dg.new_ok (nT p)
    refine Cg rfl (AR e0 (AG ⟨s0,by rw [CX,if_pos rfl],⟨k1,k2.trans cl⟩,fun j=> ?_,fun key hne=>by rw [CX,if_neg hne]⟩))
    rw [k3]
    constructor
    ·intro h; cases h
    ·rintro ⟨n',k',q',r',a,b,_⟩; exact absurd b (hL.none_ _ hg n' k' q' r' a)
   | some d=>
    obtain ⟨a1,a2,a3⟩:=hL.some_ _ d hg
    exact Al rfl (AG ⟨d,hg,a1,a3,fun _ _=>rfl⟩)
  ·obtain ⟨d,b1,⟨b2,b3⟩,b4,b5⟩:=hL'
   refine AZ ho (AR b1 (Bc ⟨b2,o1⟩ (AG ?_)))
   obtain ⟨u1,u2,u3⟩:=Kb b2 o1
   refine ⟨fun key dd hkey=> ?_,fun key hkey n' k' q' r' hb hg=> ?_⟩
   ·rw [CX] at hkey
    by_cases he:key=((w:Int),(k:Int))
    ·subst he
     rw [if_pos rfl] at hkey
     cases hkey
     refine ⟨⟨u1,u2.trans b3⟩,⟨n,k,q,r,Ea.2 (.inr ⟨rfl,rfl⟩),hget⟩,fun j=> ?_⟩
     rw [u3,Bool.or_eq_true,Bool.and_eq_true,b4,o3,b3]
     constructor
     ·rintro (⟨n',k',q',r',a,b,c⟩ | ⟨h,_⟩)
      ·exact ⟨n',k',q',r',Ea.2 (.inl a),b,c⟩
      ·exact ⟨n,k,q,r,Ea.2 (.inr ⟨rfl,rfl⟩),hget,h⟩
     ·rintro ⟨n',k',q',r',a,b,c⟩
      rcases Ea.1 a with a | ⟨rfl,rfl⟩
      ·exact .inl ⟨n',k',q',r',a,b,c⟩
      ·obtain ⟨_,e2,e3⟩:=uniq _ _ _ b
       subst e2 e3
       refine .inr ⟨c,decide_eq_true ?_⟩
       have:=K6 o1 ((o3 j).2 c)
       omega
    ·rw [if_neg he,b5 key he] at hkey
     obtain ⟨a1,⟨n',k',q',r',a2,a3⟩,a4⟩:=hL.some_ key dd hkey
     refine ⟨a1,⟨n',k',q',r',Ea.2 (.inl a2),a3⟩,fun j=> ?_⟩
     rw [a4]
     constructor
     ·rintro ⟨n',k',q',r',a,b,c⟩; exact ⟨n',k',q',r',Ea.2 (.inl a),b,c⟩
     ·rintro ⟨n',k',q',r',a,b,c⟩
      rcases Ea.1 a with a | ⟨rfl,rfl⟩
      ·exact ⟨n',k',q',r',a,b,c⟩
      ·exact absurd (uniq _ _ _ b).1 he
   ·rw [CX] at hkey
    by_cases he:key=((w:Int),(k:Int))
    ·rw [if_pos he] at hkey; cases hkey
    ·rw [if_neg he,b5 key he] at hkey
     rcases Ea.1 hb with hb | ⟨rfl,rfl⟩
     ·exact hL.none_ key hkey n' k' q' r' hb hg
     ·exact he (uniq _ _ _ hg).1
structure WA (p:dtP) (B:List dtK) (E:List (List Edge)) (L:LkL):Prop where
 some_: ∀key d,BH key L=some d→OkS d∧d.1=nT p∧ ∃s k:Nat,key=((s:Int),(k:Int))∧s<B.length∧k<p.2.2.1.length∧ ∀j,mem d j=true ↔ Lk (nT p) p.2.2.1 (KB B) (TrB p B E) s k j
 none_: ∀(s k:Nat) j,BH ((s:Int),(k:Int)) L=none→k<p.2.2.1.length→ ¬Lk (nT p) p.2.2.1 (KB B) (TrB p B E) s k j
theorem Ux (H:DI p B E fa) {fo:List AT} (hf: ∀(i:Nat) (n:Nat) (s:Int) (m:Nat),(trs p E B.length)[i]? =some (((n:Int),s),(m:Int))→ ∃d,fo[i]? =some d∧(OkS d∧d.1=nT p)∧ ∀j,mem d j=true ↔ Fol (nT p) p.2.2.1 (KB B) (TrB p B E) n s j):
 Ok (NS p (DH p B E tt) fa ((trs p E B.length).map (·.1)) fo) (WA p B E):=by
 have hl:=H.lens
 have A:=H.aut
 have hkf:=H.sy.few
 have hBf:=H.few
 have hT:=H.sy.t1
 have hnT:nT p=(p.1.length:Int):=rfl
 have cl:=Kn H.sy
 obtain ⟨z0,hz0⟩:=H.zero
 unfold NS
 rw [List.length_map]
 refine CT (fun n L=>GiI p B E n 0 L) (by omega) ⟨(fun key d h=>by cases h),fun key _ n' k' q r hb=>(by unfold Bef at hb; omega)⟩ (fun n L hn hL=> ?_) fun L hL=> ?_
 ·obtain ⟨q,m,s,h1,h2,h3,h4⟩:=JN H hn
  refine AZ h2 ?_
  obtain ⟨L',e1,e2⟩:=B6 (f:=fun k L=>PJ p (DH p B E tt) fo (n:Int) ((q:Int),s) k L) (n:=p.2.2.1.length) (fun k L=>GiI p B E n k L) (by omega) (s:=L) hL fun k L hk hL=>T1 H hf h1 h4 hk hL
  refine ⟨L',e1,e2.same fun n' k' key q r hg=> ?_⟩
  have:=BQ hg.2.1
  unfold Bef
  omega
 ·refine AR (LF H.fin) ?_
  have conv: ∀(w k:Nat) j,0<k→((∃n' k' q r,Bef (trs p E B.length).length 0 0 n' k' 0∧Mz p B E n' k' ((w:Int),(k:Int)) q r∧Fol (nT p) p.2.2.1 (KB B) (TrB p B E) q r.1 j) ↔ Lk (nT p) p.2.2.1 (KB B) (TrB p B E) w k j):=fun w k j hk=>by
   constructor
   ·rintro ⟨n',k',q,r,_,⟨j1,j2,w',j3,j4⟩,h⟩
    have e1:w=w':=by have:=(Prod.mk.inj j4).1; omega
    have e2:k=k':=by have:=(Prod.mk.inj j4).2; omega
    subst e1 e2
    obtain ⟨m,hm⟩:=h.tr
    exact .inr ⟨hk,q,m,r,j2,hm,j3,h⟩
   ·rintro (⟨e,_⟩ | ⟨_,q,m,r,j1,j2,j3,j4⟩)
    ·omega
    ·have hL:nT p≤r.1:=(H.sy.left r (List.mem_of_getElem? j1)).1
     obtain ⟨i,hi⟩:=List.getElem?_of_mem ((JM H.vp H.fin).2 ⟨q,r.1,m,rfl,hL,j2⟩)
     exact ⟨i,k,q,r, .inl (BQ hi),⟨by rw [List.getElem?_map,hi]; rfl,j1,w,j3,rfl⟩,j4⟩
  have pos: ∀ {n' k':Nat} {key:At} {q:Nat} {r:BA},Mz p B E n' k' key q r→0<k':=fun {n' k' key q r} hg=>by
   obtain ⟨j1,j2,_⟩:=hg
   have hn':n'< (trs p E B.length).length:=by have:=BQ j1; rwa [List.length_map] at this
   obtain ⟨q2,m2,s2,a1,a2,a3,a4⟩:=JN H hn'
   rw [j1] at a2
   have b1:=(Prod.mk.inj (Option.some.inj a2)).1
   have b2:=(Prod.mk.inj (Option.some.inj a2)).2
   have:q=q2:=by omega
   subst this
   subst b2
   exact (A.starts H.gr j2 a4).1
  refine B6 (n:=B.length) (fun i (L':LkL)=>(∀(w k:Nat),0<k→BH ((w:Int),(k:Int)) L'=BH ((w:Int),(k:Int)) L)∧(∀key d,BH key L'=some d→OkS d∧d.1=nT p∧ ∃s k:Nat,key=((s:Int),(k:Int))∧s<B.length∧k<p.2.2.1.length)∧
   (∀w:Nat,(∀d,BH ((w:Int),(0:Int)) L'=some d→(w<i∧It p.2.2.1 (KB B) w 0 1)∧ ∀j,mem d j=true ↔ j=0)∧(BH ((w:Int),(0:Int)) L'=none→w<i→ ¬It p.2.2.1 (KB B) w 0 1))) (by omega) (s:=L) ⟨fun _ _ _=>rfl,fun key d hk=> ?_,fun w=>⟨fun d hd=> ?_,fun _ h=>by omega⟩⟩ (fun i L' hi hL'=> ?_) |>.elim fun L' hL'=>⟨L',hL'.1,?_⟩
  ·obtain ⟨⟨a1,a2⟩,⟨n',k',q,r,_,hg⟩,_⟩:=hL.some_ key d hk
   obtain ⟨j1,j2,w,j3,j4⟩:=hg
   have hn':n'< (trs p E B.length).length:=by have:=BQ j1; rwa [List.length_map] at this
   obtain ⟨q2,m2,s2,b1,b2,b3,b4⟩:=JN H hn'
   rw [j1] at b2
   have c1:=(Prod.mk.inj (Option.some.inj b2)).1
   have:q=q2:=by omega
   subst this
   exact ⟨a1,a2,w,k',j4,A.at0 (A.st b4).1 j3,BQ j2⟩
  ·obtain ⟨_,⟨n',k',q,r,_,hg⟩,_⟩:=hL.some_ _ d hd
   have h0:=pos hg
   obtain ⟨_,_,w',_,j4⟩:=hg
   have:=(Prod.mk.inj j4).2
   omega
  ·obtain ⟨i1,i2,i3⟩:=hL'
   refine AO (OH (tt:=tt) (steps:=(trs p E B.length).map (·.1)) (o1:=none) (o2:=none) H hi (k:=0) hz0) fun b hb=> ?_
   have hb:b=true ↔ It p.2.2.1 (KB B) i 0 1:=hb
   refine Ae (fun hc=> ?_) fun hc=>AG ⟨i1,i2,fun w=>⟨fun d hd=>⟨⟨by have:=((i3 w).1 d hd).1.1; omega,((i3 w).1 d hd).1.2⟩,((i3 w).1 d hd).2⟩,fun hn hw hit=> ?_⟩⟩
   ·obtain ⟨o,e,a1,a2,a3⟩:=Dg.of_ok (nT p) [0] (by simp)
    refine AR e (AG ⟨fun w k hk=> ?_,fun key d hd=> ?_,fun w=>⟨fun d hd=> ?_,fun hn hw=> ?_⟩⟩)
    ·rw [CX,if_neg (fun e=>by have:=(Prod.mk.inj e).2; omega)]
     exact i1 w k hk
    ·rw [CX] at hd
     split at hd
     ·rename_i he
      cases hd
      exact ⟨a1,a2.trans cl,i,0,he,hi,BQ hz0⟩
     ·exact i2 key d hd
    ·rw [CX] at hd
     split at hd
     ·rename_i he
      cases hd
      have:w=i:=by have:=(Prod.mk.inj he).1; omega
      subst this
      refine ⟨⟨by omega,hb.1 hc⟩,fun j=> ?_⟩
      rw [a3,cl,Bool.and_eq_true,decide_eq_true_eq]
      constructor
      ·rintro ⟨_,h⟩; simpa using h
      ·rintro rfl; exact ⟨by omega,by simp⟩
     ·obtain ⟨⟨g1,g2⟩,g3⟩:=(i3 w).1 d hd
      exact ⟨⟨by omega,g2⟩,g3⟩
    ·rw [CX] at hn
     split at hn
     ·cases hn
     ·rename_i he
      have:w ≠ i:=fun e=>he (by rw [e])
      exact (i3 w).2 hn (by omega)
   ·by_cases e:w=i
    ·subst e
     have:=hb.2 hit
     rw [hc] at this
     cases this
    ·exact (i3 w).2 hn (by omega) hit
  ·obtain ⟨_,i1,i2,i3⟩:=hL'
   refine ⟨fun key d hd=> ?_,fun s k j hn hk=> ?_⟩
   ·obtain ⟨a1,a2,s,k,rfl,a3,a4⟩:=i2 key d hd
    refine ⟨a1,a2,s,k,rfl,a3,a4,fun j=> ?_⟩
    rcases Nat.eq_zero_or_pos k with rfl | hk
    ·obtain ⟨⟨_,g2⟩,g3⟩:=(i3 s).1 d hd
     rw [g3]
     constructor
     ·rintro rfl; exact .inl ⟨rfl,rfl,g2⟩
     ·exact Ub
    ·rw [i1 s k hk] at hd
     rw [((hL.some_ _ d hd).2.2 j),conv s k j hk]
   ·rcases Nat.eq_zero_or_pos k with rfl | hk0
    ·rintro (⟨_,_,h⟩ | ⟨h,_⟩)
     ·have hs:s<B.length:=by
       rcases Nat.lt_or_ge s B.length with g | g
       ·exact g
       ·exfalso
        have:KB B s= [] :=by unfold KB; rw [List.getElem?_eq_none g]
        unfold It at h
        rw [this] at h
        have key: ∀x,Cl p.2.2.1 [] x→False:=fun x hx=>by
         induction hx with
         | base h=>cases h
         | step _ _ _ ih=>exact ih
        exact key _ h
      exact (i3 s).2 hn hs h
     ·omega
    ·rw [i1 s k hk0] at hn
     intro h
     obtain ⟨n',k',q,r,b1,b2,_⟩:=(conv s k j hk0).2 h
     exact hL.none_ _ hn n' k' q r b1 b2
theorem Uy {p:dtP} {B:List dtK} {E:List (List Edge)} {tt:Int} (H: ∀fa,Te p fa→DI p B E fa) (S:Sy p):Ok (Q5 p (DH p B E tt)) fun r=> ∃d,r=some d∧d.p=p∧d.A=DH p B E tt∧Te p d.fa∧WA p B E d.L:=by
 unfold Q5
 refine AO (Tf S) fun fa hfa=> ?_
 have H:=H fa hfa
 have hl:=H.lens
 have hBf:=H.few
 refine AO (Tx (tt:=tt) H.vp H.fin (by omega) (by omega)) fun st hst=> ?_
 obtain ⟨st1,num⟩:=st
 obtain ⟨rfl,hN⟩:=hst
 dsimp only at hN ⊢
 refine AO (T0 (tt:=tt) H) fun rd hrd=> ?_
 obtain ⟨r1,r2,r3⟩:=hrd
 refine AO (PN (tt:=tt) H hN) fun inc hinc=> ?_
 refine AO (V7 H hN r1 r2 r3) fun f1 hf1=> ?_
 refine AO (V9 H hN hinc hf1.1 hf1.2) fun f2 hf2=> ?_
 refine AO (Ux (tt:=tt) H hf2.2) fun L hL=>AG ⟨_,rfl,rfl,rfl,hfa,hL⟩
end
end Go.Proofs.YteolcjbobmpdiaaGreatDoor
