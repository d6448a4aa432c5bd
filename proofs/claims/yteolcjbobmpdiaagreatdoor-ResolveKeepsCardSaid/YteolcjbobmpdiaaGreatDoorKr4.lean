/-
  DenL, FirstS, FirstT, FirstU, FirstV, SimL, LookS, LookE, LookR, LookI, LookJ, LookG, LookH, LookO, Add, BuildL, Build, DenR, DenW, put together.
  Conditions: none; each part tells its own.
-/
import Derived.Test.YteolcjbobmpdiaaGreatDoorKr1
import Derived.Test.YteolcjbobmpdiaaGreatDoorProg
import Derived.KernelRfl
import Derived.Test.YteolcjbobmpdiaaGreatDoorKr3
import Derived.Test.YteolcjbobmpdiaaGreatDoorKr2
namespace Go.Proofs.YteolcjbobmpdiaaGreatDoor
open Go Go.Eng
set_option linter.unusedVariables false
set_option maxRecDepth 100000
noncomputable def Lu (p_0:Pl6):T:=
 T.new (.cells #[(sv p_0.1),(sv p_0.2.1),(sv p_0.2.2.1),(sv p_0.2.2.2.1),(sv p_0.2.2.2.2.1),(sv p_0.2.2.2.2.2.1)] 32 (0,0)) fun r1=>
 T.new (.cells #[(.slice none 0 0),(.slice none 0 0),(.slice none 0 0),(.int .i64 (0:Int))] 133 (0,0)) fun r2=>
 L6 r1 fun t3 t4 t5 t6 t7 t8=>
 T.load .slice ⟨r1,1,none⟩ fun (t9:Slc)=>
 L6 r1 fun t10 t11 t12 t13 t14 t15=>
 L6 r1 fun t16 t17 t18 t19 t20 t21=>
 T.both
 (T.sem (Instr.makeSlice 60 (.int .i64 (IntKind.wrap .i64 (((t9.2.1:Nat):Int) +(1:Int)))) (.int .i64 (IntKind.wrap .i64 (((t9.2.1:Nat):Int) +(1:Int))))) (.one aS) fun (t22:Slc)=>
 S6 r1 t16 t17 t18 t19 t20 t21<|
 S6 r1 t10 t11 t12 t13 t14 t15<|
 S6 r1 t3 t4 t5 t6 t7 t8<|
 T.call 132 [(aH t10 t11 t12 t13 t14 t15)] (.one aS) fun (t23:Slc)=>
 S6 r1 t16 t17 t18 t19 t20 t21<|
 S6 r1 t3 t4 t5 t6 t7 t8<|
 T.call 132 [(aH t16 t17 t18 t19 t20 t21)] (.one aS) fun (t24:Slc)=>
 S6 r1 t3 t4 t5 t6 t7 t8<|
 T.new (.cells #[(sv t3),(sv t4),(sv t5),(sv t6),(sv t7),(sv t8),(sv t22),(sv t23),(sv t24)] 221 (0,0)) fun r25=>
 T.block 0 [aI]
 (T.loop [aI] [(.int .i64 (1:Int))] fun (z27:Int×Unit)=>
 T.call 133 [(.pointer (some ⟨r25,0,none⟩))] (.one aB) fun (t28:Bool)=>
 cond t28
 (T.out [(.int .i64 (wN z27.1))])
 (T.brk 0 [(.int .i64 z27.1)])) fun (z26:Int×Unit)=>
 T.load .slice ⟨r25,8,none⟩ fun (t29:Slc)=>
 T.load .slice ⟨r1,1,none⟩ fun (t30:Slc)=>
 deref t29.1 fun a31=>
 chk (0≤((t30.2.1:Nat):Int)∧((t30.2.1:Nat):Int) < (t29.2.1:Nat)) <|
 T.load .pointer (a31.add (Int.toNat ((t30.2.1:Nat):Int) * 1)) fun (t32:Option Addr)=>
 T.call 134 [(.pointer t32),(.int .i64 (0:Int))] (.one aB) fun (t33:Bool)=>
 T.block 2 []
 (T.loop [] [] fun (z35:Unit)=>
 T.call 135 [(.pointer (some ⟨r25,0,none⟩))] (.one aB) fun (t36:Bool)=>
 cond t36
 (T.out [])
 (T.brk 2 [])) fun (z34:Unit)=>
 T.load .slice ⟨r25,6,none⟩ fun (t37:Slc)=>
 T.load .slice ⟨r25,7,none⟩ fun (t38:Slc)=>
 T.load .slice ⟨r25,8,none⟩ fun (t39:Slc)=>
 T.call 136 [(sv t38)] (.one aS) fun (t40:Slc)=>
 T.still ⟨r25,8,none⟩ (sv t39) <|
 T.still ⟨r25,6,none⟩ (sv t37) <|
 T.call 136 [(sv t39)] (.one aS) fun (t41:Slc)=>
 T.still ⟨r25,6,none⟩ (sv t37) <|
 T.store ⟨r2,0,none⟩ (sv t37) <|
 T.store ⟨r2,1,none⟩ (sv t40) <|
 T.store ⟨r2,2,none⟩ (sv t41) <|
 T.store ⟨r2,3,none⟩ (.int .i64 z26.1) <|
 T.load .slice ⟨r2,0,none⟩ fun (res42:Slc)=>
 T.load .slice ⟨r2,1,none⟩ fun (res43:Slc)=>
 T.load .slice ⟨r2,2,none⟩ fun (res44:Slc)=>
 T.load (.int .i64) ⟨r2,3,none⟩ fun (res45:Int)=>
 T.ret (.agg #[(sv res42),(sv res43),(sv res44),(.int .i64 res45)]))
 (T.call 132 [(aH t10 t11 t12 t13 t14 t15)] (.one aS) fun (t46:Slc)=>
 S6 r1 t16 t17 t18 t19 t20 t21<|
 T.still ⟨r1,1,none⟩ (sv t9) <|
 S6 r1 t3 t4 t5 t6 t7 t8<|
 T.both
 (T.sem (Instr.makeSlice 60 (.int .i64 (IntKind.wrap .i64 (((t9.2.1:Nat):Int) +(1:Int)))) (.int .i64 (IntKind.wrap .i64 (((t9.2.1:Nat):Int) +(1:Int))))) (.one aS) fun (t47:Slc)=>
 S6 r1 t16 t17 t18 t19 t20 t21<|
 S6 r1 t3 t4 t5 t6 t7 t8<|
 T.call 132 [(aH t16 t17 t18 t19 t20 t21)] (.one aS) fun (t48:Slc)=>
 S6 r1 t3 t4 t5 t6 t7 t8<|
 T.new (.cells #[(sv t3),(sv t4),(sv t5),(sv t6),(sv t7),(sv t8),(sv t47),(sv t46),(sv t48)] 221 (0,0)) fun r49=>
 T.block 0 [aI]
 (T.loop [aI] [(.int .i64 (1:Int))] fun (z51:Int×Unit)=>
 T.call 133 [(.pointer (some ⟨r49,0,none⟩))] (.one aB) fun (t52:Bool)=>
 cond t52
 (T.out [(.int .i64 (wN z51.1))])
 (T.brk 0 [(.int .i64 z51.1)])) fun (z50:Int×Unit)=>
 T.load .slice ⟨r49,8,none⟩ fun (t53:Slc)=>
 T.load .slice ⟨r1,1,none⟩ fun (t54:Slc)=>
 deref t53.1 fun a55=>
 chk (0≤((t54.2.1:Nat):Int)∧((t54.2.1:Nat):Int) < (t53.2.1:Nat)) <|
 T.load .pointer (a55.add (Int.toNat ((t54.2.1:Nat):Int) * 1)) fun (t56:Option Addr)=>
 T.call 134 [(.pointer t56),(.int .i64 (0:Int))] (.one aB) fun (t57:Bool)=>
 T.block 2 []
 (T.loop [] [] fun (z59:Unit)=>
 T.call 135 [(.pointer (some ⟨r49,0,none⟩))] (.one aB) fun (t60:Bool)=>
 cond t60
 (T.out [])
 (T.brk 2 [])) fun (z58:Unit)=>
 T.load .slice ⟨r49,6,none⟩ fun (t61:Slc)=>
 T.load .slice ⟨r49,7,none⟩ fun (t62:Slc)=>
 T.load .slice ⟨r49,8,none⟩ fun (t63:Slc)=>
 T.call 136 [(sv t62)] (.one aS) fun (t64:Slc)=>
 T.still ⟨r49,8,none⟩ (sv t63) <|
 T.still ⟨r49,6,none⟩ (sv t61) <|
 T.call 136 [(sv t63)] (.one aS) fun (t65:Slc)=>
 T.still ⟨r49,6,none⟩ (sv t61) <|
 T.store ⟨r2,0,none⟩ (sv t61) <|
 T.store ⟨r2,1,none⟩ (sv t64) <|
 T.store ⟨r2,2,none⟩ (sv t65) <|
 T.store ⟨r2,3,none⟩ (.int .i64 z50.1) <|
 T.load .slice ⟨r2,0,none⟩ fun (res66:Slc)=>
 T.load .slice ⟨r2,1,none⟩ fun (res67:Slc)=>
 T.load .slice ⟨r2,2,none⟩ fun (res68:Slc)=>
 T.load (.int .i64) ⟨r2,3,none⟩ fun (res69:Int)=>
 T.ret (.agg #[(sv res66),(sv res67),(sv res68),(.int .i64 res69)]))
 (T.call 132 [(aH t16 t17 t18 t19 t20 t21)] (.one aS) fun (t70:Slc)=>
 T.still ⟨r1,1,none⟩ (sv t9) <|
 S6 r1 t3 t4 t5 t6 t7 t8<|
 T.sem (Instr.makeSlice 60 (.int .i64 (IntKind.wrap .i64 (((t9.2.1:Nat):Int) +(1:Int)))) (.int .i64 (IntKind.wrap .i64 (((t9.2.1:Nat):Int) +(1:Int))))) (.one aS) fun (t71:Slc)=>
 S6 r1 t3 t4 t5 t6 t7 t8<|
 T.new (.cells #[(sv t3),(sv t4),(sv t5),(sv t6),(sv t7),(sv t8),(sv t71),(sv t46),(sv t70)] 221 (0,0)) fun r72=>
 T.block 0 [aI]
 (T.loop [aI] [(.int .i64 (1:Int))] fun (z74:Int×Unit)=>
 T.call 133 [(.pointer (some ⟨r72,0,none⟩))] (.one aB) fun (t75:Bool)=>
 cond t75
 (T.out [(.int .i64 (wN z74.1))])
 (T.brk 0 [(.int .i64 z74.1)])) fun (z73:Int×Unit)=>
 T.load .slice ⟨r72,8,none⟩ fun (t76:Slc)=>
 T.load .slice ⟨r1,1,none⟩ fun (t77:Slc)=>
 deref t76.1 fun a78=>
 chk (0≤((t77.2.1:Nat):Int)∧((t77.2.1:Nat):Int) < (t76.2.1:Nat)) <|
 T.load .pointer (a78.add (Int.toNat ((t77.2.1:Nat):Int) * 1)) fun (t79:Option Addr)=>
 T.call 134 [(.pointer t79),(.int .i64 (0:Int))] (.one aB) fun (t80:Bool)=>
 T.block 2 []
 (T.loop [] [] fun (z82:Unit)=>
 T.call 135 [(.pointer (some ⟨r72,0,none⟩))] (.one aB) fun (t83:Bool)=>
 cond t83
 (T.out [])
 (T.brk 2 [])) fun (z81:Unit)=>
 T.load .slice ⟨r72,6,none⟩ fun (t84:Slc)=>
 T.load .slice ⟨r72,7,none⟩ fun (t85:Slc)=>
 T.load .slice ⟨r72,8,none⟩ fun (t86:Slc)=>
 T.call 136 [(sv t85)] (.one aS) fun (t87:Slc)=>
 T.still ⟨r72,8,none⟩ (sv t86) <|
 T.still ⟨r72,6,none⟩ (sv t84) <|
 T.call 136 [(sv t86)] (.one aS) fun (t88:Slc)=>
 T.still ⟨r72,6,none⟩ (sv t84) <|
 T.store ⟨r2,0,none⟩ (sv t84) <|
 T.store ⟨r2,1,none⟩ (sv t87) <|
 T.store ⟨r2,2,none⟩ (sv t88) <|
 T.store ⟨r2,3,none⟩ (.int .i64 z73.1) <|
 T.load .slice ⟨r2,0,none⟩ fun (res89:Slc)=>
 T.load .slice ⟨r2,1,none⟩ fun (res90:Slc)=>
 T.load .slice ⟨r2,2,none⟩ fun (res91:Slc)=>
 T.load (.int .i64) ⟨r2,3,none⟩ fun (res92:Int)=>
 T.ret (.agg #[(sv res89),(sv res90),(sv res91),(.int .i64 res92)])))
theorem NB (p_0:Pl6):AT Tryz.prog Tryz.f106 [(aG p_0)] =Lu p_0:=by kernel_rfl
noncomputable def JY (p_0:Pl6):T:=
 T.new (.cells #[(sv p_0.1),(sv p_0.2.1),(sv p_0.2.2.1),(sv p_0.2.2.2.1),(sv p_0.2.2.2.2.1),(sv p_0.2.2.2.2.2.1)] 32 (0,0)) fun r1=>
 T.load .slice ⟨r1,1,none⟩ fun (t2:Slc)=>
 T.block 0 [aI,aS]
 (T.loop [aI,aS] [(.int .i64 (0:Int)),(.slice none 0 0)] fun (z4:Int×Slc×Unit)=>
 cond (decide (z4.1< (IntKind.wrap .i64 (((t2.2.1:Nat):Int) +(1:Int)))))
 (T.load .slice ⟨r1,0,none⟩ fun (t5:Slc)=>
 T.call 138 [(.int .i64 ((t5.2.1:Nat):Int))] (.one aP) fun (t6:Option Addr)=>
 T.new (.cells #[(.pointer t6)] 139 (0,0)) fun r7=>
 T.sem (Builtin.append_ #[195,195] 195 #[(sv z4.2.1),(.slice (some ⟨r7,0,none⟩) 1 1)]) (.one aS) fun (t8:Slc)=>
 T.out [(.int .i64 (wN z4.1)),(sv t8)])
 (T.brk 0 [(.int .i64 z4.1),(sv z4.2.1)])) fun (z3:Int×Slc×Unit)=>
 T.ret (sv z3.2.1)
theorem LD (p_0:Pl6):AT Tryz.prog Tryz.f132 [(aG p_0)] =JY p_0:=by kernel_rfl
noncomputable def F9 (s_0:Option Addr):T:=
 deref s_0 fun a1=>
 T.load .slice (a1.add 2) fun (t2:Slc)=>
 T.block 0 [aI,aB]
 (T.loop [aI,aB] [(.int .i64 (0:Int)),(.bool false)] fun (z4:Int×Bool×Unit)=>
 cond (decide (z4.1< ((t2.2.1:Nat):Int)))
 (deref t2.1 fun a5=>
 chk (0≤z4.1∧z4.1< (t2.2.1:Nat)) <|
 T.load (.int .i64) (a5.add (Int.toNat z4.1 * 3)) fun (t6:Int)=>
 T.load .slice ((a5.add (Int.toNat z4.1 * 3)).add 1) fun (t7:Slc)=>
 T.load (.int .i64) ((a5.add (Int.toNat z4.1 * 3)).add 2) fun (t8:Int)=>
 T.new (.cells #[(.int .i64 (0:Int)),(.slice none 0 0),(.int .i64 (0:Int))] 65 (0,0)) fun r9=>
 T.store ⟨r9,0,none⟩ (.int .i64 t6) <|
 T.store ⟨r9,1,none⟩ (sv t7) <|
 T.store ⟨r9,2,none⟩ (.int .i64 t8) <|
 T.load (.int .i64) ⟨r9,0,none⟩ fun (t10:Int)=>
 T.call 160 [(.pointer s_0),(.int .i64 t10)] (.one aI) fun (t11:Int)=>
 T.load .slice ⟨r9,1,none⟩ fun (t12:Slc)=>
 deref s_0 fun a13=>
 T.load .slice (a13.add 7) fun (t14:Slc)=>
 deref t14.1 fun a15=>
 chk (0≤t11∧t11< (t14.2.1:Nat)) <|
 T.load .pointer (a15.add (Int.toNat t11 * 1)) fun (t16:Option Addr)=>
 T.call 161 [(.pointer s_0),(sv t12),(.func (.func 139) #[(.pointer t16)] #[])] (.tuple [aB,aB]) fun (t17:Bool×Bool×Unit)=>
 T.join [aB]
 (cond z4.2.1
 (T.out [(.bool true)])
 (cond t17.1
 (T.out [(.bool true)])
 (cond t17.2.1
 (deref s_0 fun a19=>
 T.load .slice (a19.add 6) fun (t20:Slc)=>
 deref t20.1 fun a21=>
 chk (0≤t11∧t11< (t20.2.1:Nat)) <|
 T.load .bool (a21.add (Int.toNat t11 * 1)) fun (t22:Bool)=>
 T.out [(.bool (!t22))])
 (T.out [(.bool false)])))) fun (z18:Bool×Unit)=>
 T.join []
 (deref s_0 fun a24=>
 T.load .slice (a24.add 6) fun (t25:Slc)=>
 deref s_0 fun a26=>
 T.load .slice (a26.add 6) fun (t27:Slc)=>
 deref t27.1 fun a28=>
 chk (0≤t11∧t11< (t27.2.1:Nat)) <|
 T.load .bool (a28.add (Int.toNat t11 * 1)) fun (t29:Bool)=>
 cond t29
 (deref t25.1 fun a30=>
 chk (0≤t11∧t11< (t25.2.1:Nat)) <|
 T.store (a30.add (Int.toNat t11 * 1)) (.bool true) <|
 T.out [])
 (deref t25.1 fun a31=>
 chk (0≤t11∧t11< (t25.2.1:Nat)) <|
 T.store (a31.add (Int.toNat t11 * 1)) (.bool t17.2.1) <|
 T.out [])) fun (z23:Unit)=>
 T.out [(.int .i64 (wN z4.1)),(.bool z18.1)])
 (T.brk 0 [(.int .i64 z4.1),(.bool z4.2.1)])) fun (z3:Int×Bool×Unit)=>
 T.ret (.bool z3.2.1)
theorem Io (s_0:Option Addr):AT Tryz.prog Tryz.f133 [(.pointer s_0)] =F9 s_0:=by kernel_rfl
noncomputable def FT (s_0:Option Addr):T:=
 deref s_0 fun a1=>
 T.load .slice (a1.add 2) fun (t2:Slc)=>
 T.block 0 [aI,aB]
 (T.loop [aI,aB] [(.int .i64 (0:Int)),(.bool false)] fun (z4:Int×Bool×Unit)=>
 cond (decide (z4.1< ((t2.2.1:Nat):Int)))
 (deref t2.1 fun a5=>
 chk (0≤z4.1∧z4.1< (t2.2.1:Nat)) <|
 T.load (.int .i64) (a5.add (Int.toNat z4.1 * 3)) fun (t6:Int)=>
 T.load .slice ((a5.add (Int.toNat z4.1 * 3)).add 1) fun (t7:Slc)=>
 T.load (.int .i64) ((a5.add (Int.toNat z4.1 * 3)).add 2) fun (t8:Int)=>
 T.new (.cells #[(.int .i64 (0:Int)),(.slice none 0 0),(.int .i64 (0:Int))] 65 (0,0)) fun r9=>
 T.store ⟨r9,0,none⟩ (.int .i64 t6) <|
 T.store ⟨r9,1,none⟩ (sv t7) <|
 T.store ⟨r9,2,none⟩ (.int .i64 t8) <|
 T.load .slice ⟨r9,1,none⟩ fun (t10:Slc)=>
 T.block 2 [aI,aB]
 (T.loop [aI,aB] [(.int .i64 (0:Int)),(.bool z4.2.1)] fun (z12:Int×Bool×Unit)=>
 cond (decide (z12.1< ((t10.2.1:Nat):Int)))
 (T.block 3 [aB]
 (deref t10.1 fun a14=>
 chk (0≤z12.1∧z12.1< (t10.2.1:Nat)) <|
 T.load (.int .i64) (a14.add (Int.toNat z12.1 * 1)) fun (t15:Int)=>
 deref s_0 fun a16=>
 M6 a16 fun t17 t18 t19 t20 t21 t22=>
 T.call 86 [(aH t17 t18 t19 t20 t21 t22),(.int .i64 t15)] (.one aB) fun (t23:Bool)=>
 cond t23
 (T.brk 3 [(.bool z12.2.1)])
 (deref s_0 fun a24=>
 T.load .slice (a24.add 8) fun (t25:Slc)=>
 T.call 160 [(.pointer s_0),(.int .i64 t15)] (.one aI) fun (t26:Int)=>
 T.still (a24.add 8) (sv t25) <|
 deref t25.1 fun a27=>
 chk (0≤t26∧t26< (t25.2.1:Nat)) <|
 T.load .pointer (a27.add (Int.toNat t26 * 1)) fun (t28:Option Addr)=>
 T.load .slice ⟨r9,1,none⟩ fun (t29:Slc)=>
 chk (0≤(wN z12.1)∧(wN z12.1) ≤((t29.2.1:Nat):Int)∧((t29.2.1:Nat):Int) ≤(t29.2.2:Nat)) <|
 T.call 161 [(.pointer s_0),(.slice (if t29.2.2=Int.toNat (wN z12.1) then t29.1 else Option.map (fun x=>Addr.add x (Int.toNat (wN z12.1) * 1)) t29.1) (Int.toNat ((t29.2.1:Nat):Int) - Int.toNat (wN z12.1)) (t29.2.2 - Int.toNat (wN z12.1))),(.func (.func 139) #[(.pointer t28)] #[])] (.tuple [aB,aB]) fun (t30:Bool×Bool×Unit)=>
 T.join [aB]
 (cond t30.2.1
 (T.join [aB]
 (deref s_0 fun a33=>
 T.load .slice (a33.add 8) fun (t34:Slc)=>
 T.load (.int .i64) ⟨r9,0,none⟩ fun (t35:Int)=>
 T.call 160 [(.pointer s_0),(.int .i64 t35)] (.one aI) fun (t36:Int)=>
 T.still (a33.add 8) (sv t34) <|
 deref t34.1 fun a37=>
 chk (0≤t36∧t36< (t34.2.1:Nat)) <|
 T.load .pointer (a37.add (Int.toNat t36 * 1)) fun (t38:Option Addr)=>
 T.call 139 [(.pointer t28),(.pointer t38)] (.one aB) fun (t39:Bool)=>
 cond t39
 (T.out [(.bool true)])
 (T.out [(.bool t30.1)])) fun (z32:Bool×Unit)=>
 T.out [(.bool z32.1)])
 (T.out [(.bool t30.1)])) fun (z31:Bool×Unit)=>
 T.join [aB]
 (cond z12.2.1
 (T.out [(.bool true)])
 (T.out [(.bool z31.1)])) fun (z40:Bool×Unit)=>
 T.out [(.bool z40.1)])) fun (z13:Bool×Unit)=>
 T.out [(.int .i64 (wN z12.1)),(.bool z13.1)])
 (T.brk 2 [(.int .i64 z12.1),(.bool z12.2.1)])) fun (z11:Int×Bool×Unit)=>
 T.out [(.int .i64 (wN z4.1)),(.bool z11.2.1)])
 (T.brk 0 [(.int .i64 z4.1),(.bool z4.2.1)])) fun (z3:Int×Bool×Unit)=>
 T.ret (.bool z3.2.1)
theorem H5 (s_0:Option Addr):AT Tryz.prog Tryz.f135 [(.pointer s_0)] =FT s_0:=by kernel_rfl
noncomputable def JZ (l_0_p:Option Addr) (l_0_n l_0_c:Nat):T:=
 T.block 0 [aI,aS]
 (T.loop [aI,aS] [(.int .i64 (0:Int)),(.slice none 0 0)] fun (z2:Int×Slc×Unit)=>
 cond (decide (z2.1< ((l_0_n:Nat):Int)))
 (deref l_0_p fun a3=>
 chk (0≤z2.1∧z2.1< (l_0_n:Nat)) <|
 T.load .pointer (a3.add (Int.toNat z2.1 * 1)) fun (t4:Option Addr)=>
 T.call 70 [(.pointer t4)] (.one aS) fun (t5:Slc)=>
 T.new (.cells #[(sv t5)] 30 (0,0)) fun r6=>
 T.sem (Builtin.append_ #[97,97] 97 #[(sv z2.2.1),(.slice (some ⟨r6,0,none⟩) 1 1)]) (.one aS) fun (t7:Slc)=>
 T.out [(.int .i64 (wN z2.1)),(sv t7)])
 (T.brk 0 [(.int .i64 z2.1),(sv z2.2.1)])) fun (z1:Int×Slc×Unit)=>
 T.ret (sv z1.2.1)
theorem LE (l_0_p:Option Addr) (l_0_n l_0_c:Nat):AT Tryz.prog Tryz.f136 [(.slice l_0_p l_0_n l_0_c)] =JZ l_0_p l_0_n l_0_c:=by kernel_rfl
noncomputable def GX (f_0:Slc×Slc×Slc×Int×Unit) (p_1:Pl6) (seq_2_p:Option Addr) (seq_2_n seq_2_c:Nat):T:=
 T.new (.cells #[(sv f_0.1),(sv f_0.2.1),(sv f_0.2.2.1),(.int .i64 f_0.2.2.2.1)] 133 (0,0)) fun r1=>
 T.new (.cells #[(sv p_1.1),(sv p_1.2.1),(sv p_1.2.2.1),(sv p_1.2.2.2.1),(sv p_1.2.2.2.2.1),(sv p_1.2.2.2.2.2.1)] 32 (0,0)) fun r2=>
 T.load .slice ⟨r2,0,none⟩ fun (t3:Slc)=>
 T.call 138 [(.int .i64 ((t3.2.1:Nat):Int))] (.one aP) fun (t4:Option Addr)=>
 T.block 0 [aI,aB,aS]
 (T.loop [aI,aB,aS] [(.int .i64 (0:Int)),(.bool false),(.slice none 0 0)] fun (z6:Int×Bool×Slc×Unit)=>
 cond (decide (z6.1< ((seq_2_n:Nat):Int)))
 (T.block 1 [aB,aS]
 (deref seq_2_p fun a8=>
 chk (0≤z6.1∧z6.1< (seq_2_n:Nat)) <|
 T.load (.int .i64) (a8.add (Int.toNat z6.1 * 1)) fun (t9:Int)=>
 L6 r2 fun t10 t11 t12 t13 t14 t15=>
 T.call 86 [(aH t10 t11 t12 t13 t14 t15),(.int .i64 t9)] (.one aB) fun (t16:Bool)=>
 cond t16
 (T.call 134 [(.pointer t4),(.int .i64 t9)] (.one aB) fun (t17:Bool)=>
 T.call 70 [(.pointer t4)] (.one aS) fun (t18:Slc)=>
 T.ret (.tuple #[(sv t18),(.bool false)]))
 (T.load .slice ⟨r2,0,none⟩ fun (t19:Slc)=>
 T.join [aB]
 (cond (decide ((IntKind.wrap .i64 (t9 - ((t19.2.1:Nat):Int))) < (0:Int)))
 (T.out [(.bool true)])
 (T.load .slice ⟨r1,1,none⟩ fun (t21:Slc)=>
 T.out [(.bool (decide ((IntKind.wrap .i64 (t9 - ((t19.2.1:Nat):Int))) ≥ ((t21.2.1:Nat):Int))))])) fun (z20:Bool×Unit)=>
 cond z20.1
 (T.brk 1 [(.bool z6.2.1),(sv z6.2.2.1)])
 (T.load .slice ⟨r2,0,none⟩ fun (t22:Slc)=>
 T.load .slice ⟨r1,1,none⟩ fun (t23:Slc)=>
 deref t23.1 fun a24=>
 chk (0≤(IntKind.wrap .i64 (t9 - ((t19.2.1:Nat):Int)))∧(IntKind.wrap .i64 (t9 - ((t19.2.1:Nat):Int))) < (t23.2.1:Nat)) <|
 T.load .slice (a24.add (Int.toNat (IntKind.wrap .i64 (t9 - ((t19.2.1:Nat):Int))) * 1)) fun (t25:Slc)=>
 T.call 140 [(.int .i64 ((t22.2.1:Nat):Int)),(sv t25)] (.one aP) fun (t26:Option Addr)=>
 T.call 139 [(.pointer t4),(.pointer t26)] (.one aB) fun (t27:Bool)=>
 T.load .slice ⟨r1,0,none⟩ fun (t28:Slc)=>
 deref t28.1 fun a29=>
 chk (0≤(IntKind.wrap .i64 (t9 - ((t19.2.1:Nat):Int)))∧(IntKind.wrap .i64 (t9 - ((t19.2.1:Nat):Int))) < (t28.2.1:Nat)) <|
 T.load .bool (a29.add (Int.toNat (IntKind.wrap .i64 (t9 - ((t19.2.1:Nat):Int))) * 1)) fun (t30:Bool)=>
 cond (!t30)
 (T.call 70 [(.pointer t4)] (.one aS) fun (t31:Slc)=>
 T.ret (.tuple #[(sv t31),(.bool false)]))
 (T.out [(.bool z6.2.1),(sv z6.2.2.1)])))) fun (z7:Bool×Slc×Unit)=>
 T.out [(.int .i64 (wN z6.1)),(.bool z7.1),(sv z7.2.1)])
 (T.brk 0 [(.int .i64 z6.1),(.bool z6.2.1),(sv z6.2.2.1)])) fun (z5:Int×Bool×Slc×Unit)=>
 T.call 70 [(.pointer t4)] (.one aS) fun (t32:Slc)=>
 T.ret (.tuple #[(sv t32),(.bool true)])
theorem JI (f_0:Slc×Slc×Slc×Int×Unit) (p_1:Pl6) (seq_2_p:Option Addr) (seq_2_n seq_2_c:Nat):AT Tryz.prog Tryz.f146 [(.agg #[(sv f_0.1),(sv f_0.2.1),(sv f_0.2.2.1),(.int .i64 f_0.2.2.2.1)]),(aG p_1),(.slice seq_2_p seq_2_n seq_2_c)] =GX f_0 p_1 seq_2_p seq_2_n seq_2_c:=by kernel_rfl
noncomputable def Hr (s_0:Option Addr) (sym_1:Int):T:=
 deref s_0 fun a1=>
 T.load .slice a1 fun (t2:Slc)=>
 T.ret (.int .i64 (IntKind.wrap .i64 (sym_1 - ((t2.2.1:Nat):Int))))
theorem KU (s_0:Option Addr) (sym_1:Int):AT Tryz.prog Tryz.f160 [(.pointer s_0),(.int .i64 sym_1)] =Hr s_0 sym_1:=by kernel_rfl
noncomputable def Ef (s_0:Option Addr) (seq_1_p:Option Addr) (seq_1_n seq_1_c:Nat) (k_2:Option Addr):T:=
 T.block 0 [aI,aB,aB]
 (T.loop [aI,aB,aB] [(.int .i64 (0:Int)),(.bool false),(.bool false)] fun (z2:Int×Bool×Bool×Unit)=>
 cond (decide (z2.1< ((seq_1_n:Nat):Int)))
 (deref seq_1_p fun a3=>
 chk (0≤z2.1∧z2.1< (seq_1_n:Nat)) <|
 T.load (.int .i64) (a3.add (Int.toNat z2.1 * 1)) fun (t4:Int)=>
 deref s_0 fun a5=>
 M6 a5 fun t6 t7 t8 t9 t10 t11=>
 T.call 86 [(aH t6 t7 t8 t9 t10 t11),(.int .i64 t4)] (.one aB) fun (t12:Bool)=>
 cond t12
 (T.join [aB,aB]
 (deref s_0 fun a14=>
 T.load .slice a14 fun (t15:Slc)=>
 T.new (.cells #[(.int .i64 t4)] 3 (0,0)) fun r16=>
 T.call 140 [(.int .i64 ((t15.2.1:Nat):Int)),(.slice (some ⟨r16,0,none⟩) 1 1)] (.one aP) fun (t17:Option Addr)=>
 T.call 139 [(.pointer k_2),(.pointer t17)] (.one aB) fun (t18:Bool)=>
 cond t18
 (T.out [(.bool true),(.bool false)])
 (T.out [(.bool z2.2.2.1),(.bool false)])) fun (z13:Bool×Bool×Unit)=>
 T.ret (.tuple #[(.bool z13.1),(.bool z13.2.1)]))
 (T.join [aB]
 (deref s_0 fun a20=>
 T.load .slice (a20.add 7) fun (t21:Slc)=>
 T.call 160 [(.pointer s_0),(.int .i64 t4)] (.one aI) fun (t22:Int)=>
 T.still (a20.add 7) (sv t21) <|
 deref t21.1 fun a23=>
 chk (0≤t22∧t22< (t21.2.1:Nat)) <|
 T.load .pointer (a23.add (Int.toNat t22 * 1)) fun (t24:Option Addr)=>
 T.call 139 [(.pointer k_2),(.pointer t24)] (.one aB) fun (t25:Bool)=>
 cond t25
 (T.out [(.bool true)])
 (T.out [(.bool z2.2.2.1)])) fun (z19:Bool×Unit)=>
 deref s_0 fun a26=>
 T.load .slice (a26.add 6) fun (t27:Slc)=>
 T.call 160 [(.pointer s_0),(.int .i64 t4)] (.one aI) fun (t28:Int)=>
 T.still (a26.add 6) (sv t27) <|
 deref t27.1 fun a29=>
 chk (0≤t28∧t28< (t27.2.1:Nat)) <|
 T.load .bool (a29.add (Int.toNat t28 * 1)) fun (t30:Bool)=>
 cond (!t30)
 (T.ret (.tuple #[(.bool z19.1),(.bool false)]))
 (T.out [(.int .i64 (wN z2.1)),(.bool z2.2.1),(.bool z19.1)])))
 (T.brk 0 [(.int .i64 z2.1),(.bool z2.2.1),(.bool z2.2.2.1)])) fun (z1:Int×Bool×Bool×Unit)=>
 T.ret (.tuple #[(.bool z1.2.2.1),(.bool true)])
theorem G7 (s_0:Option Addr) (seq_1_p:Option Addr) (seq_1_n seq_1_c:Nat) (k_2:Option Addr):AT Tryz.prog Tryz.f161 [(.pointer s_0),(.slice seq_1_p seq_1_n seq_1_c),(.func (.func 139) #[(.pointer k_2)] #[])] =Ef s_0 seq_1_p seq_1_n seq_1_c k_2:=by kernel_rfl
noncomputable def Mc (p_0:Pl6) (a_1:Option Addr):T:=
 T.new (.cells #[(sv p_0.1),(sv p_0.2.1),(sv p_0.2.2.1),(sv p_0.2.2.2.1),(sv p_0.2.2.2.2.1),(sv p_0.2.2.2.2.2.1)] 32 (0,0)) fun r1=>
 L6 r1 fun t2 t3 t4 t5 t6 t7=>
 L6 r1 fun t8 t9 t10 t11 t12 t13=>
 T.both
 (T.call 106 [(aH t8 t9 t10 t11 t12 t13)] (.one (.agg [.slice, .slice, .slice,(.int .i64)])) fun (t14:Slc×Slc×Slc×Int×Unit)=>
 S6 r1 t2 t3 t4 t5 t6 t7<|
 T.both
 (T.new (.map #[] 0) fun r15=>
 S6 r1 t2 t3 t4 t5 t6 t7<|
 T.new (.map #[] 0) fun r16=>
 S6 r1 t2 t3 t4 t5 t6 t7<|
 T.new (.cells #[(sv t2),(sv t3),(sv t4),(sv t5),(sv t6),(sv t7),(.pointer a_1),(sv t14.1),(sv t14.2.1),(sv t14.2.2.1),(.int .i64 t14.2.2.2.1),(.slice none 0 0),(.map (some r15)),(.map (some r16))] 138 (0,0)) fun r17=>
 T.call 107 [(.pointer (some ⟨r17,0,none⟩)),(.func (.func 108) #[(.pointer (some ⟨r17,0,none⟩))] #[])] (.tuple []) fun (t18:Unit)=>
 T.call 109 [(.pointer (some ⟨r17,0,none⟩))] (.tuple [aS,aS]) fun (t19:Slc×Slc×Unit)=>
 T.call 112 [(.pointer (some ⟨r17,0,none⟩))] (.one aS) fun (t20:Slc)=>
 T.call 111 [(sv t19.2.1),(sv t19.1)] (.one aS) fun (t21:Slc)=>
 T.call 111 [(sv t20),(sv t21)] (.one aS) fun (t22:Slc)=>
 T.call 110 [(.pointer (some ⟨r17,0,none⟩)),(sv t22)] (.tuple []) fun (t23:Unit)=>
 T.ret (.pointer (some ⟨r17,0,none⟩)))
 (T.new (.map #[] 0) fun r24=>
 S6 r1 t2 t3 t4 t5 t6 t7<|
 T.new (.map #[] 0) fun r25=>
 S6 r1 t2 t3 t4 t5 t6 t7<|
 T.new (.cells #[(sv t2),(sv t3),(sv t4),(sv t5),(sv t6),(sv t7),(.pointer a_1),(sv t14.1),(sv t14.2.1),(sv t14.2.2.1),(.int .i64 t14.2.2.2.1),(.slice none 0 0),(.map (some r25)),(.map (some r24))] 138 (0,0)) fun r26=>
 T.call 107 [(.pointer (some ⟨r26,0,none⟩)),(.func (.func 108) #[(.pointer (some ⟨r26,0,none⟩))] #[])] (.tuple []) fun (t27:Unit)=>
 T.call 109 [(.pointer (some ⟨r26,0,none⟩))] (.tuple [aS,aS]) fun (t28:Slc×Slc×Unit)=>
 T.call 112 [(.pointer (some ⟨r26,0,none⟩))] (.one aS) fun (t29:Slc)=>
 T.call 111 [(sv t28.2.1),(sv t28.1)] (.one aS) fun (t30:Slc)=>
 T.call 111 [(sv t29),(sv t30)] (.one aS) fun (t31:Slc)=>
 T.call 110 [(.pointer (some ⟨r26,0,none⟩)),(sv t31)] (.tuple []) fun (t32:Unit)=>
 T.ret (.pointer (some ⟨r26,0,none⟩))))
 (T.both
 (T.new (.map #[] 0) fun r33=>
 S6 r1 t8 t9 t10 t11 t12 t13<|
 S6 r1 t2 t3 t4 t5 t6 t7<|
 T.both
 (T.call 106 [(aH t8 t9 t10 t11 t12 t13)] (.one (.agg [.slice, .slice, .slice,(.int .i64)])) fun (t34:Slc×Slc×Slc×Int×Unit)=>
 S6 r1 t2 t3 t4 t5 t6 t7<|
 T.new (.map #[] 0) fun r35=>
 S6 r1 t2 t3 t4 t5 t6 t7<|
 T.new (.cells #[(sv t2),(sv t3),(sv t4),(sv t5),(sv t6),(sv t7),(.pointer a_1),(sv t34.1),(sv t34.2.1),(sv t34.2.2.1),(.int .i64 t34.2.2.2.1),(.slice none 0 0),(.map (some r33)),(.map (some r35))] 138 (0,0)) fun r36=>
 T.call 107 [(.pointer (some ⟨r36,0,none⟩)),(.func (.func 108) #[(.pointer (some ⟨r36,0,none⟩))] #[])] (.tuple []) fun (t37:Unit)=>
 T.call 109 [(.pointer (some ⟨r36,0,none⟩))] (.tuple [aS,aS]) fun (t38:Slc×Slc×Unit)=>
 T.call 112 [(.pointer (some ⟨r36,0,none⟩))] (.one aS) fun (t39:Slc)=>
 T.call 111 [(sv t38.2.1),(sv t38.1)] (.one aS) fun (t40:Slc)=>
 T.call 111 [(sv t39),(sv t40)] (.one aS) fun (t41:Slc)=>
 T.call 110 [(.pointer (some ⟨r36,0,none⟩)),(sv t41)] (.tuple []) fun (t42:Unit)=>
 T.ret (.pointer (some ⟨r36,0,none⟩)))
 (T.new (.map #[] 0) fun r43=>
 S6 r1 t8 t9 t10 t11 t12 t13<|
 S6 r1 t2 t3 t4 t5 t6 t7<|
 T.call 106 [(aH t8 t9 t10 t11 t12 t13)] (.one (.agg [.slice, .slice, .slice,(.int .i64)])) fun (t44:Slc×Slc×Slc×Int×Unit)=>
 S6 r1 t2 t3 t4 t5 t6 t7<|
 T.new (.cells #[(sv t2),(sv t3),(sv t4),(sv t5),(sv t6),(sv t7),(.pointer a_1),(sv t44.1),(sv t44.2.1),(sv t44.2.2.1),(.int .i64 t44.2.2.2.1),(.slice none 0 0),(.map (some r33)),(.map (some r43))] 138 (0,0)) fun r45=>
 T.call 107 [(.pointer (some ⟨r45,0,none⟩)),(.func (.func 108) #[(.pointer (some ⟨r45,0,none⟩))] #[])] (.tuple []) fun (t46:Unit)=>
 T.call 109 [(.pointer (some ⟨r45,0,none⟩))] (.tuple [aS,aS]) fun (t47:Slc×Slc×Unit)=>
 T.call 112 [(.pointer (some ⟨r45,0,none⟩))] (.one aS) fun (t48:Slc)=>
 T.call 111 [(sv t47.2.1),(sv t47.1)] (.one aS) fun (t49:Slc)=>
 T.call 111 [(sv t48),(sv t49)] (.one aS) fun (t50:Slc)=>
 T.call 110 [(.pointer (some ⟨r45,0,none⟩)),(sv t50)] (.tuple []) fun (t51:Unit)=>
 T.ret (.pointer (some ⟨r45,0,none⟩))))
 (T.new (.map #[] 0) fun r52=>
 S6 r1 t8 t9 t10 t11 t12 t13<|
 S6 r1 t2 t3 t4 t5 t6 t7<|
 T.both
 (T.call 106 [(aH t8 t9 t10 t11 t12 t13)] (.one (.agg [.slice, .slice, .slice,(.int .i64)])) fun (t53:Slc×Slc×Slc×Int×Unit)=>
 S6 r1 t2 t3 t4 t5 t6 t7<|
 T.new (.map #[] 0) fun r54=>
 S6 r1 t2 t3 t4 t5 t6 t7<|
 T.new (.cells #[(sv t2),(sv t3),(sv t4),(sv t5),(sv t6),(sv t7),(.pointer a_1),(sv t53.1),(sv t53.2.1),(sv t53.2.2.1),(.int .i64 t53.2.2.2.1),(.slice none 0 0),(.map (some r54)),(.map (some r52))] 138 (0,0)) fun r55=>
 T.call 107 [(.pointer (some ⟨r55,0,none⟩)),(.func (.func 108) #[(.pointer (some ⟨r55,0,none⟩))] #[])] (.tuple []) fun (t56:Unit)=>
 T.call 109 [(.pointer (some ⟨r55,0,none⟩))] (.tuple [aS,aS]) fun (t57:Slc×Slc×Unit)=>
 T.call 112 [(.pointer (some ⟨r55,0,none⟩))] (.one aS) fun (t58:Slc)=>
 T.call 111 [(sv t57.2.1),(sv t57.1)] (.one aS) fun (t59:Slc)=>
 T.call 111 [(sv t58),(sv t59)] (.one aS) fun (t60:Slc)=>
 T.call 110 [(.pointer (some ⟨r55,0,none⟩)),(sv t60)] (.tuple []) fun (t61:Unit)=>
 T.ret (.pointer (some ⟨r55,0,none⟩)))
 (T.new (.map #[] 0) fun r62=>
 S6 r1 t8 t9 t10 t11 t12 t13<|
 S6 r1 t2 t3 t4 t5 t6 t7<|
 T.call 106 [(aH t8 t9 t10 t11 t12 t13)] (.one (.agg [.slice, .slice, .slice,(.int .i64)])) fun (t63:Slc×Slc×Slc×Int×Unit)=>
 S6 r1 t2 t3 t4 t5 t6 t7<|
 T.new (.cells #[(sv t2),(sv t3),(sv t4),(sv t5),(sv t6),(sv t7),(.pointer a_1),(sv t63.1),(sv t63.2.1),(sv t63.2.2.1),(.int .i64 t63.2.2.2.1),(.slice none 0 0),(.map (some r62)),(.map (some r52))] 138 (0,0)) fun r64=>
 T.call 107 [(.pointer (some ⟨r64,0,none⟩)),(.func (.func 108) #[(.pointer (some ⟨r64,0,none⟩))] #[])] (.tuple []) fun (t65:Unit)=>
 T.call 109 [(.pointer (some ⟨r64,0,none⟩))] (.tuple [aS,aS]) fun (t66:Slc×Slc×Unit)=>
 T.call 112 [(.pointer (some ⟨r64,0,none⟩))] (.one aS) fun (t67:Slc)=>
 T.call 111 [(sv t66.2.1),(sv t66.1)] (.one aS) fun (t68:Slc)=>
 T.call 111 [(sv t67),(sv t68)] (.one aS) fun (t69:Slc)=>
 T.call 110 [(.pointer (some ⟨r64,0,none⟩)),(sv t69)] (.tuple []) fun (t70:Unit)=>
 T.ret (.pointer (some ⟨r64,0,none⟩)))))
theorem N9 (p_0:Pl6) (a_1:Option Addr):AT Tryz.prog Tryz.f69 [(aG p_0),(.pointer a_1)] =Mc p_0 a_1:=by kernel_rfl
noncomputable def GA (l_0:Option Addr) (k_1:Option Addr):T:=
 deref l_0 fun a1=>
 T.load .pointer (a1.add 6) fun (t2:Option Addr)=>
 T.call 20 [(.pointer t2)] (.one aI) fun (t3:Int)=>
 T.block 0 [aI]
 (T.loop [aI] [(.int .i64 (0:Int))] fun (z5:Int×Unit)=>
 cond (decide (z5.1<t3))
 (deref l_0 fun a6=>
 T.load .pointer (a6.add 6) fun (t7:Option Addr)=>
 T.call 34 [(.pointer t7),(.int .i64 z5.1)] (.one aS) fun (t8:Slc)=>
 T.block 2 [aI]
 (T.loop [aI] [(.int .i64 (0:Int))] fun (z10:Int×Unit)=>
 cond (decide (z10.1< ((t8.2.1:Nat):Int)))
 (deref t8.1 fun a11=>
 chk (0≤z10.1∧z10.1< (t8.2.1:Nat)) <|
 T.load (.int .i64) (a11.add (Int.toNat z10.1 * 2)) fun (t12:Int)=>
 T.load (.int .i64) ((a11.add (Int.toNat z10.1 * 2)).add 1) fun (t13:Int)=>
 T.new (.cells #[(.int .i64 (0:Int)),(.int .i64 (0:Int))] 73 (0,0)) fun r14=>
 T.store ⟨r14,0,none⟩ (.int .i64 t12) <|
 T.store ⟨r14,1,none⟩ (.int .i64 t13) <|
 deref l_0 fun a15=>
 M6 a15 fun t16 t17 t18 t19 t20 t21=>
 T.load (.int .i64) ⟨r14,0,none⟩ fun (t22:Int)=>
 T.call 86 [(aH t16 t17 t18 t19 t20 t21),(.int .i64 t22)] (.one aB) fun (t23:Bool)=>
 T.join []
 (cond (!t23)
 (T.load (.int .i64) ⟨r14,0,none⟩ fun (t25:Int)=>
 T.load (.int .i64) ⟨r14,1,none⟩ fun (t26:Int)=>
 T.call 108 [(.pointer k_1),(.agg #[(.int .i64 z5.1),(.int .i64 t25)]),(.int .i64 t26)] (.tuple []) fun (t27:Unit)=>
 T.out [])
 (T.out [])) fun (z24:Unit)=>
 T.out [(.int .i64 (wN z10.1))])
 (T.brk 2 [(.int .i64 z10.1)])) fun (z9:Int×Unit)=>
 T.out [(.int .i64 (wN z5.1))])
 (T.brk 0 [(.int .i64 z5.1)])) fun (z4:Int×Unit)=>
 T.ret (.tuple #[])
theorem Ip (l_0:Option Addr) (k_1:Option Addr):AT Tryz.prog Tryz.f107 [(.pointer l_0),(.func (.func 108) #[(.pointer k_1)] #[])] =GA l_0 k_1:=by kernel_rfl
noncomputable def GB (l_0:Option Addr) (k_1_0:Nat) (k_1_1:Nat) (k_1_2:Nat):T:=
 deref l_0 fun a1=>
 T.load .pointer (a1.add 6) fun (t2:Option Addr)=>
 T.call 20 [(.pointer t2)] (.one aI) fun (t3:Int)=>
 T.block 0 [aI]
 (T.loop [aI] [(.int .i64 (0:Int))] fun (z5:Int×Unit)=>
 cond (decide (z5.1<t3))
 (deref l_0 fun a6=>
 T.load .pointer (a6.add 6) fun (t7:Option Addr)=>
 T.call 34 [(.pointer t7),(.int .i64 z5.1)] (.one aS) fun (t8:Slc)=>
 T.block 2 [aI]
 (T.loop [aI] [(.int .i64 (0:Int))] fun (z10:Int×Unit)=>
 cond (decide (z10.1< ((t8.2.1:Nat):Int)))
 (deref t8.1 fun a11=>
 chk (0≤z10.1∧z10.1< (t8.2.1:Nat)) <|
 T.load (.int .i64) (a11.add (Int.toNat z10.1 * 2)) fun (t12:Int)=>
 T.load (.int .i64) ((a11.add (Int.toNat z10.1 * 2)).add 1) fun (t13:Int)=>
 T.new (.cells #[(.int .i64 (0:Int)),(.int .i64 (0:Int))] 73 (0,0)) fun r14=>
 T.store ⟨r14,0,none⟩ (.int .i64 t12) <|
 T.store ⟨r14,1,none⟩ (.int .i64 t13) <|
 deref l_0 fun a15=>
 M6 a15 fun t16 t17 t18 t19 t20 t21=>
 T.load (.int .i64) ⟨r14,0,none⟩ fun (t22:Int)=>
 T.call 86 [(aH t16 t17 t18 t19 t20 t21),(.int .i64 t22)] (.one aB) fun (t23:Bool)=>
 T.join []
 (cond (!t23)
 (T.load (.int .i64) ⟨r14,0,none⟩ fun (t25:Int)=>
 T.load (.int .i64) ⟨r14,1,none⟩ fun (t26:Int)=>
 T.call 137 [(.agg #[(.int .i64 z5.1),(.int .i64 t25)]),(.int .i64 t26),(.pointer (some ⟨k_1_0,0,none⟩)),(.pointer (some ⟨k_1_1,0,none⟩)),(.pointer (some ⟨k_1_2,0,none⟩))] (.tuple []) fun (t27:Unit)=>
 T.out [])
 (T.out [])) fun (z24:Unit)=>
 T.out [(.int .i64 (wN z10.1))])
 (T.brk 2 [(.int .i64 z10.1)])) fun (z9:Int×Unit)=>
 T.out [(.int .i64 (wN z5.1))])
 (T.brk 0 [(.int .i64 z5.1)])) fun (z4:Int×Unit)=>
 T.ret (.tuple #[])
theorem Iq (l_0:Option Addr) (k_1_0:Nat) (k_1_1:Nat) (k_1_2:Nat):AT Tryz.prog Tryz.f107 [(.pointer l_0),(.func (.func 137) #[] #[(.pointer (some ⟨k_1_0,0,none⟩)),(.pointer (some ⟨k_1_1,0,none⟩)),(.pointer (some ⟨k_1_2,0,none⟩))])] =GB l_0 k_1_0 k_1_1 k_1_2:=by kernel_rfl
noncomputable def D3 (l_0:Option Addr) (s_1:Int×Int×Unit) (to_2:Int):T:=
 T.new (.cells #[(.int .i64 s_1.1),(.int .i64 s_1.2.1)] 224 (0,0)) fun r1=>
 deref l_0 fun a2=>
 T.load .map (a2.add 12) fun (t3:Option Nat)=>
 T.load (.int .i64) ⟨r1,0,none⟩ fun (t4:Int)=>
 T.load (.int .i64) ⟨r1,1,none⟩ fun (t5:Int)=>
 deref l_0 fun a6=>
 T.load .slice (a6.add 11) fun (t7:Slc)=>
 T.sem (Sem.bind (Instr.mapUpdate 135 (.map t3) (.agg #[(.int .i64 t4),(.int .i64 t5)]) (.int .i64 ((t7.2.1:Nat):Int))) fun _=> .pure undef) (.tuple []) fun (u8:Unit)=>
 deref l_0 fun a9=>
 T.load .slice (a9.add 11) fun (t10:Slc)=>
 T.load (.int .i64) ⟨r1,0,none⟩ fun (t11:Int)=>
 T.load (.int .i64) ⟨r1,1,none⟩ fun (t12:Int)=>
 T.new (.cells #[(.int .i64 t11),(.int .i64 t12)] 224 (0,0)) fun r13=>
 T.still (a9.add 11) (sv t10) <|
 T.sem (Builtin.append_ #[134,134] 134 #[(sv t10),(.slice (some ⟨r13,0,none⟩) 1 1)]) (.one aS) fun (t14:Slc)=>
 deref l_0 fun a15=>
 T.store (a15.add 11) (sv t14) <|
 T.ret (.tuple #[])
theorem Ir (l_0:Option Addr) (s_1:Int×Int×Unit) (to_2:Int):AT Tryz.prog Tryz.f108 [(.pointer l_0),(.agg #[(.int .i64 s_1.1),(.int .i64 s_1.2.1)]),(.int .i64 to_2)] =D3 l_0 s_1 to_2:=by kernel_rfl
noncomputable def GC (l_0:Option Addr):T:=
 T.new (.cells #[(.pointer l_0)] 42 (0,0)) fun r1=>
 T.new (.cells #[(.slice none 0 0)] 195 (0,0)) fun r2=>
 T.new (.cells #[(.slice none 0 0)] 97 (0,0)) fun r3=>
 T.load .pointer ⟨r1,0,none⟩ fun (t4:Option Addr)=>
 T.call 107 [(.pointer t4),(.func (.func 137) #[] #[(.pointer (some ⟨r1,0,none⟩)),(.pointer (some ⟨r2,0,none⟩)),(.pointer (some ⟨r3,0,none⟩))])] (.tuple []) fun (t5:Unit)=>
 T.load .slice ⟨r2,0,none⟩ fun (t6:Slc)=>
 T.load .slice ⟨r3,0,none⟩ fun (t7:Slc)=>
 T.ret (.tuple #[(sv t6),(sv t7)])
theorem Is (l_0:Option Addr):AT Tryz.prog Tryz.f109 [(.pointer l_0)] =GC l_0:=by kernel_rfl
noncomputable def DP (s_0:Int×Int×Unit) (to_1:Int) (c_2:Nat) (c_3:Nat) (c_4:Nat):T:=
 T.new (.cells #[(.int .i64 s_0.1),(.int .i64 s_0.2.1)] 224 (0,0)) fun r1=>
 T.load .pointer ⟨c_2,0,none⟩ fun (t2:Option Addr)=>
 deref t2 fun a3=>
 T.load .slice a3 fun (t4:Slc)=>
 T.call 138 [(.int .i64 ((t4.2.1:Nat):Int))] (.one aP) fun (t5:Option Addr)=>
 T.load .pointer ⟨c_2,0,none⟩ fun (t6:Option Addr)=>
 T.call 71 [(.pointer t6),(.int .i64 to_1),(.int .i64 (0:Int))] (.one aB) fun (t7:Bool)=>
 T.join []
 (cond t7
 (T.call 134 [(.pointer t5),(.int .i64 (0:Int))] (.one aB) fun (t9:Bool)=>
 T.out [])
 (T.out [])) fun (z8:Unit)=>
 T.load .pointer ⟨c_2,0,none⟩ fun (t10:Option Addr)=>
 deref t10 fun a11=>
 T.load .pointer (a11.add 6) fun (t12:Option Addr)=>
 T.call 34 [(.pointer t12),(.int .i64 to_1)] (.one aS) fun (t13:Slc)=>
 T.block 0 [aI,aS]
 (T.loop [aI,aS] [(.int .i64 (0:Int)),(.slice none 0 0)] fun (z15:Int×Slc×Unit)=>
 cond (decide (z15.1< ((t13.2.1:Nat):Int)))
 (deref t13.1 fun a16=>
 chk (0≤z15.1∧z15.1< (t13.2.1:Nat)) <|
 T.load (.int .i64) (a16.add (Int.toNat z15.1 * 2)) fun (t17:Int)=>
 T.load (.int .i64) ((a16.add (Int.toNat z15.1 * 2)).add 1) fun (t18:Int)=>
 T.new (.cells #[(.int .i64 (0:Int)),(.int .i64 (0:Int))] 73 (0,0)) fun r19=>
 T.store ⟨r19,0,none⟩ (.int .i64 t17) <|
 T.store ⟨r19,1,none⟩ (.int .i64 t18) <|
 T.load .pointer ⟨c_2,0,none⟩ fun (t20:Option Addr)=>
 deref t20 fun a21=>
 M6 a21 fun t22 t23 t24 t25 t26 t27=>
 T.load (.int .i64) ⟨r19,0,none⟩ fun (t28:Int)=>
 T.call 86 [(aH t22 t23 t24 t25 t26 t27),(.int .i64 t28)] (.one aB) fun (t29:Bool)=>
 T.join [aS]
 (cond t29
 (T.load (.int .i64) ⟨r19,0,none⟩ fun (t31:Int)=>
 T.call 134 [(.pointer t5),(.int .i64 t31)] (.one aB) fun (t32:Bool)=>
 T.out [(sv z15.2.1)])
 (T.load .pointer ⟨c_2,0,none⟩ fun (t33:Option Addr)=>
 deref t33 fun a34=>
 T.load .slice (a34.add 7) fun (t35:Slc)=>
 T.load (.int .i64) ⟨r19,0,none⟩ fun (t36:Int)=>
 T.load .pointer ⟨c_2,0,none⟩ fun (t37:Option Addr)=>
 deref t37 fun a38=>
 T.load .slice a38 fun (t39:Slc)=>
 deref t35.1 fun a40=>
 chk (0≤(IntKind.wrap .i64 (t36 - ((t39.2.1:Nat):Int)))∧(IntKind.wrap .i64 (t36 - ((t39.2.1:Nat):Int))) < (t35.2.1:Nat)) <|
 T.load .bool (a40.add (Int.toNat (IntKind.wrap .i64 (t36 - ((t39.2.1:Nat):Int))) * 1)) fun (t41:Bool)=>
 T.join [aS]
 (cond t41
 (T.load .pointer ⟨c_2,0,none⟩ fun (t43:Option Addr)=>
 deref t43 fun a44=>
 T.load .map (a44.add 12) fun (t45:Option Nat)=>
 T.load (.int .i64) ⟨r19,0,none⟩ fun (t46:Int)=>
 T.sem (Instr.lookup 135 (.map t45) (.agg #[(.int .i64 to_1),(.int .i64 t46)]) false) (.one aI) fun (t47:Int)=>
 T.new (.cells #[(.int .i64 t47)] 3 (0,0)) fun r48=>
 T.sem (Builtin.append_ #[30,30] 30 #[(sv z15.2.1),(.slice (some ⟨r48,0,none⟩) 1 1)]) (.one aS) fun (t49:Slc)=>
 T.out [(sv t49)])
 (T.out [(sv z15.2.1)])) fun (z42:Slc×Unit)=>
 T.out [(sv z42.1)])) fun (z30:Slc×Unit)=>
 T.out [(.int .i64 (wN z15.1)),(sv z30.1)])
 (T.brk 0 [(.int .i64 z15.1),(sv z15.2.1)])) fun (z14:Int×Slc×Unit)=>
 T.load .slice ⟨c_3,0,none⟩ fun (t50:Slc)=>
 T.load .slice ⟨c_4,0,none⟩ fun (t51:Slc)=>
 T.both
 (T.new (.cells #[(.pointer t5)] 139 (0,0)) fun r52=>
 T.still ⟨c_4,0,none⟩ (sv t51) <|
 T.still ⟨c_3,0,none⟩ (sv t50) <|
 T.both
 (T.sem (Builtin.append_ #[195,195] 195 #[(sv t50),(.slice (some ⟨r52,0,none⟩) 1 1)]) (.one aS) fun (t53:Slc)=>
 T.still ⟨c_4,0,none⟩ (sv t51) <|
 T.new (.cells #[(sv z14.2.1)] 30 (0,0)) fun r54=>
 T.still ⟨c_4,0,none⟩ (sv t51) <|
 T.sem (Builtin.append_ #[97,97] 97 #[(sv t51),(.slice (some ⟨r54,0,none⟩) 1 1)]) (.one aS) fun (t55:Slc)=>
 T.store ⟨c_3,0,none⟩ (sv t53) <|
 T.store ⟨c_4,0,none⟩ (sv t55) <|
 T.ret (.tuple #[]))
 (T.new (.cells #[(sv z14.2.1)] 30 (0,0)) fun r56=>
 T.still ⟨c_4,0,none⟩ (sv t51) <|
 T.still ⟨c_3,0,none⟩ (sv t50) <|
 T.sem (Builtin.append_ #[195,195] 195 #[(sv t50),(.slice (some ⟨r52,0,none⟩) 1 1)]) (.one aS) fun (t57:Slc)=>
 T.still ⟨c_4,0,none⟩ (sv t51) <|
 T.sem (Builtin.append_ #[97,97] 97 #[(sv t51),(.slice (some ⟨r56,0,none⟩) 1 1)]) (.one aS) fun (t58:Slc)=>
 T.store ⟨c_3,0,none⟩ (sv t57) <|
 T.store ⟨c_4,0,none⟩ (sv t58) <|
 T.ret (.tuple #[])))
 (T.new (.cells #[(sv z14.2.1)] 30 (0,0)) fun r59=>
 T.still ⟨c_4,0,none⟩ (sv t51) <|
 T.still ⟨c_3,0,none⟩ (sv t50) <|
 T.new (.cells #[(.pointer t5)] 139 (0,0)) fun r60=>
 T.still ⟨c_4,0,none⟩ (sv t51) <|
 T.still ⟨c_3,0,none⟩ (sv t50) <|
 T.sem (Builtin.append_ #[195,195] 195 #[(sv t50),(.slice (some ⟨r60,0,none⟩) 1 1)]) (.one aS) fun (t61:Slc)=>
 T.still ⟨c_4,0,none⟩ (sv t51) <|
 T.sem (Builtin.append_ #[97,97] 97 #[(sv t51),(.slice (some ⟨r59,0,none⟩) 1 1)]) (.one aS) fun (t62:Slc)=>
 T.store ⟨c_3,0,none⟩ (sv t61) <|
 T.store ⟨c_4,0,none⟩ (sv t62) <|
 T.ret (.tuple #[]))
theorem Hb (s_0:Int×Int×Unit) (to_1:Int) (c_2:Nat) (c_3:Nat) (c_4:Nat):AT Tryz.prog Tryz.f137 [(.agg #[(.int .i64 s_0.1),(.int .i64 s_0.2.1)]),(.int .i64 to_1),(.pointer (some ⟨c_2,0,none⟩)),(.pointer (some ⟨c_3,0,none⟩)),(.pointer (some ⟨c_4,0,none⟩))] =DP s_0 to_1 c_2 c_3 c_4:=by kernel_rfl
noncomputable def Eg (l_0:Option Addr):T:=
 deref l_0 fun a1=>
 T.load .slice (a1.add 11) fun (t2:Slc)=>
 T.sem (Instr.makeSlice 97 (.int .i64 ((t2.2.1:Nat):Int)) (.int .i64 ((t2.2.1:Nat):Int))) (.one aS) fun (t3:Slc)=>
 deref l_0 fun a4=>
 T.load .slice (a4.add 11) fun (t5:Slc)=>
 T.block 0 [aI]
 (T.loop [aI] [(.int .i64 (0:Int))] fun (z7:Int×Unit)=>
 cond (decide (z7.1< ((t5.2.1:Nat):Int)))
 (deref t5.1 fun a8=>
 chk (0≤z7.1∧z7.1< (t5.2.1:Nat)) <|
 T.load (.int .i64) (a8.add (Int.toNat z7.1 * 2)) fun (t9:Int)=>
 T.load (.int .i64) ((a8.add (Int.toNat z7.1 * 2)).add 1) fun (t10:Int)=>
 T.new (.cells #[(.int .i64 (0:Int)),(.int .i64 (0:Int))] 224 (0,0)) fun r11=>
 T.store ⟨r11,0,none⟩ (.int .i64 t9) <|
 T.store ⟨r11,1,none⟩ (.int .i64 t10) <|
 deref l_0 fun a12=>
 T.load .slice (a12.add 2) fun (t13:Slc)=>
 T.block 2 [aI]
 (T.loop [aI] [(.int .i64 (0:Int))] fun (z15:Int×Unit)=>
 cond (decide (z15.1< ((t13.2.1:Nat):Int)))
 (T.block 3 []
 (deref t13.1 fun a17=>
 chk (0≤z15.1∧z15.1< (t13.2.1:Nat)) <|
 T.load (.int .i64) (a17.add (Int.toNat z15.1 * 3)) fun (t18:Int)=>
 T.load .slice ((a17.add (Int.toNat z15.1 * 3)).add 1) fun (t19:Slc)=>
 T.load (.int .i64) ((a17.add (Int.toNat z15.1 * 3)).add 2) fun (t20:Int)=>
 T.new (.cells #[(.int .i64 (0:Int)),(.slice none 0 0),(.int .i64 (0:Int))] 65 (0,0)) fun r21=>
 T.store ⟨r21,0,none⟩ (.int .i64 t18) <|
 T.store ⟨r21,1,none⟩ (sv t19) <|
 T.store ⟨r21,2,none⟩ (.int .i64 t20) <|
 T.load (.int .i64) ⟨r21,0,none⟩ fun (t22:Int)=>
 T.load (.int .i64) ⟨r11,1,none⟩ fun (t23:Int)=>
 cond (t22 !=t23)
 (T.brk 3 [])
 (T.load (.int .i64) ⟨r11,0,none⟩ fun (t24:Int)=>
 T.load .slice ⟨r21,1,none⟩ fun (t25:Slc)=>
 T.block 4 [aI,aI]
 (T.loop [aI,aI] [(.int .i64 (0:Int)),(.int .i64 t24)] fun (z27:Int×Int×Unit)=>
 cond (decide (z27.1< ((t25.2.1:Nat):Int)))
 (deref t25.1 fun a28=>
 chk (0≤z27.1∧z27.1< (t25.2.1:Nat)) <|
 T.load (.int .i64) (a28.add (Int.toNat z27.1 * 1)) fun (t29:Int)=>
 deref l_0 fun a30=>
 T.load .slice (a30.add 7) fun (t31:Slc)=>
 T.load .slice ((a30.add 7).add 1) fun (t32:Slc)=>
 T.load .slice ((a30.add 7).add 2) fun (t33:Slc)=>
 T.load (.int .i64) ((a30.add 7).add 3) fun (t34:Int)=>
 deref l_0 fun a35=>
 M6 a35 fun t36 t37 t38 t39 t40 t41=>
 T.load .slice ⟨r21,1,none⟩ fun (t42:Slc)=>
 chk (0≤(wN z27.1)∧(wN z27.1) ≤((t42.2.1:Nat):Int)∧((t42.2.1:Nat):Int) ≤(t42.2.2:Nat)) <|
 T.call 146 [(.agg #[(sv t31),(sv t32),(sv t33),(.int .i64 t34)]),(aH t36 t37 t38 t39 t40 t41),(.slice (if t42.2.2=Int.toNat (wN z27.1) then t42.1 else Option.map (fun x=>Addr.add x (Int.toNat (wN z27.1) * 1)) t42.1) (Int.toNat ((t42.2.1:Nat):Int) - Int.toNat (wN z27.1)) (t42.2.2 - Int.toNat (wN z27.1)))] (.tuple [aS,aB]) fun (t43:Slc×Bool×Unit)=>
 T.join [aB]
 (cond t43.2.1
 (deref l_0 fun a45=>
 M6 a45 fun t46 t47 t48 t49 t50 t51=>
 T.call 86 [(aH t46 t47 t48 t49 t50 t51),(.int .i64 t29)] (.one aB) fun (t52:Bool)=>
 T.out [(.bool (!t52))])
 (T.out [(.bool false)])) fun (z44:Bool×Unit)=>
 T.join []
 (cond z44.1
 (deref l_0 fun a54=>
 T.load .map (a54.add 12) fun (t55:Option Nat)=>
 T.sem (Instr.lookup 135 (.map t55) (.agg #[(.int .i64 z27.2.1),(.int .i64 t29)]) false) (.one aI) fun (t56:Int)=>
 deref t3.1 fun a57=>
 chk (0≤t56∧t56< (t3.2.1:Nat)) <|
 T.load .slice (a57.add (Int.toNat t56 * 1)) fun (t58:Slc)=>
 T.new (.cells #[(.int .i64 z7.1)] 3 (0,0)) fun r59=>
 T.sem (Builtin.append_ #[30,30] 30 #[(sv t58),(.slice (some ⟨r59,0,none⟩) 1 1)]) (.one aS) fun (t60:Slc)=>
 deref t3.1 fun a61=>
 chk (0≤t56∧t56< (t3.2.1:Nat)) <|
 T.store (a61.add (Int.toNat t56 * 1)) (sv t60) <|
 T.out [])
 (T.out [])) fun (z53:Unit)=>
 deref l_0 fun a62=>
 T.load .pointer (a62.add 6) fun (t63:Option Addr)=>
 T.call 41 [(.pointer t63),(.int .i64 z27.2.1),(.int .i64 t29)] (.one aI) fun (t64:Int)=>
 T.out [(.int .i64 (wN z27.1)),(.int .i64 t64)])
 (T.brk 4 [(.int .i64 z27.1),(.int .i64 z27.2.1)])) fun (z26:Int×Int×Unit)=>
 T.out [])) fun (z16:Unit)=>
 T.out [(.int .i64 (wN z15.1))])
 (T.brk 2 [(.int .i64 z15.1)])) fun (z14:Int×Unit)=>
 T.out [(.int .i64 (wN z7.1))])
 (T.brk 0 [(.int .i64 z7.1)])) fun (z6:Int×Unit)=>
 T.ret (sv t3)
theorem G8 (l_0:Option Addr):AT Tryz.prog Tryz.f112 [(.pointer l_0)] =Eg l_0:=by kernel_rfl
noncomputable def GY (l_0:Option Addr) (follow_1_p:Option Addr) (follow_1_n follow_1_c:Nat):T:=
 deref l_0 fun a1=>
 T.load .slice (a1.add 11) fun (t2:Slc)=>
 T.block 0 [aI]
 (T.loop [aI] [(.int .i64 (0:Int))] fun (z4:Int×Unit)=>
 cond (decide (z4.1< ((t2.2.1:Nat):Int)))
 (deref t2.1 fun a5=>
 chk (0≤z4.1∧z4.1< (t2.2.1:Nat)) <|
 T.load (.int .i64) (a5.add (Int.toNat z4.1 * 2)) fun (t6:Int)=>
 T.load (.int .i64) ((a5.add (Int.toNat z4.1 * 2)).add 1) fun (t7:Int)=>
 T.new (.cells #[(.int .i64 (0:Int)),(.int .i64 (0:Int))] 224 (0,0)) fun r8=>
 T.store ⟨r8,0,none⟩ (.int .i64 t6) <|
 T.store ⟨r8,1,none⟩ (.int .i64 t7) <|
 deref l_0 fun a9=>
 T.load .slice (a9.add 2) fun (t10:Slc)=>
 T.block 2 [aI]
 (T.loop [aI] [(.int .i64 (0:Int))] fun (z12:Int×Unit)=>
 cond (decide (z12.1< ((t10.2.1:Nat):Int)))
 (T.block 3 []
 (deref t10.1 fun a14=>
 chk (0≤z12.1∧z12.1< (t10.2.1:Nat)) <|
 T.load (.int .i64) (a14.add (Int.toNat z12.1 * 3)) fun (t15:Int)=>
 T.load .slice ((a14.add (Int.toNat z12.1 * 3)).add 1) fun (t16:Slc)=>
 T.load (.int .i64) ((a14.add (Int.toNat z12.1 * 3)).add 2) fun (t17:Int)=>
 T.new (.cells #[(.int .i64 (0:Int)),(.slice none 0 0),(.int .i64 (0:Int))] 65 (0,0)) fun r18=>
 T.store ⟨r18,0,none⟩ (.int .i64 t15) <|
 T.store ⟨r18,1,none⟩ (sv t16) <|
 T.store ⟨r18,2,none⟩ (.int .i64 t17) <|
 T.load (.int .i64) ⟨r18,0,none⟩ fun (t19:Int)=>
 T.load (.int .i64) ⟨r8,1,none⟩ fun (t20:Int)=>
 cond (t19 !=t20)
 (T.brk 3 [])
 (deref l_0 fun a21=>
 T.load .pointer (a21.add 6) fun (t22:Option Addr)=>
 T.load (.int .i64) ⟨r8,0,none⟩ fun (t23:Int)=>
 T.load .slice ⟨r18,1,none⟩ fun (t24:Slc)=>
 T.both
 (T.call 72 [(.pointer t22),(.int .i64 t23),(sv t24)] (.one aI) fun (t25:Int)=>
 T.new (.cells #[(.int .i64 (0:Int)),(.int .i64 (0:Int))] 141 (0,0)) fun r26=>
 T.store ⟨r26,0,none⟩ (.int .i64 t25) <|
 T.store ⟨r26,1,none⟩ (.int .i64 z12.1) <|
 deref l_0 fun a27=>
 T.load .map (a27.add 13) fun (t28:Option Nat)=>
 T.load (.int .i64) ⟨r26,0,none⟩ fun (t29:Int)=>
 T.load (.int .i64) ⟨r26,1,none⟩ fun (t30:Int)=>
 T.sem (Instr.lookup 136 (.map t28) (.agg #[(.int .i64 t29),(.int .i64 t30)]) false) (.one aP) fun (t31:Option Addr)=>
 T.join []
 (cond (Option.isNone t31)
 (deref l_0 fun a33=>
 T.load .map (a33.add 13) fun (t34:Option Nat)=>
 T.load (.int .i64) ⟨r26,0,none⟩ fun (t35:Int)=>
 T.load (.int .i64) ⟨r26,1,none⟩ fun (t36:Int)=>
 deref l_0 fun a37=>
 T.load .slice a37 fun (t38:Slc)=>
 T.call 138 [(.int .i64 ((t38.2.1:Nat):Int))] (.one aP) fun (t39:Option Addr)=>
 T.still ⟨r26,0,none⟩ (.int .i64 t35) <|
 T.still ⟨r26,1,none⟩ (.int .i64 t36) <|
 T.still (a33.add 13) (.map t34) <|
 T.sem (Sem.bind (Instr.mapUpdate 136 (.map t34) (.agg #[(.int .i64 t35),(.int .i64 t36)]) (.pointer t39)) fun _=> .pure undef) (.tuple []) fun (u40:Unit)=>
 T.out [])
 (T.out [])) fun (z32:Unit)=>
 deref l_0 fun a41=>
 T.load .map (a41.add 13) fun (t42:Option Nat)=>
 T.load (.int .i64) ⟨r26,0,none⟩ fun (t43:Int)=>
 T.load (.int .i64) ⟨r26,1,none⟩ fun (t44:Int)=>
 deref follow_1_p fun a45=>
 chk (0≤z4.1∧z4.1< (follow_1_n:Nat)) <|
 T.load .pointer (a45.add (Int.toNat z4.1 * 1)) fun (t46:Option Addr)=>
 T.sem (Instr.lookup 136 (.map t42) (.agg #[(.int .i64 t43),(.int .i64 t44)]) false) (.one aP) fun (t47:Option Addr)=>
 T.still (a45.add (Int.toNat z4.1 * 1)) (.pointer t46) <|
 T.call 139 [(.pointer t47),(.pointer t46)] (.one aB) fun (t48:Bool)=>
 T.out [])
 (T.new (.cells #[(.int .i64 (0:Int)),(.int .i64 (0:Int))] 141 (0,0)) fun r49=>
 T.still ⟨r18,1,none⟩ (sv t24) <|
 T.still ⟨r8,0,none⟩ (.int .i64 t23) <|
 T.still (a21.add 6) (.pointer t22) <|
 T.call 72 [(.pointer t22),(.int .i64 t23),(sv t24)] (.one aI) fun (t50:Int)=>
 T.store ⟨r49,0,none⟩ (.int .i64 t50) <|
 T.store ⟨r49,1,none⟩ (.int .i64 z12.1) <|
 deref l_0 fun a51=>
 T.load .map (a51.add 13) fun (t52:Option Nat)=>
 T.load (.int .i64) ⟨r49,0,none⟩ fun (t53:Int)=>
 T.load (.int .i64) ⟨r49,1,none⟩ fun (t54:Int)=>
 T.sem (Instr.lookup 136 (.map t52) (.agg #[(.int .i64 t53),(.int .i64 t54)]) false) (.one aP) fun (t55:Option Addr)=>
 T.join []
 (cond (Option.isNone t55)
 (deref l_0 fun a57=>
 T.load .map (a57.add 13) fun (t58:Option Nat)=>
 T.load (.int .i64) ⟨r49,0,none⟩ fun (t59:Int)=>
 T.load (.int .i64) ⟨r49,1,none⟩ fun (t60:Int)=>
 deref l_0 fun a61=>
 T.load .slice a61 fun (t62:Slc)=>
 T.call 138 [(.int .i64 ((t62.2.1:Nat):Int))] (.one aP) fun (t63:Option Addr)=>
 T.still ⟨r49,0,none⟩ (.int .i64 t59) <|
 T.still ⟨r49,1,none⟩ (.int .i64 t60) <|
 T.still (a57.add 13) (.map t58) <|
 T.sem (Sem.bind (Instr.mapUpdate 136 (.map t58) (.agg #[(.int .i64 t59),(.int .i64 t60)]) (.pointer t63)) fun _=> .pure undef) (.tuple []) fun (u64:Unit)=>
 T.out [])
 (T.out [])) fun (z56:Unit)=>
 deref l_0 fun a65=>
 T.load .map (a65.add 13) fun (t66:Option Nat)=>
 T.load (.int .i64) ⟨r49,0,none⟩ fun (t67:Int)=>
 T.load (.int .i64) ⟨r49,1,none⟩ fun (t68:Int)=>
 deref follow_1_p fun a69=>
 chk (0≤z4.1∧z4.1< (follow_1_n:Nat)) <|
 T.load .pointer (a69.add (Int.toNat z4.1 * 1)) fun (t70:Option Addr)=>
 T.sem (Instr.lookup 136 (.map t66) (.agg #[(.int .i64 t67),(.int .i64 t68)]) false) (.one aP) fun (t71:Option Addr)=>
 T.still (a69.add (Int.toNat z4.1 * 1)) (.pointer t70) <|
 T.call 139 [(.pointer t71),(.pointer t70)] (.one aB) fun (t72:Bool)=>
 T.out []))) fun (z13:Unit)=>
 T.out [(.int .i64 (wN z12.1))])
 (T.brk 2 [(.int .i64 z12.1)])) fun (z11:Int×Unit)=>
 T.out [(.int .i64 (wN z4.1))])
 (T.brk 0 [(.int .i64 z4.1)])) fun (z3:Int×Unit)=>
 deref l_0 fun a73=>
 T.load .pointer (a73.add 6) fun (t74:Option Addr)=>
 T.call 20 [(.pointer t74)] (.one aI) fun (t75:Int)=>
 T.block 4 [aI]
 (T.loop [aI] [(.int .i64 (0:Int))] fun (z77:Int×Unit)=>
 cond (decide (z77.1<t75))
 (T.call 71 [(.pointer l_0),(.int .i64 z77.1),(.int .i64 (0:Int))] (.one aB) fun (t78:Bool)=>
 T.join []
 (cond t78
 (deref l_0 fun a80=>
 T.load .map (a80.add 13) fun (t81:Option Nat)=>
 deref l_0 fun a82=>
 T.load .slice a82 fun (t83:Slc)=>
 T.new (.cells #[(.int .i64 (0:Int))] 3 (0,0)) fun r84=>
 T.still a82 (sv t83) <|
 T.still (a80.add 13) (.map t81) <|
 T.call 140 [(.int .i64 ((t83.2.1:Nat):Int)),(.slice (some ⟨r84,0,none⟩) 1 1)] (.one aP) fun (t85:Option Addr)=>
 T.still (a80.add 13) (.map t81) <|
 T.sem (Sem.bind (Instr.mapUpdate 136 (.map t81) (.agg #[(.int .i64 z77.1),(.int .i64 (0:Int))]) (.pointer t85)) fun _=> .pure undef) (.tuple []) fun (u86:Unit)=>
 T.out [])
 (T.out [])) fun (z79:Unit)=>
 T.out [(.int .i64 (wN z77.1))])
 (T.brk 4 [(.int .i64 z77.1)])) fun (z76:Int×Unit)=>
 T.ret (.tuple #[])
theorem JJ (l_0:Option Addr) (follow_1_p:Option Addr) (follow_1_n follow_1_c:Nat):AT Tryz.prog Tryz.f110 [(.pointer l_0),(.slice follow_1_p follow_1_n follow_1_c)] =GY l_0 follow_1_p follow_1_n follow_1_c:=by kernel_rfl
noncomputable def GZ (l_0:Option Addr) (state_1:Int) (rule_2:Int):T:=
 T.join [aB]
 (cond (decide (rule_2< (0:Int)))
 (T.out [(.bool true)])
 (deref l_0 fun a2=>
 T.load .slice (a2.add 2) fun (t3:Slc)=>
 T.out [(.bool (decide (rule_2≥ ((t3.2.1:Nat):Int))))])) fun (z1:Bool×Unit)=>
 cond z1.1
 (T.ret (.bool false))
 (deref l_0 fun a4=>
 T.load .pointer (a4.add 6) fun (t5:Option Addr)=>
 deref l_0 fun a6=>
 T.load .slice (a6.add 2) fun (t7:Slc)=>
 deref t7.1 fun a8=>
 chk (0≤rule_2∧rule_2< (t7.2.1:Nat)) <|
 T.load .slice ((a8.add (Int.toNat rule_2 * 3)).add 1) fun (t9:Slc)=>
 T.call 32 [(.pointer t5),(.int .i64 state_1)] (.one aS) fun (t10:Slc)=>
 T.still ((a8.add (Int.toNat rule_2 * 3)).add 1) (sv t9) <|
 T.still (a6.add 2) (sv t7) <|
 T.call 115 [(sv t10),(.agg #[(.int .i64 rule_2),(.int .i64 ((t9.2.1:Nat):Int))])] (.one aB) fun (t11:Bool)=>
 T.ret (.bool t11))
theorem JK (l_0:Option Addr) (state_1:Int) (rule_2:Int):AT Tryz.prog Tryz.f71 [(.pointer l_0),(.int .i64 state_1),(.int .i64 rule_2)] =GZ l_0 state_1 rule_2:=by kernel_rfl
noncomputable def Ga (l_0:Option Addr) (state_1:Int):T:=
 deref l_0 fun a1=>
 T.load .pointer (a1.add 6) fun (t2:Option Addr)=>
 T.call 32 [(.pointer t2),(.int .i64 state_1)] (.one aS) fun (t3:Slc)=>
 T.block 0 [aI,aS]
 (T.loop [aI,aS] [(.int .i64 (0:Int)),(.slice none 0 0)] fun (z5:Int×Slc×Unit)=>
 cond (decide (z5.1< ((t3.2.1:Nat):Int)))
 (deref t3.1 fun a6=>
 chk (0≤z5.1∧z5.1< (t3.2.1:Nat)) <|
 T.load (.int .i64) (a6.add (Int.toNat z5.1 * 2)) fun (t7:Int)=>
 T.load (.int .i64) ((a6.add (Int.toNat z5.1 * 2)).add 1) fun (t8:Int)=>
 T.new (.cells #[(.int .i64 (0:Int)),(.int .i64 (0:Int))] 70 (0,0)) fun r9=>
 T.store ⟨r9,0,none⟩ (.int .i64 t7) <|
 T.store ⟨r9,1,none⟩ (.int .i64 t8) <|
 T.load (.int .i64) ⟨r9,1,none⟩ fun (t10:Int)=>
 deref l_0 fun a11=>
 T.load .slice (a11.add 2) fun (t12:Slc)=>
 T.load (.int .i64) ⟨r9,0,none⟩ fun (t13:Int)=>
 deref t12.1 fun a14=>
 chk (0≤t13∧t13< (t12.2.1:Nat)) <|
 T.load .slice ((a14.add (Int.toNat t13 * 3)).add 1) fun (t15:Slc)=>
 T.join [aS]
 (cond (t10==((t15.2.1:Nat):Int))
 (T.load (.int .i64) ⟨r9,0,none⟩ fun (t17:Int)=>
 T.new (.cells #[(.int .i64 t17)] 3 (0,0)) fun r18=>
 T.sem (Builtin.append_ #[30,30] 30 #[(sv z5.2.1),(.slice (some ⟨r18,0,none⟩) 1 1)]) (.one aS) fun (t19:Slc)=>
 T.out [(sv t19)])
 (T.out [(sv z5.2.1)])) fun (z16:Slc×Unit)=>
 T.out [(.int .i64 (wN z5.1)),(sv z16.1)])
 (T.brk 0 [(.int .i64 z5.1),(sv z5.2.1)])) fun (z4:Int×Slc×Unit)=>
 T.ret (sv z4.2.1)
theorem JL (l_0:Option Addr) (state_1:Int):AT Tryz.prog Tryz.f22 [(.pointer l_0),(.int .i64 state_1)] =Ga l_0 state_1:=by kernel_rfl
noncomputable def Hs (l_0:Option Addr) (state_1:Int) (rule_2:Int):T:=
 deref l_0 fun a1=>
 T.load .map (a1.add 13) fun (t2:Option Nat)=>
 T.sem (Instr.lookup 136 (.map t2) (.agg #[(.int .i64 state_1),(.int .i64 rule_2)]) false) (.one aP) fun (t3:Option Addr)=>
 cond (Option.isNone t3)
 (T.ret (.slice none 0 0))
 (T.call 70 [(.pointer t3)] (.one aS) fun (t4:Slc)=>
 T.ret (sv t4))
theorem KV (l_0:Option Addr) (state_1:Int) (rule_2:Int):AT Tryz.prog Tryz.f24 [(.pointer l_0),(.int .i64 state_1),(.int .i64 rule_2)] =Hs l_0 state_1 rule_2:=by kernel_rfl
end Go.Proofs.YteolcjbobmpdiaaGreatDoor
namespace Go.Proofs.YteolcjbobmpdiaaGreatDoor
open Go Go.Eng Dg
set_option linter.unusedVariables false
set_option maxRecDepth 100000
structure PlK (φ:AC) (t:Slc×Slc×Slc×Slc×Slc×Slc×Unit) (p:dtP):Prop where
 k0:Ro.SliceIs Ro.str φ t.1 p.1
 k1:Ro.SliceIs Ro.str φ t.2.1 p.2.1
 k2:Ro.SliceIs BS φ t.2.2.1 p.2.2.1
 k3:Ro.SliceIs (Ro.int .i64) φ t.2.2.2.1 p.2.2.2.1
 k4:Ro.SliceIs (Ro.int .i64) φ t.2.2.2.2.1 p.2.2.2.2.1
 k5:Ro.SliceIs Ro.str φ t.2.2.2.2.2.1 p.2.2.2.2.2
theorem PlK.mono {φ ψ:AC} {t:Slc×Slc×Slc×Slc×Slc×Slc×Unit} {p:dtP} (H:PlK φ t p) (hs:Sub φ ψ):PlK ψ t p:=
 ⟨H.k0.mono hs,H.k1.mono hs,H.k2.mono hs,H.k3.mono hs,H.k4.mono hs,H.k5.mono hs⟩
abbrev plV (t:Slc×Slc×Slc×Slc×Slc×Slc×Unit):List Value:= [sv t.1,sv t.2.1,sv t.2.2.1,sv t.2.2.2.1,sv t.2.2.2.2.1,sv t.2.2.2.2.2.1]
structure FsK (φ:AC) (a:Addr) (t:Slc×Slc×Slc×Slc×Slc×Slc×Unit) (n f g:Slc) (p:dtP) (ps qs:List (Option Addr)):Prop where
 cells:Cf φ (some a) (plV t++ [sv n,sv f,sv g])
 pl:PlK φ t p
 kf:Ro.SliceIs Ro.pt φ f ps
 kg:Ro.SliceIs Ro.pt φ g qs
section
variable {φ ψ:AC} {h:AF} {F:List Chk} {a:Addr} {t:Slc×Slc×Slc×Slc×Slc×Slc×Unit} {n f g:Slc} {p:dtP} {ps qs:List (Option Addr)}
theorem FsK.mono (H:FsK φ a t n f g p ps qs) (hs:Sub φ ψ):FsK ψ a t n f g p ps qs:=⟨H.cells.mono hs,H.pl.mono hs,H.kf.mono hs,H.kg.mono hs⟩
theorem FsK.at (H:FsK φ a t n f g p ps qs) (st:St φ F h) {j:Nat} {v:Value} (hv:(plV t++ [sv n,sv f,sv g])[j]? =some v):Az h (a.add j)=some v:=AD st.sub (H.cells.at j hv)
theorem NC {K:Bool→T} {P:BW→AF→Prop} (cells: ∀j v,(plV t)[j]? =some v→Az h (a.add j)=some v) (k:PlK φ t p) (st:St φ F h) {s:Int} {r:Bool} (hd:Bc p s=some r)
 (hk: ∀ψ h',Sub φ ψ→St ψ F h'→(K r).wp Tryz.prog P h'):
 (T.load .slice a fun (t6:Slc)=>T.load .slice (a.add 1) fun (t7:Slc)=>T.load .slice (a.add 2) fun (t8:Slc)=>T.load .slice (a.add 3) fun (t9:Slc)=>T.load .slice (a.add 4) fun (t10:Slc)=>T.load .slice (a.add 5) fun (t11:Slc)=>
  T.call 86 [(.agg #[(sv t6),(sv t7),(sv t8),(sv t9),(sv t10),(sv t11)]),(.int .i64 s)] (.one aB) K).wp Tryz.prog P h:=by
 have e0:a.add 0=a:=by cases a; rfl
 refine AE (x:=t.1) (by have:=cells 0 _ rfl; rwa [e0] at this) rfl ?_
 refine AE (x:=t.2.1) (cells 1 _ rfl) rfl ?_
 refine AE (x:=t.2.2.1) (cells 2 _ rfl) rfl ?_
 refine AE (x:=t.2.2.2.1) (cells 3 _ rfl) rfl ?_
 refine AE (x:=t.2.2.2.2.1) (cells 4 _ rfl) rfl ?_
 refine AE (x:=t.2.2.2.2.2.1) (cells 5 _ rfl) rfl ?_
 refine AJ (DJ (p_0:=t) k.k0 k.k1 k.k2 k.k3 k.k4 k.k5 st hd) ?_
 rintro _ h1 ⟨ψ,y,le,rfl,rfl,s1⟩
 exact ⟨y,rfl,hk ψ h1 le s1⟩
theorem FsK.pv (H:FsK φ a t n f g p ps qs) (st:St φ F h): ∀j v,(plV t)[j]? =some v→Az h (a.add j)=some v:=fun j v hv=>H.at st (by
 rw [List.getElem?_append_left (List.getElem?_eq_some_iff.1 hv).1]; exact hv)
theorem add_zero (a:Addr):a.add 0=a:=by cases a; rfl
theorem Lw (H:FsK φ a t n f g p ps qs) (st:St φ F h) (s:Int):
 CallsH Tryz.prog 160 [.pointer (some a), .int .i64 s] h (Ai fun v h'=>v=((.one aI):Sh).val (IntKind.wrap .i64 (s - nT p))∧St φ F h'):=by
 refine AN mixed Tryz.func160 ?_
 rw [KU]
 unfold Hr
 refine AG _ rfl (AE (x:=t.1) (by have:=H.at st (j:=0) rfl; rwa [add_zero] at this) rfl ?_)
 have e:t.1.2.1=p.1.length:=H.pl.k0.length
 rw [e]
 exact AB ⟨rfl,st⟩
theorem RY {α:Type} {l:List α} {k:Nat} {x:α} (h:idx l (k:Int)=some x):l[k]? =some x:=by rw [EM] at h; exact h
theorem O4 {ps qs:List (Option Addr)} {k:Nat} {q:Option Addr} (h:ps[k]? =some q):(ps++qs)[k]? =some q:=by rw [List.getElem?_append_left (List.getElem?_eq_some_iff.1 h).1]; exact h
abbrev fsC (n:Slc) (null:List Bool) (ps:List (Option Addr)) (ss:List Af) (F:List Chk):List Chk:=cR 4 Ro.bool n null::(AQ ps ss++F)
set_option maxHeartbeats 1000000 in
theorem Lx (gk:Dg.Glob φ) (K:FsK φ a t n f g p ps qs) {sq:Slc} {seq:List Int} (ks:Ro.SliceIs (Ro.int .i64) φ sq seq) {null:List Bool} {ss:List Af} {x:Nat} {q:Option Addr} (hq:(ps++qs)[x]? =some q) (hl:(ps++qs).length=ss.length) {r:Bool×Bool×List Af}
 (hd:LJ p ((ps.length:Nat):Int) null (x:Int) ss seq=some r) (s0:St φ (fsC n null (ps++qs) ss F) h):
 CallsH Tryz.prog 161 [.pointer (some a),sv sq, .func (.func 139) #[.pointer q] #[]] h (Ai fun v h'=> ∃ψ:AC,Sub φ ψ∧v=((.tuple [aB,aB]):Sh).val (r.1,r.2.1,())∧r.2.2.length=ss.length∧St ψ (fsC n null (ps++qs) r.2.2 F) h'):=by
 refine AN mixed Tryz.func161 ?_
 rw [G7]
 unfold Ef
 unfold LJ at hd
 have nk:=ks.length
 obtain ⟨g3,hx4,hd⟩:=bS hd
 refine AS (fun (y:Int×Bool×Bool×Unit) w g=> ∃(ψ:AC) (ss':List Af),Sub φ ψ∧g=AY.next (y.2.2.1,ss')∧ss'.length=ss.length∧St ψ (fsC n null (ps++qs) ss' F) w) (g:=g3) ?_ ?_
 ·refine Bz hx4 (fun i (y:Int×Bool×Bool×Unit) w g=> ∃(ψ:AC),Sub φ ψ∧y.1=i∧y.2.2.1=g.1∧g.2.length=ss.length∧St ψ (fsC n null (ps++qs) g.2 F) w) ((0:Int),false,false,()) rfl ⟨φ,Sub.refl _,rfl,rfl,rfl,s0⟩ ?_ ?_
  ·rintro i z w ⟨gr,s1⟩ e ⟨ψ,le,rfl,hg,hl1,st⟩ he h0 hlt hw hb
   dsimp only at hg hl1 st he
   subst hg
   refine Ad (by rw [nk]; exact decide_eq_true hlt) ?_
   obtain ⟨sym,hs1,he⟩:=bS he
   obtain ⟨tm,ht1,he⟩:=bS he
   obtain ⟨A1,cs1,ea1,hi1,r1,cl1⟩:=(ks.mono le).get hs1
   refine AG _ ea1 (Aa hi1 ?_)
   obtain rfl:=r1
   refine AE (x:=sym) (AD st.sub (cl1 0 _ rfl)) rfl ?_
   refine AG _ rfl (NC ((K.mono le).pv st) (K.mono le).pl st ht1 ?_)
   intro ψ1 h1 le1 st1
   have le':=le.trans le1
   refine AI he rfl (fun _ he=> ?_) (fun _ he=> ?_)
   ·obtain ⟨o,ho,he⟩:=bS he
    obtain ⟨u,hu,he⟩:=bS he
    obtain rfl:=iS he
    obtain rfl:=hb _ rfl
    obtain rfl:=iS hd
    unfold Tu at hu
    obtain ⟨s,hs,hu⟩:=bS hu
    obtain ⟨ok,hu⟩:=Bo hu
    obtain rfl:=iS hu
    refine AX (fun (y:Bool×Bool×Unit) w (_:Unit)=>y=(Ec s o || z.2.2.1,false,())∧ ∃ψ,Sub φ ψ∧St ψ (fsC n null (ps++qs) (s1.set x (BQ s o)) F) w) (g:=()) ?_ ?_
    ·refine AG _ rfl ?_
     refine AE (x:=t.1) (by have:=(K.mono le').at st1 (j:=0) rfl; rwa [add_zero] at this) rfl ?_
     refine AR (vs:= [.int .i64 sym]) st1 ?_
     intro r16 h2 st2
     have st3:=St.lit (r:=Ro.int .i64) (l:= [sym]) (n:=1) st2 (.cons (a:= [_]) rfl .nil) rfl (by decide)
     obtain ⟨ψ2,le2,k2,st4⟩:=St.freezeRow (t:=(some ⟨r16,0,none⟩,1,1)) st3
     have e:t.1.2.1=p.1.length:=K.pl.k0.length
     rw [e]
     refine AJ (Dl k2 st4 ho) ?_
     rintro _ h3 ⟨ψ3,p',l3,le3,rfl,rfl,st5⟩
     refine ⟨p',rfl,?_⟩
     have st6:St ψ3 (BH p' l3::(AQ (ps++qs) s1++(cR 4 Ro.bool n null::F))) h3:=st5.perm (List.Perm.cons _ (List.perm_middle (l₁:=AQ (ps++qs) s1)).symm)
     refine AJ (N7 (gk.mono ((le'.trans le2).trans le3)) (RY hs) hq ok st6) ?_
     rintro _ h4 ⟨ψ4,le4,rfl,st7⟩
     refine ⟨_,rfl,?_⟩
     have st8:St ψ4 (fsC n null (ps++qs) (s1.set x (BQ s l3)) F) h4:=st7.tail.perm (List.perm_middle (l₁:=AQ (ps++qs) (s1.set x (BQ s l3))))
     cases hgr:Ec s l3
     ·exact AU rfl (AM (z.2.2.1,false,()) rfl ⟨by simp,ψ4,((le'.trans le2).trans le3).trans le4,st8⟩)
     ·exact Ad rfl (AM (true,false,()) rfl ⟨by simp,ψ4,((le'.trans le2).trans le3).trans le4,st8⟩)
    ·rintro y h5 ⟨rfl,ψ5,le5,st9⟩
     exact Al (Aj (AB ⟨ψ5,le5,rfl,by simp [hl1],st9⟩))
   ·obtain ⟨hm,he⟩:=Bo he
    obtain ⟨u,hu,he⟩:=bS he
    obtain ⟨b,hb1,he⟩:=bS he
    unfold SN at hu
    obtain ⟨s,hs,hu⟩:=bS hu
    obtain ⟨o,ho,hu⟩:=bS hu
    obtain ⟨ok,hu⟩:=Bo hu
    obtain rfl:=iS hu
    obtain ⟨y0,y1,y2⟩:=CO ho
    obtain ⟨k,hk⟩: ∃k:Nat,IntKind.wrap .i64 (sym - nT p)=(k:Int):=⟨_,(Int.toNat_of_nonneg y0).symm⟩
    have hkp:k<ps.length:=by omega
    have hpk:ps[k]? =some ps[k] :=List.getElem?_eq_getElem hkp
    rw [hk] at ho hb1
    refine AX (fun (y:Bool×Unit) w (_:Unit)=>y=(Ec s o || z.2.2.1,())∧ ∃ψ,Sub φ ψ∧St ψ (fsC n null (ps++qs) (s1.set x (BQ s o)) F) w) (g:=()) ?_ ?_
    ·refine AG _ rfl ?_
     refine AE (x:=f) ((K.mono le').at st1 (j:=7) rfl) rfl ?_
     refine AJ (Lw (K.mono le') st1 sym) ?_
     rintro _ h2 ⟨rfl,st2⟩
     refine ⟨_,rfl,?_⟩
     refine AK ((K.mono le').at st2 (j:=7) rfl) ?_
     rw [hk]
     obtain ⟨A2,cs2,ea2,hi2,r2,cl2⟩:=((K.mono le').kf).get (i:=(k:Int)) (by rw [EM]; exact hpk)
     refine AG _ ea2 (Aa hi2 ?_)
     obtain rfl:=r2
     refine AE (x:=ps[k]) (AD st2.sub (cl2 0 _ rfl)) rfl ?_
     have st3:St ψ1 (AQ (ps++qs) s1++(cR 4 Ro.bool n null::F)) h2:=st2.perm (List.perm_middle (l₁:=AQ (ps++qs) s1)).symm
     refine AJ (Pa (gk.mono le') (RY hs) (RY ho) hq (O4 hpk) ok st3) ?_
     rintro _ h3 ⟨ψ4,le4,rfl,st4⟩
     refine ⟨_,rfl,?_⟩
     have st8:St ψ4 (fsC n null (ps++qs) (s1.set x (BQ s o)) F) h3:=st4.perm (List.perm_middle (l₁:=AQ (ps++qs) (s1.set x (BQ s o))))
     cases hgr:Ec s o
     ·exact AU rfl (AM (z.2.2.1,()) rfl ⟨by simp,ψ4,le'.trans le4,st8⟩)
     ·exact Ad rfl (AM (true,()) rfl ⟨by simp,ψ4,le'.trans le4,st8⟩)
    ·rintro y h5 ⟨rfl,ψ5,le5,st9⟩
     refine AG _ rfl ?_
     refine AE (x:=n) ((K.mono le5).at st9 (j:=6) rfl) rfl ?_
     refine AJ (Lw (K.mono le5) st9 sym) ?_
     rintro _ h6 ⟨rfl,st10⟩
     refine ⟨_,rfl,?_⟩
     refine AK ((K.mono le5).at st10 (j:=6) rfl) ?_
     rw [hk]
     obtain ⟨A2,cs2,ea2,hi2,r2,cl2⟩:=st10.get hb1
     refine AG _ ea2 (Aa hi2 ?_)
     obtain rfl:=r2
     refine AE (x:=b) (cl2 0 _ rfl) rfl ?_
     cases b
     ·obtain rfl:=iS he
      obtain rfl:=hb _ rfl
      obtain rfl:=iS hd
      refine Ad rfl ?_
      exact Al (Aj (AB ⟨ψ5,le5,rfl,by simp [hl1],st10⟩))
     ·obtain rfl:=iS he
      refine AU rfl ?_
      exact Ac (IntKind.wrap .i64 (z.1+(1:Int)),z.2.1,Ec s o || z.2.2.1,()) _ rfl rfl ⟨ψ5,le5,hw,rfl,by simp [hl1],st10⟩
  ·rintro i z w ⟨gr,s1⟩ ⟨ψ,le,rfl,hg,hl1,st⟩ hge hr
   subst hr
   dsimp only at hg hl1 st
   refine AU (by rw [nk]; exact decide_eq_false (Int.not_lt.2 hge)) ?_
   exact AL (AO z rfl ⟨ψ,s1,le,by rw [hg],hl1,st⟩)
 ·rintro z h1 ⟨ψ,ss',le,rfl,hl1,st⟩
  obtain rfl:=iS hd
  exact AB ⟨ψ,le,rfl,hl1,st⟩
end
section
variable {φ ψ:AC} {h:AF} {F:List Chk} {a:Addr} {t:Slc×Slc×Slc×Slc×Slc×Slc×Unit} {n f g:Slc} {p:dtP} {ps qs:List (Option Addr)}
theorem LL {R:Slc} {rs:List BV} {i:Int} {r:BV} {K:Nat→T} {P:BW→AF→Prop} (k:Ro.SliceIs BS φ R rs) (hr:idx rs i=some r) (st:St φ F h)
 (hk: ∀(r9:Nat) (u:Slc) (h':AF),Ro.SliceIs (Ro.int .i64) φ u r.2.1→St φ (⟨Rep.raw 65, [.pointer (some ⟨r9,0,none⟩)], [.int .i64 r.1,sv u, .int .i64 r.2.2]⟩::F) h'→(K r9).wp Tryz.prog P h'):
 (deref R.1 fun a5=>chk (0≤i∧i< (R.2.1:Nat)) <| T.load (.int .i64) (a5.add (Int.toNat i * 3)) fun (t6:Int)=>T.load .slice ((a5.add (Int.toNat i * 3)).add 1) fun (t7:Slc)=>T.load (.int .i64) ((a5.add (Int.toNat i * 3)).add 2) fun (t8:Int)=>
  T.new (.cells #[(.int .i64 (0:Int)),(.slice none 0 0),(.int .i64 (0:Int))] 65 (0,0)) fun r9=>T.store ⟨r9,0,none⟩ (.int .i64 t6) <| T.store ⟨r9,1,none⟩ (sv t7) <| T.store ⟨r9,2,none⟩ (.int .i64 t8) <| K r9).wp Tryz.prog P h:=by
 obtain ⟨A1,cs1,ea1,hi1,q1,cl1⟩:=k.get hr
 refine AG _ ea1 (Aa hi1 ?_)
 obtain ⟨_,_,rfl,q2,q3⟩:=q1
 obtain rfl:=q2
 obtain ⟨_,_,rfl,q4,q5⟩:=q3
 obtain ⟨u,rfl,ku⟩:=q4
 obtain rfl:=q5
 refine AE (x:=r.1) (AD st.sub (cl1 0 _ rfl)) rfl ?_
 refine AE (x:=u) (by rw [AV]; exact AD st.sub (cl1 1 _ rfl)) rfl ?_
 refine AE (x:=r.2.2) (by rw [AV]; exact AD st.sub (cl1 2 _ rfl)) rfl ?_
 refine AR (vs:= [.int .i64 0, .slice none 0 0, .int .i64 0]) st ?_
 intro r9 h1 s1
 refine CA (b:=r9) (j:=0) (v:= .int .i64 r.1) s1 rfl (by simp) ?_
 intro h2 s2
 refine CA (b:=r9) (j:=1) (v:=sv u) s2 rfl (by simp) ?_
 intro h3 s3
 refine CA (b:=r9) (j:=2) (v:= .int .i64 r.2.2) s3 rfl (by simp) ?_
 intro h4 s4
 exact hk r9 u h4 ku s4
set_option maxHeartbeats 1000000 in
theorem QL (gk:Dg.Glob φ) (K:FsK φ a t n f g p ps qs) {null:List Bool} {ss:List Af} (hl:(ps++qs).length=ss.length) {r:Bool×List Bool×List Af}
 (hd:M9 p ((ps.length:Nat):Int) null ss=some r) (s0:St φ (fsC n null (ps++qs) ss F) h):
 CallsH Tryz.prog 133 [.pointer (some a)] h (Ai fun v h'=> ∃ψ:AC,Sub φ ψ∧v=((.one aB):Sh).val r.1∧r.2.2.length=ss.length∧St ψ (fsC n r.2.1 (ps++qs) r.2.2 F) h'):=by
 refine AN mixed Tryz.func133 ?_
 rw [Io]
 unfold F9
 unfold M9 at hd
 refine AG _ rfl ?_
 refine AE (x:=t.2.2.1) (K.at s0 (j:=2) rfl) rfl ?_
 have nk:=K.pl.k2.length
 refine AS (fun (y:Int×Bool×Unit) w g=> ∃(ψ:AC),Sub φ ψ∧y.2.1=g.1∧g.2.2.length=ss.length∧St ψ (fsC n g.2.1 (ps++qs) g.2.2 F) w) (g:=r) ?_ ?_
 ·refine Ax hd (fun i (y:Int×Bool×Unit) w g=>y.1=i∧ ∃(ψ:AC),Sub φ ψ∧y.2.1=g.1∧g.2.2.length=ss.length∧St ψ (fsC n g.2.1 (ps++qs) g.2.2 F) w) ((0:Int),false,()) rfl ⟨rfl,φ,Sub.refl _,rfl,rfl,s0⟩ ?_ ?_
  ·rintro i z w ⟨gr,nu,s1⟩ e ⟨rfl,ψ,le,hg,hl1,st⟩ he h0 hlt hw
   dsimp only at hg hl1 st he
   subst hg
   refine Ad (by rw [nk]; exact decide_eq_true hlt) ?_
   obtain ⟨ru,hr1,he⟩:=bS he
   obtain ⟨hm,he⟩:=Bo he
   obtain ⟨gg,hg1,he⟩:=bS he
   obtain ⟨b,hb1,he⟩:=bS he
   obtain ⟨nu',hn1,he⟩:=bS he
   obtain rfl:=iS he
   obtain ⟨k,hk⟩: ∃k:Nat,IntKind.wrap .i64 (ru.1 - nT p)=(k:Int):=⟨_,(Int.toNat_of_nonneg hm.1).symm⟩
   rw [hk] at hm hg1 hb1 hn1
   have hkp:k<ps.length:=by omega
   have hpk:ps[k]? =some ps[k] :=List.getElem?_eq_getElem hkp
   refine LL (K.pl.k2.mono le) hr1 st ?_
   intro r9 u h1 ku st1
   refine AA (b:=r9) (j:=0) (x:=ru.1) st1 rfl ?_
   refine AJ (Lw (K.mono le) st1 ru.1) ?_
   rintro _ h2 ⟨rfl,st2⟩
   refine ⟨_,rfl,?_⟩
   rw [hk]
   refine AA (b:=r9) (j:=1) (x:=u) st2 rfl ?_
   refine AG _ rfl ?_
   refine AE (x:=f) ((K.mono le).at st2 (j:=7) rfl) rfl ?_
   obtain ⟨A2,cs2,ea2,hi2,r2,cl2⟩:=((K.mono le).kf).get (i:=(k:Int)) (by rw [EM]; exact hpk)
   refine AG _ ea2 (Aa hi2 ?_)
   obtain rfl:=r2
   refine AE (x:=ps[k]) (AD st2.sub (cl2 0 _ rfl)) rfl ?_
   refine AJ (Lx (gk.mono le) (K.mono le) ku (O4 hpk) (hl.trans hl1.symm) hg1 st2.tail) ?_
   rintro _ h3 ⟨ψ3,le3,rfl,hl3,st3⟩
   refine ⟨_,rfl,?_⟩
   have le':=le.trans le3
   refine AX (fun (y:Bool×Unit) w (_:Unit)=>y=(z.2.1 || gg.1 || (gg.2.1 && !b),())∧St ψ3 (fsC n nu (ps++qs) gg.2.2 F) w) (g:=()) ?_ ?_
   ·cases hz:z.2.1
    ·refine AU rfl ?_
     cases hgg:gg.1
     ·refine AU (by dsimp only) ?_
      cases hgn:gg.2.1
      ·refine AU (by dsimp only) ?_
       exact AM (false,()) rfl ⟨by simp,st3⟩
      ·refine Ad (by dsimp only) ?_
       refine AG _ rfl ?_
       refine AE (x:=n) ((K.mono le').at st3 (j:=6) rfl) rfl ?_
       obtain ⟨A3,cs3,ea3,hi3,r3,cl3⟩:=st3.get hb1
       refine AG _ ea3 (Aa hi3 ?_)
       obtain rfl:=r3
       refine AE (x:=b) (cl3 0 _ rfl) rfl ?_
       exact AM (!b,()) rfl ⟨by simp,st3⟩
     ·refine Ad (by dsimp only) ?_
      exact AM (true,()) rfl ⟨by simp,st3⟩
    ·refine Ad rfl ?_
     exact AM (true,()) rfl ⟨by simp,st3⟩
   ·rintro y h4 ⟨rfl,st4⟩
    refine AX (fun (y:Unit) w (_:Unit)=>St ψ3 (fsC n nu' (ps++qs) gg.2.2 F) w) (g:=()) ?_ ?_
    ·refine AG _ rfl ?_
     refine AE (x:=n) ((K.mono le').at st4 (j:=6) rfl) rfl ?_
     refine AG _ rfl ?_
     refine AE (x:=n) ((K.mono le').at st4 (j:=6) rfl) rfl ?_
     obtain ⟨A3,cs3,ea3,hi3,r3,cl3⟩:=st4.get hb1
     refine AG _ ea3 (Aa hi3 ?_)
     obtain rfl:=r3
     refine AE (x:=b) (cl3 0 _ rfl) rfl ?_
     obtain ⟨A4,ea4,q4⟩:=st4.there hn1
     cases b
     ·refine AU rfl ?_
      refine AG _ ea4 (Aa q4 (Ho st4 hn1 rfl ea4 ?_))
      intro h5 st5
      exact AM () rfl st5
     ·refine Ad rfl ?_
      refine AG _ ea4 (Aa q4 (Ho st4 hn1 rfl ea4 ?_))
      intro h5 st5
      exact AM () rfl st5
    ·rintro _ h5 st5
     exact Ac (IntKind.wrap .i64 (z.1+(1:Int)),z.2.1 || gg.1 || (gg.2.1 && !b),()) _ rfl rfl ⟨hw,ψ3,le',rfl,hl3.trans hl1,st5⟩
  ·rintro i z w ⟨rfl,H⟩ hge
   refine AU (by rw [nk]; exact decide_eq_false (Int.not_lt.2 hge)) ?_
   exact AL (AO z rfl H)
 ·rintro z h1 ⟨ψ,le,hg,hl1,st⟩
  exact AB ⟨ψ,le,by rw [hg]; rfl,hl1,st⟩
theorem Og {u:Slc} {l:List Int} {lo:Int} (k:Ro.SliceIs (Ro.int .i64) φ u l) (h0:0≤lo) (h1:lo≤(l.length:Int)):cut l lo ((u.2.1:Nat):Int)=some (l.drop lo.toNat):=by
 have hlen:=k.length
 unfold cut
 rw [if_pos ⟨by omega,by omega,by omega⟩,Int.toNat_natCast,hlen,List.take_length]
theorem KW {ps qs:List (Option Addr)} {k:Nat} {q:Option Addr} (h:qs[k]? =some q):(ps++qs)[ps.length+k]? =some q:=by
 rw [List.getElem?_append_right (by omega),Nat.add_sub_cancel_left]; exact h
set_option maxHeartbeats 2000000 in
theorem O5 (gk:Dg.Glob φ) (K:FsK φ a t n f g p ps qs) (hpq:qs.length=ps.length) {null:List Bool} {ss:List Af} (hl:(ps++qs).length=ss.length) {r:Bool×List Af}
 (hd:LK p ((ps.length:Nat):Int) null ss=some r) (s0:St φ (fsC n null (ps++qs) ss F) h):
 CallsH Tryz.prog 135 [.pointer (some a)] h (Ai fun v h'=> ∃ψ:AC,Sub φ ψ∧v=((.one aB):Sh).val r.1∧r.2.length=ss.length∧St ψ (fsC n null (ps++qs) r.2 F) h'):=by
 refine AN mixed Tryz.func135 ?_
 rw [H5]
 unfold FT
 unfold LK at hd
 refine AG _ rfl ?_
 refine AE (x:=t.2.2.1) (K.at s0 (j:=2) rfl) rfl ?_
 have nk:=K.pl.k2.length
 refine AS (fun (y:Int×Bool×Unit) w g=> ∃(ψ:AC),Sub φ ψ∧y.2.1=g.1∧g.2.length=ss.length∧St ψ (fsC n null (ps++qs) g.2 F) w) (g:=r) ?_ ?_
 ·refine Ax hd (fun i (y:Int×Bool×Unit) w g=>y.1=i∧ ∃(ψ:AC),Sub φ ψ∧y.2.1=g.1∧g.2.length=ss.length∧St ψ (fsC n null (ps++qs) g.2 F) w) ((0:Int),false,()) rfl ⟨rfl,φ,Sub.refl _,rfl,rfl,s0⟩ ?_ ?_
  ·rintro i z w ⟨gr,s1⟩ e ⟨rfl,ψ,le,hg,hl1,st⟩ he h0 hlt hw
   dsimp only at hg hl1 st he
   subst hg
   refine Ad (by rw [nk]; exact decide_eq_true hlt) ?_
   obtain ⟨ru,hr1,he⟩:=bS he
   refine LL (K.pl.k2.mono le) hr1 st ?_
   intro r9 u h1 ku st1
   refine AA (b:=r9) (j:=1) (x:=u) st1 rfl ?_
   have nu:=ku.length
   obtain ⟨G,hG⟩: ∃G:List Chk,G=⟨Rep.raw 65, [.pointer (some ⟨r9,0,none⟩)], [.int .i64 ru.1,sv u, .int .i64 ru.2.2]⟩::F:=⟨_,rfl⟩
   have st2:St ψ (fsC n null (ps++qs) s1 G) h1:=by
    rw [hG]
    exact st1.perm ((List.Perm.swap _ _ _).trans (List.Perm.cons _ (List.perm_middle (l₁:=AQ (ps++qs) s1)).symm))
   have raw: ∀ {ψ':AC} {s':List Af} {h':AF},St ψ' (fsC n null (ps++qs) s' G) h'→St ψ' (⟨Rep.raw 65, [.pointer (some ⟨r9,0,none⟩)], [.int .i64 ru.1,sv u, .int .i64 ru.2.2]⟩::fsC n null (ps++qs) s' F) h':=fun {ψ' s' h'} H=>by
    rw [hG] at H
    exact H.perm ((List.Perm.cons _ (List.perm_middle (l₁:=AQ (ps++qs) s'))).trans (List.Perm.swap _ _ _))
   refine AS (fun (y:Int×Bool×Unit) w g=> ∃(ψ:AC),Sub φ ψ∧y.2.1=g.1∧g.2.length=ss.length∧St ψ (fsC n null (ps++qs) g.2 G) w) (g:=e) ?_ ?_
   ·refine Ax he (fun i (y:Int×Bool×Unit) w g=>y.1=i∧ ∃(ψ':AC),Sub ψ ψ'∧y.2.1=g.1∧g.2.length=ss.length∧St ψ' (fsC n null (ps++qs) g.2 G) w) ((0:Int),z.2.1,()) rfl ⟨rfl,ψ,Sub.refl _,rfl,hl1,st2⟩ ?_ ?_
    ·rintro i2 z2 w2 ⟨gr2,s2⟩ e2 ⟨rfl,ψ2,le2,hg2,hl2,st3⟩ he2 h02 hlt2 hw2
     dsimp only at hg2 hl2 st3 he2
     subst hg2
     have le02:=le.trans le2
     refine Ad (by rw [nu]; exact decide_eq_true hlt2) ?_
     obtain ⟨sym,hs1,he2⟩:=bS he2
     obtain ⟨tm,ht1,he2⟩:=bS he2
     refine AS (fun (y:Bool×Unit) w (_:Unit)=> ∃(ψ':AC),Sub ψ ψ'∧y.1=e2.1∧e2.2.length=ss.length∧St ψ' (fsC n null (ps++qs) e2.2 G) w) (g:=()) ?_ ?_
     ·obtain ⟨A1,cs1,ea1,hi1,r1,cl1⟩:=(ku.mono le2).get hs1
      refine AG _ ea1 (Aa hi1 ?_)
      obtain rfl:=r1
      refine AE (x:=sym) (AD st3.sub (cl1 0 _ rfl)) rfl ?_
      refine AG _ rfl (NC ((K.mono le02).pv st3) (K.mono le02).pl st3 ht1 ?_)
      intro ψ3 h3 le3 st4
      have le03:=le02.trans le3
      refine AI he2 rfl (fun _ he2=> ?_) (fun _ he2=> ?_)
      ·obtain rfl:=iS he2
       exact Ob (z2.2.1,()) rfl ⟨ψ3,le2.trans le3,rfl,hl2,st4⟩
      ·obtain ⟨hm,he2⟩:=Bo he2
       obtain ⟨gg,hg1,he2⟩:=bS he2
       obtain ⟨hh,hh1,he2⟩:=bS he2
       obtain rfl:=iS he2
       obtain ⟨k,hk⟩: ∃k:Nat,IntKind.wrap .i64 (sym - nT p)=(k:Int):=⟨_,(Int.toNat_of_nonneg hm.1).symm⟩
       have hx:((ps.length:Nat):Int) +(k:Int)=((ps.length+k:Nat):Int):=by omega
       rw [hk,hx] at hg1 hh1
       rw [hk] at hm
       have hkp:k<qs.length:=by omega
       have hpk:qs[k]? =some qs[k] :=List.getElem?_eq_getElem hkp
       refine AG _ rfl ?_
       refine AE (x:=g) ((K.mono le03).at st4 (j:=8) rfl) rfl ?_
       refine AJ (Lw (K.mono le03) st4 sym) ?_
       rintro _ h4 ⟨rfl,st5⟩
       refine ⟨_,rfl,?_⟩
       refine AK ((K.mono le03).at st5 (j:=8) rfl) ?_
       rw [hk]
       obtain ⟨A2,cs2,ea2,hi2,r2,cl2⟩:=((K.mono le03).kg).get (i:=(k:Int)) (by rw [EM]; exact hpk)
       refine AG _ ea2 (Aa hi2 ?_)
       obtain rfl:=r2
       refine AE (x:=qs[k]) (AD st5.sub (cl2 0 _ rfl)) rfl ?_
       refine AA (b:=r9) (j:=1) (x:=u) (raw st5) rfl ?_
       obtain ⟨q1,kt⟩:=(ku.mono (le2.trans le3)).cut (Og (ku.mono (le2.trans le3)) (lo:=IntKind.wrap .i64 (z2.1+1)) (by rw [hw2]; omega) (by rw [hw2]; omega)) (sz:=1) rfl
       refine Aa q1 ?_
       rw [← hw2] at hg1
       refine AJ (Lx (gk.mono le03) (K.mono le03) kt (KW hpk) (hl.trans hl2.symm) hg1 st5) ?_
       rintro _ h5 ⟨ψ5,le5,rfl,hl5,st6⟩
       refine ⟨_,rfl,?_⟩
       have le05:=le03.trans le5
       refine AX (fun (y:Bool×Unit) w (_:Unit)=>y=(hh.1,())∧hh.2.length=ss.length∧ ∃ψ',Sub ψ ψ'∧St ψ' (fsC n null (ps++qs) hh.2 G) w) (g:=()) ?_ ?_
       ·refine AI hh1 rfl (fun _ hh1=> ?_) (fun _ hh1=> ?_)
        ·obtain ⟨hm2,hh1⟩:=Bo hh1
         obtain ⟨uu,hu,hh1⟩:=bS hh1
         obtain rfl:=iS hh1
         obtain ⟨k2,hk2⟩: ∃k:Nat,IntKind.wrap .i64 (ru.1 - nT p)=(k:Int):=⟨_,(Int.toNat_of_nonneg hm2.1).symm⟩
         have hx2:((ps.length:Nat):Int) +(k2:Int)=((ps.length+k2:Nat):Int):=by omega
         rw [hk2,hx2] at hu
         rw [hk2] at hm2
         have hkp2:k2<qs.length:=by omega
         have hpk2:qs[k2]? =some qs[k2] :=List.getElem?_eq_getElem hkp2
         unfold SN at hu
         obtain ⟨s,hs,hu⟩:=bS hu
         obtain ⟨o,ho,hu⟩:=bS hu
         obtain ⟨ok,hu⟩:=Bo hu
         obtain rfl:=iS hu
         refine AX (fun (y:Bool×Unit) w (_:Unit)=>y=(Ec s o || gg.1,())∧ ∃ψ',Sub ψ ψ'∧St ψ' (fsC n null (ps++qs) (gg.2.2.set (ps.length+k) (BQ s o)) G) w) (g:=()) ?_ ?_
         ·refine AG _ rfl ?_
          refine AE (x:=g) ((K.mono le05).at st6 (j:=8) rfl) rfl ?_
          refine AA (b:=r9) (j:=0) (x:=ru.1) (raw st6) rfl ?_
          refine AJ (Lw (K.mono le05) st6 ru.1) ?_
          rintro _ h7 ⟨rfl,st7⟩
          refine ⟨_,rfl,?_⟩
          refine AK ((K.mono le05).at st7 (j:=8) rfl) ?_
          rw [hk2]
          obtain ⟨A3,cs3,ea3,hi3,r3,cl3⟩:=((K.mono le05).kg).get (i:=(k2:Int)) (by rw [EM]; exact hpk2)
          refine AG _ ea3 (Aa hi3 ?_)
          obtain rfl:=r3
          refine AE (x:=qs[k2]) (AD st7.sub (cl3 0 _ rfl)) rfl ?_
          have st8:St ψ5 (AQ (ps++qs) gg.2.2++(cR 4 Ro.bool n null::G)) h7:=st7.perm (List.perm_middle (l₁:=AQ (ps++qs) gg.2.2)).symm
          refine AJ (Pa (gk.mono le05) (RY hs) (RY ho) (KW hpk) (KW hpk2) ok st8) ?_
          rintro _ h8 ⟨ψ8,le8,rfl,st9⟩
          refine ⟨_,rfl,?_⟩
          have st10:St ψ8 (fsC n null (ps++qs) (gg.2.2.set (ps.length+k) (BQ s o)) G) h8:=st9.perm (List.perm_middle (l₁:=AQ (ps++qs) (gg.2.2.set (ps.length+k) (BQ s o))))
          have le8':=((le2.trans le3).trans le5).trans le8
          cases hgr:Ec s o
          ·exact AU rfl (AM (gg.1,()) rfl ⟨by simp,ψ8,le8',st10⟩)
          ·exact Ad rfl (AM (true,()) rfl ⟨by simp,ψ8,le8',st10⟩)
         ·rintro y h9 ⟨rfl,ψ9,le9,st11⟩
          refine AM (Ec s o || gg.1,()) rfl ⟨rfl,by simp [hl5,hl2],ψ9,le9,?_⟩
          rw [Int.toNat_natCast]
          exact st11
        ·obtain rfl:=iS hh1
         exact AM (gg.1,()) rfl ⟨rfl,by rw [hl5,hl2],ψ5,(le2.trans le3).trans le5,st6⟩
       ·rintro y h9 ⟨rfl,hl9,ψ9,le9,st11⟩
        refine AX (fun (y:Bool×Unit) w (_:Unit)=>y=(z2.2.1 || hh.1,())∧St ψ9 (fsC n null (ps++qs) hh.2 G) w) (g:=()) ?_ ?_
        ·cases hz:z2.2.1
         ·exact AU rfl (AM (hh.1,()) rfl ⟨by simp,st11⟩)
         ·exact Ad rfl (AM (true,()) rfl ⟨by simp,st11⟩)
        ·rintro y h10 ⟨rfl,st12⟩
         exact LV (z2.2.1 || hh.1,()) rfl ⟨ψ9,le9,rfl,hl9,st12⟩
     ·rintro y h10 ⟨ψ10,le10,hy,hl10,st12⟩
      exact Ac (IntKind.wrap .i64 (z2.1+(1:Int)),y.1,()) _ rfl rfl ⟨hw2,ψ10,le10,hy,hl10,st12⟩
    ·rintro i2 z2 w2 ⟨rfl,ψ2,le2,H⟩ hge
     refine AU (by rw [nu]; exact decide_eq_false (Int.not_lt.2 hge)) ?_
     exact AL (AO z2 rfl ⟨ψ2,le.trans le2,H⟩)
   ·rintro y h10 ⟨ψ10,le10,hy,hl10,st12⟩
    exact Ac (IntKind.wrap .i64 (z.1+(1:Int)),y.2.1,()) _ rfl rfl ⟨hw,ψ10,le10,hy,hl10,(raw st12).tail⟩
  ·rintro i z w ⟨rfl,H⟩ hge
   refine AU (by rw [nk]; exact decide_eq_false (Int.not_lt.2 hge)) ?_
   exact AL (AO z rfl H)
 ·rintro z h1 ⟨ψ,le,hg,hl1,st⟩
  exact AB ⟨ψ,le,by rw [hg]; rfl,hl1,st⟩
end
section
variable {φ ψ:AC} {h:AF} {F:List Chk} {t:Slc×Slc×Slc×Slc×Slc×Slc×Unit} {p:dtP}
theorem St.blk {ty:TypeId} {b:Nat} {vs:List Value} (H:St φ (⟨Rep.raw ty, [.pointer (some ⟨b,0,none⟩)],vs⟩::F) h): ∃ψ,Sub φ ψ∧Cf ψ (some ⟨b,0,none⟩) vs∧St ψ F h:=by
 obtain ⟨ψ,G,le,⟨b',e,hb,hF⟩,hk,s⟩:=St.hide H
 cases e
 refine ⟨ψ,le,fun i v hv=>⟨_,rfl,?_⟩,s⟩
 have:=hk b ((hF b).2 rfl)
 rw [DY]
 unfold DF
 dsimp only
 rw [this,hb]
 dsimp only
 rw [Nat.zero_add]
 simp [hv]
theorem St.drop: ∀(L:List Chk) {M:List Chk} {φ:AC} {h:AF},St φ (L++M) h→St φ M h
 | [],_,_,_,H=>H
 | _::L,_,_,_,H=>St.drop L H.tail
theorem It {b:Nat} {K:Slc→Slc→Slc→Slc→Slc→Slc→T} {P:BW→AF→Prop} (hc: ∀j v,(plV t)[j]? =some v→Az h ⟨b,j,none⟩=some v) (H:(K t.1 t.2.1 t.2.2.1 t.2.2.2.1 t.2.2.2.2.1 t.2.2.2.2.2.1).wp Tryz.prog P h):
 (T.load .slice ⟨b,0,none⟩ fun (t3:Slc)=>T.load .slice ⟨b,1,none⟩ fun (t4:Slc)=>T.load .slice ⟨b,2,none⟩ fun (t5:Slc)=>T.load .slice ⟨b,3,none⟩ fun (t6:Slc)=>T.load .slice ⟨b,4,none⟩ fun (t7:Slc)=>T.load .slice ⟨b,5,none⟩ fun (t8:Slc)=>K t3 t4 t5 t6 t7 t8).wp Tryz.prog P h:=by
 refine AE (x:=t.1) (hc 0 _ rfl) rfl ?_
 refine AE (x:=t.2.1) (hc 1 _ rfl) rfl ?_
 refine AE (x:=t.2.2.1) (hc 2 _ rfl) rfl ?_
 refine AE (x:=t.2.2.2.1) (hc 3 _ rfl) rfl ?_
 refine AE (x:=t.2.2.2.2.1) (hc 4 _ rfl) rfl ?_
 exact AE (x:=t.2.2.2.2.2.1) (hc 5 _ rfl) rfl H
theorem G9 (k:PlK φ t p) (s0:St φ F h) {r:List Af} (hd:NA p=some r):
 CallsH Tryz.prog 132 [.agg #[sv t.1,sv t.2.1,sv t.2.2.1,sv t.2.2.2.1,sv t.2.2.2.2.1,sv t.2.2.2.2.2.1]] h
  (Ai fun v h'=> ∃(ψ:AC) (y:Slc) (ps:List (Option Addr)),Sub φ ψ∧v=((.one aS):Sh).val y∧ps.length=r.length∧St ψ (D8 y ps::(AQ ps r++F)) h'):=by
 refine AN mixed Tryz.func132 ?_
 rw [LD]
 unfold JY
 unfold NA at hd
 refine AR (vs:=plV t) s0 ?_
 intro r1 h1 s1
 obtain ⟨φ1,le1,cB,s1⟩:=St.blk s1
 refine AE (x:=t.2.1) (AD s1.sub (cB.at 1 rfl)) rfl ?_
 have n1:t.2.1.2.1=p.2.1.length:=k.k1.length
 have n0:t.1.2.1=p.1.length:=k.k0.length
 refine AS (fun (z:Int×Slc×Unit) w g=> ∃(ψ:AC) (ps:List (Option Addr)),Sub φ ψ∧ps.length=g.length∧St ψ (D8 z.2.1 ps::(AQ ps g++F)) w) (g:=r) ?_ ?_
 ·refine Ax hd (fun i (z:Int×Slc×Unit) w g=>z.1=i∧ ∃(ψ:AC) (ps:List (Option Addr)),Sub φ1 ψ∧ps.length=g.length∧St ψ (D8 z.2.1 ps::(AQ ps g++F)) w) ((0:Int),((none,0,0):Slc),()) rfl ⟨rfl,φ1, [],Sub.refl _,rfl,St.nil _ _ s1⟩ ?_ ?_
  ·rintro i z w g e ⟨hz,ψ,ps,le,hl,st⟩ he h0 hlt hw
   subst hz
   refine Ad (by rw [n1]; exact decide_eq_true hlt) ?_
   obtain ⟨s,hs1,he⟩:=bS he
   refine AE (x:=t.1) (AD st.sub ((cB.mono le).at 0 rfl)) rfl ?_
   rw [n0]
   refine AJ (DN st hs1) ?_
   rintro _ h2 ⟨ψ1,q,l3,le2,rfl,rfl,st1⟩
   refine ⟨q,rfl,?_⟩
   refine AR (vs:= [.pointer q]) st1 ?_
   intro r6 h3 st2
   have cw:=St.cells st2
   obtain ⟨hap,rfl⟩:=KR he hl q
   refine Ab (r:=Ro.pt) (ms:= [q]) MZ (st2.tail.at1) rfl cw (.cons (a:= [_]) rfl .nil) rfl hap ?_
   intro t7 h4 st3
   exact Ac (IntKind.wrap .i64 (z.1+(1:Int)),t7,()) _ rfl rfl ⟨hw,ψ1,ps++ [q],le.trans le2,by simp [hl],Lo hl st3⟩
  ·rintro i z w ⟨hz,ψ,ps,le,H⟩ hge
   subst hz
   refine AU (by rw [n1]; exact decide_eq_false (Int.not_lt.2 hge)) ?_
   exact AL (AO z rfl ⟨ψ,ps,le1.trans le,H⟩)
 ·rintro z h2 ⟨ψ,ps,le,hl,st⟩
  exact AB ⟨ψ,z.2.1,ps,le,rfl,hl,st⟩
theorem Md (gk:Dg.Glob φ) {l:Slc} {ws pp:List (Option Addr)} {ss ss':List Af} {off:Nat} (kl:Ro.SliceIs Ro.pt φ l ws) (hw: ∀(i:Nat) q,ws[i]? =some q→pp[off+i]? =some q) (hs': ∀(i:Nat) s,ss'[i]? =some s→ss[off+i]? =some s) (hl:ws.length=ss'.length) (s0:St φ (AQ pp ss++F) h) {r:List (List Int)} (hd:Kp ss'=some r):
 CallsH Tryz.prog 136 [sv l] h (Ai fun v h'=> ∃(ψ:AC) (y:Slc),Sub φ ψ∧v=((.one aS):Sh).val y∧Ro.SliceIs (Ro.list (Ro.int .i64)) ψ y r∧St ψ (AQ pp ss++F) h'):=by
 refine AN mixed Tryz.func136 ?_
 rw [LE]
 unfold JZ
 unfold Kp at hd
 have nl:l.2.1=ss'.length:=kl.length.trans hl
 refine AS (fun (z:Int×Slc×Unit) w (g:List (List Int))=> ∃(ψ:AC),Sub φ ψ∧St ψ (Oz z.2.1 g::(AQ pp ss++F)) w) (g:=r) ?_ ?_
 ·refine Ax hd (fun i (z:Int×Slc×Unit) w (g:List (List Int))=>z.1=i∧ ∃(ψ:AC),Sub φ ψ∧St ψ (Oz z.2.1 g::(AQ pp ss++F)) w) ((0:Int),((none,0,0):Slc),()) rfl ⟨rfl,φ,Sub.refl _,St.nil _ _ s0⟩ ?_ ?_
  ·rintro i z w g e ⟨hz,ψ,le,st⟩ he h0 hlt hw2
   subst hz
   refine Ad (by rw [nl]; exact decide_eq_true hlt) ?_
   obtain ⟨s,hs,he⟩:=bS he
   obtain ⟨li,hli,he⟩:=bS he
   obtain ⟨i0,i1,i2⟩:=CO hs
   have hlt2:z.1.toNat<ws.length:=by omega
   have hp:=List.getElem?_eq_getElem hlt2
   obtain ⟨A1,cs1,ea1,hi1,r1,cl1⟩:=(kl.mono le).get (LI i0 hlt2)
   refine AG _ ea1 (Aa hi1 ?_)
   obtain rfl:=r1
   refine AE (x:=ws[z.1.toNat]) (AD st.sub (cl1 0 _ rfl)) rfl ?_
   have st1:St ψ (AQ pp ss++(Oz z.2.1 g::F)) w:=st.perm (List.perm_middle (l₁:=AQ pp ss)).symm
   obtain ⟨rr,q1,q2⟩:=F7 (hw _ _ hp) (hs' _ _ i2) st1
   refine AJ (KS (gk.mono le) q1 hli) ?_
   rintro _ h2 ⟨ψ2,y,le2,rfl,k2,st2⟩
   refine ⟨y,rfl,?_⟩
   have st3:=q2 ψ2 h2 [] st2
   have st4:St ψ2 (Oz z.2.1 g::(AQ pp ss++F)) h2:=st3.perm (List.perm_middle (l₁:=AQ pp ss))
   refine AR (vs:= [sv y]) st4 ?_
   intro r6 h3 st5
   have cw:=St.cells st5
   refine Ab (r:=Ro.list (Ro.int .i64)) (ms:= [li]) PY st5.tail rfl cw (.cons (a:= [_]) ⟨y,rfl,k2⟩ .nil) rfl he ?_
   intro t7 h4 st6
   exact Ac (IntKind.wrap .i64 (z.1+(1:Int)),t7,()) _ rfl rfl ⟨hw2,ψ2,le.trans le2,st6⟩
  ·rintro i z w ⟨hz,H⟩ hge
   subst hz
   refine AU (by rw [nl]; exact decide_eq_false (Int.not_lt.2 hge)) ?_
   exact AL (AO z rfl H)
 ·rintro z h2 ⟨ψ,le,st⟩
  obtain ⟨ψ2,le2,k2,st2⟩:=st.freezeRow
  exact AB ⟨ψ2,z.2.1,le.trans le2,rfl,k2,st2⟩
end
noncomputable def O6 (r1 r2 r25:Nat):T:=
 T.block 0 [aI]
 (T.loop [aI] [(.int .i64 (1:Int))] fun (z27:Int×Unit)=>
 T.call 133 [(.pointer (some ⟨r25,0,none⟩))] (.one aB) fun (t28:Bool)=>
 cond t28
 (T.out [(.int .i64 (IntKind.wrap .i64 (z27.1+(1:Int))))])
 (T.brk 0 [(.int .i64 z27.1)])) fun (z26:Int×Unit)=>
 T.load .slice ⟨r25,8,none⟩ fun (t29:Slc)=>
 T.load .slice ⟨r1,1,none⟩ fun (t30:Slc)=>
 deref t29.1 fun a31=>
 chk (0≤((t30.2.1:Nat):Int)∧((t30.2.1:Nat):Int) < (t29.2.1:Nat)) <|
 T.load .pointer (a31.add (Int.toNat ((t30.2.1:Nat):Int) * 1)) fun (t32:Option Addr)=>
 T.call 134 [(.pointer t32),(.int .i64 (0:Int))] (.one aB) fun (t33:Bool)=>
 T.block 2 []
 (T.loop [] [] fun (z35:Unit)=>
 T.call 135 [(.pointer (some ⟨r25,0,none⟩))] (.one aB) fun (t36:Bool)=>
 cond t36
 (T.out [])
 (T.brk 2 [])) fun (z34:Unit)=>
 T.load .slice ⟨r25,6,none⟩ fun (t37:Slc)=>
 T.load .slice ⟨r25,7,none⟩ fun (t38:Slc)=>
 T.load .slice ⟨r25,8,none⟩ fun (t39:Slc)=>
 T.call 136 [(sv t38)] (.one aS) fun (t40:Slc)=>
 T.still ⟨r25,8,none⟩ (sv t39) <|
 T.still ⟨r25,6,none⟩ (sv t37) <|
 T.call 136 [(sv t39)] (.one aS) fun (t41:Slc)=>
 T.still ⟨r25,6,none⟩ (sv t37) <|
 T.store ⟨r2,0,none⟩ (sv t37) <|
 T.store ⟨r2,1,none⟩ (sv t40) <|
 T.store ⟨r2,2,none⟩ (sv t41) <|
 T.store ⟨r2,3,none⟩ (.int .i64 z26.1) <|
 T.load .slice ⟨r2,0,none⟩ fun (res42:Slc)=>
 T.load .slice ⟨r2,1,none⟩ fun (res43:Slc)=>
 T.load .slice ⟨r2,2,none⟩ fun (res44:Slc)=>
 T.load (.int .i64) ⟨r2,3,none⟩ fun (res45:Int)=>
 T.ret (.agg #[(sv res42),(sv res43),(sv res44),(.int .i64 res45)])
abbrev O7 (φ:AC) (F:List Chk) (r:dtF):Value→AF→Prop:=fun v h'=> ∃(ψ:AC) (y:Slc×Slc×Slc×Int×Unit),Sub φ ψ∧v=((.one (.agg [.slice, .slice, .slice, .int .i64])):Sh).val y∧
 Ro.SliceIs Ro.bool ψ y.1 r.1∧Ro.SliceIs (Ro.list (Ro.int .i64)) ψ y.2.1 r.2.1∧Ro.SliceIs (Ro.list (Ro.int .i64)) ψ y.2.2.1 r.2.2.1∧y.2.2.2.1=r.2.2.2∧St ψ F h'
noncomputable def I7 (p:dtP) (m:Nat) (null:List Bool) (ss:List Af):Option dtF:=
 (loop (σ:=Int×List Bool×List Af) (β:=Int×List Bool×List Af) (1,null,ss) fun z=>
  (M9 p ((m:Nat):Int) z.2.1 z.2.2).bind fun r=>cond r.1 (some (.next (IntKind.wrap .i64 (z.1+1),r.2))) (some (.done (z.1,r.2)))).bind fun z=>
 (idx (z.2.2.drop m) ((p.2.1.length:Nat):Int)).bind fun s=>(Ak s 0).bind fun a=>
 (loop (σ:=List Af) (β:=List Af) (z.2.2.set (m+p.2.1.length) a.2) fun ss=>
  (LK p ((m:Nat):Int) z.2.1 ss).bind fun r=>cond r.1 (some (.next r.2)) (some (.done r.2))).bind fun ss=>
 (Kp (ss.take m)).bind fun a=>(Kp (ss.drop m)).bind fun b=>some (z.2.1,a,b,z.1)
section
variable {φ φ0 ψ:AC} {h:AF} {F:List Chk} {t:Slc×Slc×Slc×Slc×Slc×Slc×Unit} {n f g:Slc} {p:dtP} {ps qs:List (Option Addr)}
set_option maxHeartbeats 2000000 in
theorem SO (gk:Dg.Glob φ) (le0:Sub φ0 φ) {r1 r2 r25:Nat} (cB:Cf φ (some ⟨r1,0,none⟩) (plV t)) (K:FsK φ ⟨r25,0,none⟩ t n f g p ps qs) (hpq:qs.length=ps.length) {null:List Bool} {ss:List Af} (hl:(ps++qs).length=ss.length) {r:dtF} (hd:I7 p ps.length null ss=some r)
 (s0:St φ (fsC n null (ps++qs) ss (⟨Rep.raw 133, [.pointer (some ⟨r2,0,none⟩)], [.slice none 0 0, .slice none 0 0, .slice none 0 0, .int .i64 0]⟩::F)) h):(O6 r1 r2 r25).wp Tryz.prog (LT (Ai (O7 φ0 F r))) h:=by
 unfold O6
 unfold I7 at hd
 obtain ⟨z,hz,hd⟩:=bS hd
 obtain ⟨s,hs,hd⟩:=bS hd
 obtain ⟨a,ha,hd⟩:=bS hd
 obtain ⟨sf,hsf,hd⟩:=bS hd
 obtain ⟨la,hla,hd⟩:=bS hd
 obtain ⟨lb,hlb,hd⟩:=bS hd
 obtain rfl:=iS hd
 obtain ⟨G,hG⟩: ∃G:List Chk,G=⟨Rep.raw 133, [.pointer (some ⟨r2,0,none⟩)], [.slice none 0 0, .slice none 0 0, .slice none 0 0, .int .i64 0]⟩::F:=⟨_,rfl⟩
 rw [← hG] at s0
 refine AS (fun (y:Int×Unit) w g=> ∃(ψ:AC),Sub φ ψ∧y.1=g.1∧g.2.2.length=ss.length∧St ψ (fsC n g.2.1 (ps++qs) g.2.2 G) w) (g:=z) ?_ ?_
 ·refine Ej hz (fun (y:Int×Unit) w g=> ∃(ψ:AC),Sub φ ψ∧y.1=g.1∧g.2.2.length=ss.length∧St ψ (fsC n g.2.1 (ps++qs) g.2.2 G) w) ((1:Int),()) rfl ⟨φ,Sub.refl _,rfl,rfl,s0⟩ ?_
  rintro y w ⟨gc,gn,gs⟩ e ⟨ψ,le,rfl,hl1,st⟩ he hb
  dsimp only at he hl1 st
  obtain ⟨rr,hr,he⟩:=bS he
  refine AJ (QL (gk.mono le) (K.mono le) (hl.trans hl1.symm) hr st) ?_
  rintro _ h1 ⟨ψ1,le1,rfl,hl2,st1⟩
  refine ⟨_,rfl,?_⟩
  refine AI he rfl (fun _ he=> ?_) (fun _ he=> ?_)
  ·obtain rfl:=iS he
   exact Ac (IntKind.wrap .i64 (y.1+(1:Int)),()) _ rfl rfl ⟨ψ1,le.trans le1,rfl,hl2.trans hl1,st1⟩
  ·obtain rfl:=iS he
   obtain rfl:=hb _ rfl
   exact AL (AO (y.1,()) rfl ⟨ψ1,le.trans le1,rfl,hl2.trans hl1,st1⟩)
 ·rintro y1 h1 ⟨ψ1,le1,hy1,hl1,st1⟩
  refine AE (x:=g) ((K.mono le1).at st1 (j:=8) rfl) rfl ?_
  refine AE (x:=t.2.1) (AD st1.sub ((cB.mono le1).at 1 rfl)) rfl ?_
  have n1:t.2.1.2.1=p.2.1.length:=K.pl.k1.length
  rw [n1]
  obtain ⟨i0,i1,i2⟩:=CO hs
  rw [Int.toNat_natCast] at i2
  rw [List.getElem?_drop] at i2
  have hlt:p.2.1.length<qs.length:=by
   rw [List.length_drop] at i1
   rw [List.length_append] at hl
   omega
  have hq:=List.getElem?_eq_getElem hlt
  obtain ⟨A2,cs2,ea2,hi2,q2,cl2⟩:=((K.mono le1).kg).get (i:=((p.2.1.length:Nat):Int)) (by rw [EM]; exact hq)
  refine AG _ ea2 (Aa hi2 ?_)
  obtain rfl:=q2
  refine AE (x:=qs[p.2.1.length]) (AD st1.sub (cl2 0 _ rfl)) rfl ?_
  obtain ⟨rs,a1,a2⟩:=Dn (KW (ps:=ps) hq) i2
  have st2:St ψ1 (BH qs[p.2.1.length] s::(rs++(cR 4 Ro.bool n z.2.1::G))) h1:=(st1.perm (List.perm_middle (l₁:=AQ (ps++qs) z.2.2)).symm).perm (List.Perm.append_right _ a1)
  refine AJ (B0 st2 ha) ?_
  rintro _ h2 ⟨ψ2,y,l2,le2,rfl,e2,st3⟩
  refine ⟨_,rfl,?_⟩
  have e2':l2=a.2:=by rw [← e2]
  subst e2'
  have le12:=le1.trans le2
  have st4:St ψ2 (fsC n z.2.1 (ps++qs) (z.2.2.set (ps.length+p.2.1.length) a.2) G) h2:=(st3.perm (List.Perm.append_right _ (a2 a.2)).symm).perm (List.perm_middle (l₁:=AQ (ps++qs) (z.2.2.set (ps.length+p.2.1.length) a.2)))
  refine AS (fun (y:Unit) w g=> ∃(ψ:AC),Sub φ ψ∧g.length=ss.length∧St ψ (fsC n z.2.1 (ps++qs) g G) w) (g:=sf) ?_ ?_
  ·refine Ej hsf (fun (y:Unit) w g=> ∃(ψ:AC),Sub φ ψ∧g.length=ss.length∧St ψ (fsC n z.2.1 (ps++qs) g G) w) () rfl ⟨ψ2,le12,by simp [hl1],st4⟩ ?_
   rintro y w gs e ⟨ψ,le,hl3,st⟩ he hb
   obtain ⟨rr,hr,he⟩:=bS he
   refine AJ (O5 (gk.mono le) (K.mono le) hpq (hl.trans hl3.symm) hr st) ?_
   rintro _ h3 ⟨ψ3,le3,rfl,hl4,st5⟩
   refine ⟨_,rfl,?_⟩
   refine AI he rfl (fun _ he=> ?_) (fun _ he=> ?_)
   ·obtain rfl:=iS he
    exact Ac () _ rfl rfl ⟨ψ3,le.trans le3,hl4.trans hl3,st5⟩
   ·obtain rfl:=iS he
    obtain rfl:=hb _ rfl
    exact AL (AO () rfl ⟨ψ3,le.trans le3,hl4.trans hl3,st5⟩)
  ·rintro _ h3 ⟨ψ3,le3,hl3,st5⟩
   obtain ⟨ψ4,le4,kn,st6⟩:=St.freezeRow (t:=n) st5
   have le34:=le3.trans le4
   refine AE (x:=n) ((K.mono le34).at st6 (j:=6) rfl) rfl ?_
   refine AE (x:=f) ((K.mono le34).at st6 (j:=7) rfl) rfl ?_
   refine AE (x:=g) ((K.mono le34).at st6 (j:=8) rfl) rfl ?_
   have hlen:sf.length=ps.length+qs.length:=by rw [hl3,← hl,List.length_append]
   refine AJ (Md (gk.mono le34) (off:=0) (K.mono le34).kf (fun i q hi=>by rw [Nat.zero_add]; exact O4 hi) (fun i s hi=>by
    rw [List.getElem?_take] at hi
    split at hi
    ·rw [Nat.zero_add]; exact hi
    ·cases hi) (by simp; omega) st6 hla) ?_
   rintro _ h4 ⟨ψ5,y5,le5,rfl,k5,st7⟩
   refine ⟨y5,rfl,?_⟩
   have le35:=le34.trans le5
   refine AK ((K.mono le35).at st7 (j:=8) rfl) ?_
   refine AK ((K.mono le35).at st7 (j:=6) rfl) ?_
   refine AJ (Md (gk.mono le35) (off:=ps.length) (K.mono le35).kg (fun i q hi=>KW hi) (fun i s hi=>by
    rw [List.getElem?_drop] at hi; exact hi) (by simp; omega) st7 hlb) ?_
   rintro _ h5 ⟨ψ6,y6,le6,rfl,k6,st8⟩
   refine ⟨y6,rfl,?_⟩
   have le36:=le35.trans le6
   refine AK ((K.mono le36).at st8 (j:=6) rfl) ?_
   have st9:=St.drop _ st8
   rw [hG] at st9
   refine CA (b:=r2) (j:=0) (v:=sv n) st9 rfl (by simp) ?_
   intro h6 st10
   refine CA (b:=r2) (j:=1) (v:=sv y5) st10 rfl (by simp) ?_
   intro h7 st11
   refine CA (b:=r2) (j:=2) (v:=sv y6) st11 rfl (by simp) ?_
   intro h8 st12
   refine CA (b:=r2) (j:=3) (v:= .int .i64 y1.1) st12 rfl (by simp) ?_
   intro h9 st13
   refine AA (b:=r2) (j:=0) (x:=n) st13 rfl ?_
   refine AA (b:=r2) (j:=1) (x:=y5) st13 rfl ?_
   refine AA (b:=r2) (j:=2) (x:=y6) st13 rfl ?_
   refine AA (b:=r2) (j:=3) (x:=y1.1) st13 rfl ?_
   exact AB ⟨ψ6,(n,y5,y6,y1.1,()),le0.trans le36,rfl,kn.mono (le5.trans le6),k5.mono le6,k6,hy1,st13.tail⟩
theorem O8:MT Tryz.prog 60 4 (.bool false):=⟨Tryz.underlying60,⟨Tryz.t4,by kernel_rfl,rfl,⟨_,rfl,rfl⟩,by decide⟩⟩
theorem O9 (gk:Dg.Glob φ) (le0:Sub φ0 φ) {r1 r2:Nat} (cB:Cf φ (some ⟨r1,0,none⟩) (plV t)) (k:PlK φ t p) {null:List Bool} {s1 s2:List Af} (h1:ps.length=s1.length) (h2:qs.length=s2.length) (h3:s2.length=s1.length) {r:dtF} (hd:I7 p s1.length null (s1++s2)=some r)
 (s0:St φ (D8 f ps::D8 g qs::cR 4 Ro.bool n null::(AQ ps s1++(AQ qs s2++(⟨Rep.raw 133, [.pointer (some ⟨r2,0,none⟩)], [.slice none 0 0, .slice none 0 0, .slice none 0 0, .int .i64 0]⟩::F)))) h):
 (T.new (.cells #[sv t.1,sv t.2.1,sv t.2.2.1,sv t.2.2.2.1,sv t.2.2.2.2.1,sv t.2.2.2.2.2.1,sv n,sv f,sv g] 221 (0,0)) fun r25=>O6 r1 r2 r25).wp Tryz.prog (LT (Ai (O7 φ0 F r))) h:=by
 refine AR (vs:=plV t++ [sv n,sv f,sv g]) s0 ?_
 intro r25 h4 st1
 obtain ⟨ψ1,le1,c1,st2⟩:=St.blk st1
 obtain ⟨ψ2,le2,kf,st3⟩:=St.freezeRow (t:=f) st2
 obtain ⟨ψ3,le3,kg,st4⟩:=St.freezeRow (t:=g) st3
 have le13:=(le1.trans le2).trans le3
 refine SO (ps:=ps) (qs:=qs) (f:=f) (g:=g) (n:=n) (t:=t) (gk.mono le13) (le0.trans le13) (cB.mono le13) ⟨c1.mono (le2.trans le3),k.mono le13,kf.mono le3,kg⟩ (by omega) (null:=null) (ss:=s1++s2) (by rw [List.length_append,List.length_append,h1,h2]) (by rw [h1]; exact hd) ?_
 have e:AQ (ps++qs) (s1++s2)=AQ ps s1++AQ qs s2:=by
  unfold AQ
  exact List.zipWith_append h1
 show St ψ3 (cR 4 Ro.bool n null::(AQ (ps++qs) (s1++s2) ++_)) h4
 rw [e,List.append_assoc]
 exact st4
theorem Tv (a c n:Chk) (B D G:List Chk):(a::(B++(c::(D++(n::G))))).Perm (c::a::n::(D++(B++G))):=
 (List.Perm.cons a (List.perm_middle.trans (List.Perm.cons c ((List.Perm.append_left B List.perm_middle).trans (List.perm_middle.trans (List.Perm.cons n (by rw [← List.append_assoc,← List.append_assoc]; exact List.Perm.append_right _ List.perm_append_comm))))))).trans (List.Perm.swap _ _ _)
theorem Tw (a c n:Chk) (B D G:List Chk):(a::(B++(n::c::(D++G)))).Perm (c::a::n::(D++(B++G))):=
 (List.Perm.cons a (List.perm_middle.trans ((List.Perm.cons n (List.perm_middle.trans (List.Perm.cons c (by rw [← List.append_assoc,← List.append_assoc]; exact List.Perm.append_right _ List.perm_append_comm)))).trans (List.Perm.swap _ _ _)))).trans (List.Perm.swap _ _ _)
theorem Tx (a c n:Chk) (B D G:List Chk):(n::a::(B++(c::(D++G)))).Perm (c::a::n::(D++(B++G))):=
 (List.Perm.swap _ _ _).trans (((List.Perm.cons a ((List.Perm.cons n (List.perm_middle.trans (List.Perm.cons c (by rw [← List.append_assoc,← List.append_assoc]; exact List.Perm.append_right _ List.perm_append_comm)))).trans (List.Perm.swap _ _ _)))).trans (List.Perm.swap _ _ _))
set_option maxHeartbeats 2000000 in
theorem ND (gk:Dg.Glob φ) (k:PlK φ t p) (s0:St φ F h) {r:dtF} (hd:O3 p=some r):
 CallsH Tryz.prog 106 [.agg #[sv t.1,sv t.2.1,sv t.2.2.1,sv t.2.2.2.1,sv t.2.2.2.2.1,sv t.2.2.2.2.2.1]] h (Ai (O7 φ F r)):=by
 refine AN mixed Tryz.func106 ?_
 rw [NB]
 unfold Lu
 unfold O3 at hd
 obtain ⟨null,hn,hd⟩:=bS hd
 obtain ⟨f1,hf1,hd⟩:=bS hd
 obtain ⟨g1,hg1,hd⟩:=bS hd
 obtain rfl:f1=g1:=by rw [hf1] at hg1; exact iS hg1
 have hd:I7 p f1.length null (f1++f1)=some r:=hd
 refine AR (vs:=plV t) s0 ?_
 intro r1 h1 s1
 obtain ⟨φ1,le1,cB,s1⟩:=St.blk s1
 refine AR (vs:= [.slice none 0 0, .slice none 0 0, .slice none 0 0, .int .i64 0]) s1 ?_
 intro r2 h2 s2
 have n1:t.2.1.2.1=p.2.1.length:=k.k1.length
 have hc: ∀ {ψ:AC} {Γ:List Chk} {h':AF},Sub φ1 ψ→St ψ Γ h'→ ∀j v,(plV t)[j]? =some v→Az h' ⟨r1,j,none⟩=some v:=fun {ψ Γ h'} le st j v hv=>by
  have:=AD st.sub ((cB.mono le).at j hv)
  rw [DY,Nat.zero_add] at this
  exact this
 have hc2:=hc (Sub.refl _) s2
 refine It hc2 ?_
 refine AE (x:=t.2.1) (hc2 1 _ rfl) rfl ?_
 refine It hc2 ?_
 refine It hc2 ?_
 have k1:=k.mono le1
 have gk1:=gk.mono le1
 have mk:Gq (IntKind.wrap .i64 (((t.2.1.2.1:Nat):Int) +1)) false=some null:=by rw [n1]; exact hn
 refine ED ?_ ?_
 ·refine IQ (r:=Ro.bool) (x:=false) O8 s2 rfl rfl mk ?_
  intro n h3 s3
  have hc3:=hc (Sub.refl _) s3
  repeat refine AK (hc3 _ _ rfl) ?_
  refine AJ (G9 k1 s3 hf1) ?_
  rintro _ h4 ⟨ψ4,f,ps,le4,rfl,hl4,s4⟩
  refine ⟨f,rfl,?_⟩
  have hc4:=hc le4 s4
  repeat refine AK (hc4 _ _ rfl) ?_
  refine AJ (G9 (k1.mono le4) s4 hf1) ?_
  rintro _ h5 ⟨ψ5,g,qs,le5,rfl,hl5,s5⟩
  refine ⟨g,rfl,?_⟩
  have hc5:=hc (le4.trans le5) s5
  repeat refine AK (hc5 _ _ rfl) ?_
  exact O9 (f:=f) (g:=g) (n:=n) (ps:=ps) (qs:=qs) (gk1.mono (le4.trans le5)) (le1.trans (le4.trans le5)) (cB.mono (le4.trans le5)) (k1.mono (le4.trans le5)) hl4 hl5 rfl hd (s5.perm (Tv _ _ _ _ _ _))
 ·refine AJ (G9 k1 s2 hf1) ?_
  rintro _ h4 ⟨ψ4,f,ps,le4,rfl,hl4,s4⟩
  refine ⟨f,rfl,?_⟩
  have hc4:=hc le4 s4
  repeat refine AK (hc4 _ _ rfl) ?_
  refine ED ?_ ?_
  ·refine IQ (r:=Ro.bool) (x:=false) O8 s4 rfl rfl mk ?_
   intro n h3 s3
   have hc3:=hc le4 s3
   repeat refine AK (hc3 _ _ rfl) ?_
   refine AJ (G9 (k1.mono le4) s3 hf1) ?_
   rintro _ h5 ⟨ψ5,g,qs,le5,rfl,hl5,s5⟩
   refine ⟨g,rfl,?_⟩
   have hc5:=hc (le4.trans le5) s5
   repeat refine AK (hc5 _ _ rfl) ?_
   exact O9 (f:=f) (g:=g) (n:=n) (ps:=ps) (qs:=qs) (gk1.mono (le4.trans le5)) (le1.trans (le4.trans le5)) (cB.mono (le4.trans le5)) (k1.mono (le4.trans le5)) hl4 hl5 rfl hd (s5.perm (Tw _ _ _ _ _ _))
  ·refine AJ (G9 (k1.mono le4) s4 hf1) ?_
   rintro _ h5 ⟨ψ5,g,qs,le5,rfl,hl5,s5⟩
   refine ⟨g,rfl,?_⟩
   have hc5:=hc (le4.trans le5) s5
   repeat refine AK (hc5 _ _ rfl) ?_
   refine IQ (r:=Ro.bool) (x:=false) O8 s5 rfl rfl mk ?_
   intro n h3 s3
   have hc3:=hc (le4.trans le5) s3
   repeat refine AK (hc3 _ _ rfl) ?_
   exact O9 (f:=f) (g:=g) (n:=n) (ps:=ps) (qs:=qs) (gk1.mono (le4.trans le5)) (le1.trans (le4.trans le5)) (cB.mono (le4.trans le5)) (k1.mono (le4.trans le5)) hl4 hl5 rfl hd (s3.perm (Tx _ _ _ _ _ _))
end
end Go.Proofs.YteolcjbobmpdiaaGreatDoor
namespace Go.Proofs.YteolcjbobmpdiaaGreatDoor
open Go Go.Eng
set_option linter.unusedVariables false
set_option maxRecDepth 100000
noncomputable def EQ (f_0:Si) (p_1:BJ) (seq_2:List Int):Option (List Int×Bool):=
 (Bk (((List.length p_1.1):Nat):Int)).bind fun t4=>
 (DG (σ:=CF) (β:=(List Int×Bool)) (0:Int) (((List.length seq_2):Nat):Int) t4 fun i_z6 z6=>
  (((idx seq_2 i_z6).bind fun e56=>
  (Bc (p_1.1,p_1.2.1,p_1.2.2.1,p_1.2.2.2.1,p_1.2.2.2.2.1,p_1.2.2.2.2.2) e56).bind fun t16=>
  cond t16
  ((Ak z6 e56).bind fun t17=>
   (PZ t17.2).bind fun t18=>
   some (AY.done (t18,false)))
  ((cond (decide ((IntKind.wrap .i64 (e56 - (((List.length p_1.1):Nat):Int))) < (0:Int)))
   (some true)
   (some (decide ((IntKind.wrap .i64 (e56 - (((List.length p_1.1):Nat):Int))) ≥ (((List.length f_0.2.1):Nat):Int))))).bind fun z20=>
   cond z20
   (some (AY.next z6))
   ((idx f_0.2.1 (IntKind.wrap .i64 (e56 - (((List.length p_1.1):Nat):Int)))).bind fun e103=>
    (CV (((List.length p_1.1):Nat):Int) e103).bind fun t26=>
    (RU z6 t26).bind fun t27=>
    (idx f_0.1 (IntKind.wrap .i64 (e56 - (((List.length p_1.1):Nat):Int)))).bind fun e121=>
    cond (!e121)
    ((PZ t27.2).bind fun t31=>
     some (AY.done (t31,false)))
    (some (AY.next t27.2))))):Option (AY CF (List Int×Bool))).bind fun e_z7=>match e_z7 with
  | .next z7=>
   some (AY.next z7)
  | .done q150=>some (AY.done q150)).bind fun e_z5=>match e_z5 with
 | .next z5=>
  (PZ z5).bind fun t32=>
  some (t32,true)
 | .done q179=>some q179
theorem JM {φ:AC} {h:AF} {F:List Chk} {f_0:Slc×Slc×Slc×Int×Unit} {z:List Bool} {q:List (List Int)} {a0:List (List Int)} {p_1:Pl6} {s:List ByteArray} {a1:List ByteArray} {a2:List BV} {a3:List Int} {a4:List Int} {a5:List ByteArray} {seq_2:Slc} {t:List Int} (gk:Dg.Glob φ) (ap:Ro.SliceIs Ro.bool φ f_0.1 z) (a6:Ro.SliceIs (Ro.list (Ro.int .i64)) φ f_0.2.1 q) (cg:Ro.SliceIs (Ro.list (Ro.int .i64)) φ f_0.2.2.1 a0) (a7:Ro.SliceIs Ro.str φ p_1.1 s) (aq:Ro.SliceIs Ro.str φ p_1.2.1 a1) (ar:Ro.SliceIs BS φ p_1.2.2.1 a2) (au:Ro.SliceIs (Ro.int .i64) φ p_1.2.2.2.1 a3) (av:Ro.SliceIs (Ro.int .i64) φ p_1.2.2.2.2.1 a4) (aw:Ro.SliceIs Ro.str φ p_1.2.2.2.2.2.1 a5) (a8:Ro.SliceIs (Ro.int .i64) φ seq_2 t) (s0:St φ (F) h) {r:(List Int×Bool)} (hd:EQ (z,q,a0,f_0.2.2.2.1) (s,a1,a2,a3,a4,a5) t=some r):
 CallsH Tryz.prog 146 [(.agg #[(sv f_0.1),(sv f_0.2.1),(sv f_0.2.2.1),(.int .i64 f_0.2.2.2.1)]),(aG p_1),(sv seq_2)] h (Ai fun v h'=> ∃ψ:AC,∃y:Slc×Bool×Unit,∃a9:List Int,Sub φ ψ∧v=((.tuple [aS,aB]):Sh).val y∧(a9,y.2.1)=r∧Ro.SliceIs (Ro.int .i64) ψ y.1 a9∧St ψ (F) h'):=by
 refine AN mixed Tryz.func146 ?_
 rw [JI]
 unfold GX
 unfold EQ at hd
 have ax:f_0.2.1.2.1=List.length q:=a6.length
 have j:p_1.1.2.1=List.length s:=a7.length
 have aa:seq_2.2.1=List.length t:=a8.length
 refine AR (vs:= [sv f_0.1,sv f_0.2.1,sv f_0.2.2.1, .int .i64 f_0.2.2.2.1]) s0 fun r1 ch ay=> ?_
 refine AR (vs:= [sv p_1.1,sv p_1.2.1,sv p_1.2.2.1,sv p_1.2.2.2.1,sv p_1.2.2.2.2.1,sv p_1.2.2.2.2.2.1]) ay fun r2 ci ab=> ?_
 refine AA (x:=p_1.1) ab rfl ?_
 obtain ⟨cj,ac,hd⟩:=bS hd
 rw [← j] at ac
 refine AJ (DN ab ac) ?_
 rintro _ ck ⟨u,t4,az,b,rfl,rfl,b0⟩
 refine ⟨t4,rfl,?_⟩
 obtain ⟨b1,b2,hd⟩:=bS hd
 refine AS (fun (y:Int×Bool×Slc×Unit) w_ g=> ∃ψ:AC,∃ad:CF,Sub u ψ∧AY.next ad=g∧St ψ (cO 239 C6 t4 ad::Wq2 r2 p_1::Wq7 r1 f_0::F) w_) (g:=b1) ?_ ?_
 ·refine Bz b2 (fun b3 (y:Int×Bool×Slc×Unit) w_ g=> ∃ψ:AC,∃ae:CF,Sub u ψ∧y.1=b3∧ae=g∧St ψ (cO 239 C6 t4 ae::Wq2 r2 p_1::Wq7 r1 f_0::F) w_) ((0:Int),false,((none,0,0):Slc),()) rfl ⟨u,az,(Sub.refl _),rfl,rfl,b0.at2.at2.at2⟩ ?_ ?_
  ·rintro _ z6 cl _ _ ⟨b4,af,c,rfl,rfl,f⟩ e b5 ag ah ai
   try dsimp only at e b5 ag ah
   refine Ad (dT aa ag) ?_
   obtain ⟨b6,a,e⟩:=bS e
   refine AS (fun (y:Bool×Slc×Unit) w_ g=> ∃ψ:AC,∃aj:CF,Sub b4 ψ∧AY.next aj=g∧St ψ (cO 239 C6 t4 aj::Wq2 r2 p_1::Wq7 r1 f_0::F) w_) (g:=b6) ?_ ?_
   ·obtain ⟨b7,b8,a⟩:=bS a
    refine CB a8 b8 (Sub.trans (b.trans c) f.sub) ?_
    refine AA (x:=p_1.1) f.at1 rfl ?_
    refine AA (x:=p_1.2.1) f.at1 rfl ?_
    refine AA (x:=p_1.2.2.1) f.at1 rfl ?_
    refine AA (x:=p_1.2.2.2.1) f.at1 rfl ?_
    refine AA (x:=p_1.2.2.2.2.1) f.at1 rfl ?_
    refine AA (x:=p_1.2.2.2.2.2.1) f.at1 rfl ?_
    obtain ⟨cm,b9,a⟩:=bS a
    refine AJ (DJ (p_0:=(p_1.1,p_1.2.1,p_1.2.2.1,p_1.2.2.2.1,p_1.2.2.2.2.1,p_1.2.2.2.2.2.1,())) (a7.mono (b.trans c)) (aq.mono (b.trans c)) (ar.mono (b.trans c)) (au.mono (b.trans c)) (av.mono (b.trans c)) (aw.mono (b.trans c)) f b9) ?_
    rintro _ cn ⟨w,t16,d,rfl,rfl,k⟩
    refine ⟨t16,rfl,?_⟩
    refine AI a rfl (fun _ a=> ?_) (fun _ a=> ?_)
    ·obtain ⟨co,ba,a⟩:=bS a
     refine AJ (B0 k ba) ?_
     rintro _ cp ⟨cq,t17,cr,ak,rfl,rfl,bb⟩
     refine ⟨t17,rfl,?_⟩
     try dsimp only at a
     obtain ⟨cs,bc,a⟩:=bS a
     refine AJ (Kn (gk.mono (((b.trans c).trans d).trans ak)) bb bc) ?_
     rintro _ ct ⟨bd,t18,be,bf,rfl,rfl,bg,bh⟩
     refine ⟨t18,rfl,?_⟩
     obtain rfl:=iS a
     try dsimp only at e
     obtain rfl:=iS e
     obtain rfl:=ai _ rfl
     try dsimp only at hd
     obtain rfl:=iS hd
     exact Aj (Al (Aj (AB ⟨bd,(t18,false,()),be,((((b.trans c).trans d).trans ak).trans bf),rfl,rfl,bg,bh.tail.tail.tail⟩)))
    refine AA (x:=p_1.1) k.at1 rfl ?_
    obtain ⟨bi,l,a⟩:=bS a
    refine AX (fun (y:Bool×Unit) w_ g=> ∃ψ:AC,Sub w ψ∧y.1=g∧St ψ (cO 239 C6 t4 af::Wq2 r2 p_1::Wq7 r1 f_0::F) w_) (g:=bi) ?_ ?_
    ·refine AI l (by rw [j] <;>rfl) (fun _ l=> ?_) (fun _ l=> ?_)
     ·have bj:=k.at2
      obtain rfl:=iS l
      exact AM (true,()) rfl ⟨w,(Sub.refl _),rfl,bj.at2.at2⟩
     refine AA (x:=f_0.2.1) k.at2 rfl ?_
     have bk:=k.at2.at2.at2
     obtain rfl:=iS l
     exact AM ((decide ((IntKind.wrap .i64 (b7 - ((p_1.1.2.1:Nat):Int))) ≥ ((f_0.2.1.2.1:Nat):Int))),()) rfl ⟨w,(Sub.refl _),(by rw [j,ax]),bk⟩
    rintro z20 cu ⟨bl,i,rfl,m⟩
    try dsimp only at a
    refine AI a rfl (fun _ a=> ?_) (fun _ a=> ?_)
    ·have bm:=m.at2
     obtain rfl:=iS a
     exact AO (z6.2.1,(z6.2.2.1.1,z6.2.2.1.2.1,z6.2.2.1.2.2),()) rfl ⟨bl,af,(d.trans i),rfl,bm.at2.at2⟩
    refine AA (x:=p_1.1) m.at1 rfl ?_
    refine AA (x:=f_0.2.1) m.at2 rfl ?_
    obtain ⟨cv,al,a⟩:=bS a
    rw [← j] at al
    refine LY a6 al (Sub.trans (((b.trans c).trans d).trans i) m.sub) fun cw bn=> ?_
    obtain ⟨cx,am,a⟩:=bS a
    rw [← j] at am
    refine AJ (Dl (bn.mono (((b.trans c).trans d).trans i)) m am) ?_
    rintro _ cy ⟨cz,t26,d0,n,rfl,rfl,bo⟩
    refine ⟨t26,rfl,?_⟩
    obtain ⟨d1,bp,a⟩:=bS a
    refine AJ (O0 (gk.mono ((((b.trans c).trans d).trans i).trans n)) bo.at1 bp) ?_
    rintro _ d2 ⟨bq,t27,br,o,rfl,rfl,p⟩
    refine ⟨t27,rfl,?_⟩
    try dsimp only at a
    refine AA (x:=f_0.1) p.at3 rfl ?_
    obtain ⟨d3,an,a⟩:=bS a
    rw [← j] at an
    refine CB ap an (Sub.trans (((((b.trans c).trans d).trans i).trans n).trans o) p.sub) ?_
    refine AI a rfl (fun _ a=> ?_) (fun _ a=> ?_)
    ·obtain ⟨d4,bs,a⟩:=bS a
     refine AJ (Kn (gk.mono (((((b.trans c).trans d).trans i).trans n).trans o)) p bs) ?_
     rintro _ d5 ⟨bt,t31,bu,bv,rfl,rfl,bw,bx⟩
     refine ⟨t31,rfl,?_⟩
     obtain rfl:=iS a
     try dsimp only at e
     obtain rfl:=iS e
     obtain rfl:=ai _ rfl
     try dsimp only at hd
     obtain rfl:=iS hd
     exact Aj (Al (Aj (AB ⟨bt,(t31,false,()),bu,((((((b.trans c).trans d).trans i).trans n).trans o).trans bv),rfl,rfl,bw,bx.tail.tail.tail.tail⟩)))
    obtain rfl:=iS a
    exact LV (z6.2.1,(z6.2.2.1.1,z6.2.2.1.2.1,z6.2.2.1.2.2),()) rfl ⟨bq,br,(((d.trans i).trans n).trans o),rfl,p.at1.tail.at2.at2.at2⟩
   rintro z7 d6 ⟨bz,c0,c1,rfl,c2⟩
   try dsimp only at e
   obtain rfl:=iS e
   exact Ac ((wN z6.1),z7.1,(z7.2.1.1,z7.2.1.2.1,z7.2.1.2.2),()) _ rfl rfl ⟨bz,c0,(c.trans c1),ah,rfl,c2.at2.at2.at2⟩
  ·rintro _ z6 d7 _ ⟨c3,c4,c5,rfl,rfl,c6⟩ c7 c8
   subst c8
   refine AU (dF aa c7) ?_
   exact AL (AO (z6.1,z6.2.1,(z6.2.2.1.1,z6.2.2.1.2.1,z6.2.2.1.2.2),()) rfl ⟨c3,c4,c5,rfl,c6.at2.at2.at2⟩)
 rintro z5 d8 ⟨d9,da,ao,rfl,c9⟩
 try dsimp only at hd
 obtain ⟨db,ca,hd⟩:=bS hd
 refine AJ (Kn (gk.mono (b.trans ao)) c9 ca) ?_
 rintro _ dc ⟨cb,t32,cc,cd,rfl,rfl,ce,cf⟩
 refine ⟨t32,rfl,?_⟩
 obtain rfl:=iS hd
 exact AB ⟨cb,(t32,true,()),cc,((b.trans ao).trans cd),rfl,rfl,ce,cf.tail.tail.tail⟩
noncomputable def B8 (l_0:MV) (state_1:Int) (rule_2:Int):Option Bool:=
 (cond (decide (rule_2< (0:Int)))
 (some true)
 (some (decide (rule_2≥ (((List.length l_0.2.2.1):Nat):Int))))).bind fun z1=>
 cond z1
 (some false)
 ((idx l_0.2.2.1 rule_2).bind fun e89=>
  (Cc l_0.2.2.2.2.2.2.1 state_1).bind fun t10=>
  (Ao t10 (rule_2,(((List.length e89.2.1):Nat):Int))).bind fun t11=>
  some t11)
theorem FU {φ:AC} {h:AF} {F:List Chk} {l_0:Option Addr} {i:MV} {state_1:Int} {rule_2:Int} (j:Pt Qs φ l_0 i) (s0:St φ (F) h) {r:Bool} (hd:B8 i state_1 rule_2=some r):
 CallsH Tryz.prog 71 [(.pointer l_0),(.int .i64 state_1),(.int .i64 rule_2)] h (Ai fun v h'=> ∃ψ:AC,∃y:Bool,Sub φ ψ∧v=((.one aB):Sh).val y∧y=r∧St ψ (F) h'):=by
 refine AN mixed Tryz.func71 ?_
 rw [JK]
 unfold GZ
 unfold B8 at hd
 obtain ⟨p,b,hd⟩:=bS hd
 refine AX (fun (y:Bool×Unit) w_ g=> ∃ψ:AC,Sub φ ψ∧y.1=g∧St ψ (F) w_) (g:=p) ?_ ?_
 ·refine AI b rfl (fun _ b=> ?_) (fun _ b=> ?_)
  ·obtain rfl:=iS b
   exact AM (true,()) rfl ⟨φ,(Sub.refl _),rfl,s0⟩
  obtain ⟨ai,aj,q,⟨_,_,rfl,⟨ak,rfl,al⟩,_,_,rfl,⟨am,rfl,an⟩,_,_,rfl,⟨k,rfl,s⟩,_,_,rfl,⟨ao,rfl,ap⟩,_,_,rfl,⟨aq,rfl,ar⟩,_,_,rfl,⟨au,rfl,av⟩,_,_,rfl,⟨aw,rfl,ax⟩,_,_,rfl,⟨ay,rfl,az⟩,_,_,rfl,⟨b0,rfl,b1⟩,_,_,rfl,⟨b2,rfl,b3⟩,_,_,rfl,rfl,_,_,rfl,⟨b4,rfl,b5⟩,_,_,rfl,rfl,rfl⟩,t⟩:=id j
  have u:=s.length
  refine AG _ q ?_
  refine AE (x:=k) (AD s0.sub (t.at 2 rfl)) rfl ?_
  obtain rfl:=iS b
  exact AM ((decide (rule_2≥ ((k.2.1:Nat):Int))),()) rfl ⟨φ,(Sub.refl _),(by rw [u]),s0⟩
 rintro z1 b6 ⟨w,a,rfl,c⟩
 try dsimp only at hd
 refine AI hd rfl (fun _ hd=> ?_) (fun _ hd=> ?_)
 ·obtain rfl:=iS hd
  exact AB ⟨w,false,a,rfl,rfl,c⟩
 obtain ⟨b7,b8,l,⟨_,_,rfl,⟨b9,rfl,ba⟩,_,_,rfl,⟨bb,rfl,bc⟩,_,_,rfl,⟨z,rfl,a0⟩,_,_,rfl,⟨bd,rfl,be⟩,_,_,rfl,⟨bf,rfl,bg⟩,_,_,rfl,⟨bh,rfl,bi⟩,_,_,rfl,⟨a1,rfl,a2⟩,_,_,rfl,⟨bj,rfl,bk⟩,_,_,rfl,⟨bl,rfl,bm⟩,_,_,rfl,⟨bn,rfl,bo⟩,_,_,rfl,rfl,_,_,rfl,⟨bp,rfl,bq⟩,_,_,rfl,rfl,rfl⟩,d⟩:=id j
 refine AG _ l ?_
 refine AE (x:=a1) (AD (Sub.trans a c.sub) (d.at 6 rfl)) rfl ?_
 refine AG _ l ?_
 refine AE (x:=z) (AD (Sub.trans a c.sub) (d.at 2 rfl)) rfl ?_
 obtain ⟨br,a3,hd⟩:=bS hd
 obtain ⟨bs,bt,a4,a5,a6,m⟩:=(a0.mono a).get a3
 refine AG _ a4 (Aa a5 ?_)
 obtain ⟨_,_,rfl,a7,a8⟩:=a6
 obtain rfl:=a7
 obtain ⟨_,_,rfl,a9,aa⟩:=a8
 obtain ⟨n,rfl,ab⟩:=a9
 have ac:=ab.length
 obtain rfl:=aa
 refine AE (x:=n) (by rw [AV]; exact (AD c.sub (m 1 _ rfl))) rfl ?_
 obtain ⟨bu,ad,hd⟩:=bS hd
 refine AJ (Ed (a2.mono a) c ad) ?_
 rintro _ bv ⟨bw,t10,bx,e,rfl,rfl,ae,f⟩
 refine ⟨t10,rfl,?_⟩
 refine AK (by rw [AV]; exact (AD (Sub.trans e f.sub) (m 1 _ rfl))) ?_
 refine AK (AD (Sub.trans (a.trans e) f.sub) (d.at 2 rfl)) ?_
 obtain ⟨bz,o,hd⟩:=bS hd
 rw [← ac] at o
 refine AJ (C5 (v_1:=(rule_2,((n.2.1:Nat):Int),())) ae f o) ?_
 rintro _ c0 ⟨af,t11,ag,rfl,rfl,ah⟩
 refine ⟨t11,rfl,?_⟩
 obtain rfl:=iS hd
 exact AB ⟨af,t11,((a.trans e).trans ag),rfl,rfl,ah⟩
noncomputable def C9 (l_0:MV) (state_1:Int):Option (List Int):=
 (Cc l_0.2.2.2.2.2.2.1 state_1).bind fun t3=>
 (forS (σ:=List Int) (0:Int) (((List.length t3):Nat):Int) ([] :List Int) fun i_z5 z5=>
  (idx t3 i_z5).bind fun e73=>
  (idx l_0.2.2.1 e73.1).bind fun e90=>
  (cond (e73.2==(((List.length e90.2.1):Nat):Int))
  ((app z5 ([e73.1] :List Int)).bind fun t19=>
   some t19)
  (some z5)).bind fun z16=>
  some z16).bind fun z4=>
 some z4
theorem JN {φ:AC} {h:AF} {F:List Chk} {l_0:Option Addr} {m:MV} {state_1:Int} (a4:Pt Qs φ l_0 m) (s0:St φ (F) h) {r:(List Int)} (hd:C9 m state_1=some r):
 CallsH Tryz.prog 22 [(.pointer l_0),(.int .i64 state_1)] h (Ai fun v h'=> ∃ψ:AC,∃y:Slc,∃n:List Int,Sub φ ψ∧v=((.one aS):Sh).val y∧n=r∧Ro.SliceIs (Ro.int .i64) ψ y n∧St ψ (F) h'):=by
 refine AN mixed Tryz.func22 ?_
 rw [JL]
 unfold Ga
 unfold C9 at hd
 obtain ⟨bm,bn,o,⟨_,_,rfl,⟨bo,rfl,bp⟩,_,_,rfl,⟨bq,rfl,br⟩,_,_,rfl,⟨a5,rfl,a6⟩,_,_,rfl,⟨bs,rfl,bt⟩,_,_,rfl,⟨bu,rfl,bv⟩,_,_,rfl,⟨bw,rfl,bx⟩,_,_,rfl,⟨a7,rfl,a8⟩,_,_,rfl,⟨bz,rfl,c0⟩,_,_,rfl,⟨c1,rfl,c2⟩,_,_,rfl,⟨c3,rfl,c4⟩,_,_,rfl,rfl,_,_,rfl,⟨c5,rfl,c6⟩,_,_,rfl,rfl,rfl⟩,p⟩:=id a4
 refine AG _ o ?_
 refine AE (x:=a7) (AD s0.sub (p.at 6 rfl)) rfl ?_
 obtain ⟨c7,a9,hd⟩:=bS hd
 refine AJ (Ed a8 s0 a9) ?_
 rintro _ c8 ⟨i,t3,c9,j,rfl,rfl,q,aa⟩
 refine ⟨t3,rfl,?_⟩
 have s:=q.length
 obtain ⟨ab,ac,hd⟩:=bS hd
 refine AS (fun (y:Int×Slc×Unit) w_ g=> ∃ψ:AC,∃u:List Int,Sub i ψ∧u=g∧St ψ (cR 3 (Ro.int .i64) y.2.1 u::F) w_) (g:=ab) ?_ ?_
 ·refine Ax ac (fun ad (y:Int×Slc×Unit) w_ g=> ∃ψ:AC,∃w:List Int,Sub i ψ∧y.1=ad∧w=g∧St ψ (cR 3 (Ro.int .i64) y.2.1 w::F) w_) ((0:Int),((none,0,0):Slc),()) rfl ⟨i,([] :List Int),(Sub.refl _),rfl,rfl,(aa.nil 3 (Ro.int .i64))⟩ ?_ ?_
  ·rintro _ z5 ca _ _ ⟨k,ae,f,rfl,rfl,l⟩ b af z a0
   try dsimp only at b af z a0
   refine Ad (dT s z) ?_
   obtain ⟨c,ag,b⟩:=bS b
   obtain ⟨cb,cc,ah,ai,aj,a1⟩:=(q.mono f).get ag
   refine AG _ ah (Aa ai ?_)
   obtain ⟨_,_,rfl,ak,al⟩:=aj
   obtain rfl:=ak
   obtain rfl:=al
   refine AE (x:=c.1) (AD l.sub (a1 0 _ rfl)) rfl ?_
   refine AE (x:=c.2) (by rw [AV]; exact (AD l.sub (a1 1 _ rfl))) rfl ?_
   refine AR (vs:= [.int .i64 (0:Int), .int .i64 (0:Int)]) l fun r9 cd am=> ?_
   refine AH am rfl rfl fun ce an=> ?_
   refine AH an rfl rfl fun cf d=> ?_
   refine AA (x:=c.2) d rfl ?_
   refine AG _ o ?_
   refine AE (x:=a5) (AD (Sub.trans (j.trans f) d.sub) (p.at 2 rfl)) rfl ?_
   refine AA (x:=c.1) d rfl ?_
   obtain ⟨cg,ao,b⟩:=bS b
   obtain ⟨ch,ci,ap,aq,ar,au⟩:=(a6.mono (j.trans f)).get ao
   refine AG _ ap (Aa aq ?_)
   obtain ⟨_,_,rfl,av,aw⟩:=ar
   obtain rfl:=av
   obtain ⟨_,_,rfl,ax,ay⟩:=aw
   obtain ⟨az,rfl,b0⟩:=ax
   have b1:=b0.length
   obtain rfl:=ay
   refine AE (x:=az) (by rw [AV]; exact (AD d.sub (au 1 _ rfl))) rfl ?_
   obtain ⟨b2,e,b⟩:=bS b
   refine AX (fun (y:Slc×Unit) w_ g=> ∃ψ:AC,∃a2:List Int,Sub k ψ∧a2=g∧St ψ (cR 3 (Ro.int .i64) y.1 a2::cW 70 r9 [.int .i64 c.1, .int .i64 c.2] ::F) w_) (g:=b2) ?_ ?_
   ·refine AI e (by rw [b1] <;>rfl) (fun _ e=> ?_) (fun _ e=> ?_)
    ·refine AA (x:=c.1) d rfl ?_
     refine AR (vs:= [.int .i64 c.1]) d fun r18 cj a3=> ?_
     obtain ⟨b3,b4,e⟩:=bS e
     refine Ab (r:=(Ro.int .i64)) (ms:=([c.1] :List Int)) Dz a3.tail.at1 rfl (St.cells a3) (.cons (a:= [_]) rfl .nil) rfl b4 ?_
     intro t19 ck b5
     obtain rfl:=iS e
     exact AM (t19,()) rfl ⟨k,b3,(Sub.refl _),rfl,b5.at1.at1⟩
    obtain rfl:=iS e
    exact AM (z5.2.1,()) rfl ⟨k,ae,(Sub.refl _),rfl,d.at1.at1.at1⟩
   rintro z16 cl ⟨b6,b7,b8,rfl,b9⟩
   try dsimp only at b
   obtain rfl:=iS b
   exact Ac ((wN z5.1),z16.1,()) _ rfl rfl ⟨b6,b7,(f.trans b8),a0,rfl,b9.at1.tail⟩
  ·rintro _ z5 cm ⟨ba,bb,bc,rfl,rfl,bd⟩ be
   refine AU (dF s be) ?_
   exact AL (AO (z5.1,z5.2.1,()) rfl ⟨ba,bb,bc,rfl,bd⟩)
 rintro z4 cn ⟨co,bf,bg,rfl,bh⟩
 try dsimp only at hd
 obtain ⟨bi,bj,bk,bl⟩:=St.freezeRow (t:=z4.2.1) bh
 obtain rfl:=iS hd
 exact AB ⟨bi,z4.2.1,bf,((j.trans bg).trans bj),rfl,rfl,bk,bl⟩
end Go.Proofs.YteolcjbobmpdiaaGreatDoor
namespace Go.Proofs.YteolcjbobmpdiaaGreatDoor
open Go Go.Eng Dg
set_option linter.unusedVariables false
set_option maxRecDepth 100000
abbrev Stp:Type:=Qr
noncomputable def PA {σ:Type} (p:dtP) (A:dtA) (f:σ→Stp→Int→Option σ) (s:σ):Option σ:=
 (B7 A).bind fun n=>forS 0 n s fun i s=>
  (Cd A i).bind fun es=>forS 0 ((es.length:Nat):Int) s fun j s=>
   (idx es j).bind fun e=>(Bc p e.1).bind fun t=>cond (!t) (f s (i,e.1) e.2) (some s)
abbrev EnS:Type:=List Stp×List (Stp×Int)
def Kq (st:EnS) (s:Stp) (_:Int):Option EnS:=(app st.1 [s]).bind fun l=>some (l,Bp s ((st.1.length:Nat):Int) st.2)
noncomputable def SP (l_0:Option Addr) (g:Nat) (args:Int→Int→Int→List Value):T:=
 deref l_0 fun a1=>
 T.load .pointer (a1.add 6) fun (t2:Option Addr)=>
 T.call 20 [(.pointer t2)] (.one aI) fun (t3:Int)=>
 T.block 0 [aI]
 (T.loop [aI] [(.int .i64 (0:Int))] fun (z5:Int×Unit)=>
 cond (decide (z5.1<t3))
 (deref l_0 fun a6=>
 T.load .pointer (a6.add 6) fun (t7:Option Addr)=>
 T.call 34 [(.pointer t7),(.int .i64 z5.1)] (.one aS) fun (t8:Slc)=>
 T.block 2 [aI]
 (T.loop [aI] [(.int .i64 (0:Int))] fun (z10:Int×Unit)=>
 cond (decide (z10.1< ((t8.2.1:Nat):Int)))
 (deref t8.1 fun a11=>
 chk (0≤z10.1∧z10.1< (t8.2.1:Nat)) <|
 T.load (.int .i64) (a11.add (Int.toNat z10.1 * 2)) fun (t12:Int)=>
 T.load (.int .i64) ((a11.add (Int.toNat z10.1 * 2)).add 1) fun (t13:Int)=>
 T.new (.cells #[(.int .i64 (0:Int)),(.int .i64 (0:Int))] 73 (0,0)) fun r14=>
 T.store ⟨r14,0,none⟩ (.int .i64 t12) <|
 T.store ⟨r14,1,none⟩ (.int .i64 t13) <|
 deref l_0 fun a15=>
 T.load .slice a15 fun (t16:Slc)=>
 T.load .slice (a15.add 1) fun (t17:Slc)=>
 T.load .slice (a15.add 2) fun (t18:Slc)=>
 T.load .slice (a15.add 3) fun (t19:Slc)=>
 T.load .slice (a15.add 4) fun (t20:Slc)=>
 T.load .slice (a15.add 5) fun (t21:Slc)=>
 T.load (.int .i64) ⟨r14,0,none⟩ fun (t22:Int)=>
 T.call 86 [(.agg #[(sv t16),(sv t17),(sv t18),(sv t19),(sv t20),(sv t21)]),(.int .i64 t22)] (.one aB) fun (t23:Bool)=>
 T.join []
 (cond (!t23)
 (T.load (.int .i64) ⟨r14,0,none⟩ fun (t25:Int)=>
 T.load (.int .i64) ⟨r14,1,none⟩ fun (t26:Int)=>
 T.call g (args z5.1 t25 t26) (.tuple []) fun (_:Unit)=>
 T.out [])
 (T.out [])) fun (_:Unit)=>
 T.out [(.int .i64 (IntKind.wrap .i64 (z10.1+(1:Int))))])
 (T.brk 2 [(.int .i64 z10.1)])) fun (_:Int×Unit)=>
 T.out [(.int .i64 (IntKind.wrap .i64 (z5.1+(1:Int))))])
 (T.brk 0 [(.int .i64 z5.1)])) fun (_:Int×Unit)=>
 T.ret (.tuple #[])
section
variable {φ ψ:AC} {h:AF} {F:List Chk} {a:Addr} {t:Slc×Slc×Slc×Slc×Slc×Slc×Unit} {p:dtP} {ap:Option Addr} {A:dtA}
theorem OA {K:Bool→T} {P:BW→AF→Prop} {b:Nat} {v:Value} {s:Int} (cells: ∀j v,(plV t)[j]? =some v→Az h (a.add j)=some v) (hs:Az h ⟨b,0,none⟩=some (.int .i64 s)) (k:PlK φ t p) (st:St φ F h) {r:Bool} (hd:Bc p s=some r)
 (hk: ∀ψ h',Sub φ ψ→St ψ F h'→(K r).wp Tryz.prog P h'):
 (T.load .slice a fun (t6:Slc)=>T.load .slice (a.add 1) fun (t7:Slc)=>T.load .slice (a.add 2) fun (t8:Slc)=>T.load .slice (a.add 3) fun (t9:Slc)=>T.load .slice (a.add 4) fun (t10:Slc)=>T.load .slice (a.add 5) fun (t11:Slc)=>
  T.load (.int .i64) ⟨b,0,none⟩ fun (t22:Int)=>
  T.call 86 [(.agg #[(sv t6),(sv t7),(sv t8),(sv t9),(sv t10),(sv t11)]),(.int .i64 t22)] (.one aB) K).wp Tryz.prog P h:=by
 refine AE (x:=t.1) (by have:=cells 0 _ rfl; rwa [add_zero] at this) rfl ?_
 refine AE (x:=t.2.1) (cells 1 _ rfl) rfl ?_
 refine AE (x:=t.2.2.1) (cells 2 _ rfl) rfl ?_
 refine AE (x:=t.2.2.2.1) (cells 3 _ rfl) rfl ?_
 refine AE (x:=t.2.2.2.2.1) (cells 4 _ rfl) rfl ?_
 refine AE (x:=t.2.2.2.2.2.1) (cells 5 _ rfl) rfl ?_
 refine AE (x:=s) hs rfl ?_
 refine AJ (DJ (p_0:=t) k.k0 k.k1 k.k2 k.k3 k.k4 k.k5 st hd) ?_
 rintro _ h1 ⟨ψ,y,le,rfl,rfl,s1⟩
 exact ⟨y,rfl,hk ψ h1 le s1⟩
set_option maxHeartbeats 2000000 in
theorem Pb {X σ:Type} (Γ:X→List Chk) (al:X→σ) (f:σ→Stp→Int→Option σ) (g:Nat) (args:Int→Int→Int→List Value)
 (hcells: ∀ψ x w Δ,Sub φ ψ→St ψ (Γ x++Δ) w→ ∀j v,(plV t++ [.pointer ap])[j]? =some v→Az w (a.add j)=some v)
 (hcall: ∀ψ w x s' n s to Δ,Sub φ ψ→St ψ (Γ x++Δ) w→f (al x) (n,s) to=some s'→CallsH Tryz.prog g (args n s to) w (Ai fun v h'=>v= .tuple #[] ∧ ∃ψ' x',Sub ψ ψ'∧al x'=s'∧St ψ' (Γ x'++Δ) h'))
 (kA:Pt E1 φ ap A) (kP:PlK φ t p) {x:X} {s':σ} (hd:PA p A f (al x)=some s') (s0:St φ (Γ x++F) h):
 (SP (some a) g args).wp Tryz.prog (LT (Ai fun v h'=>v= .tuple #[] ∧ ∃ψ x',Sub φ ψ∧al x'=s'∧St ψ (Γ x'++F) h')) h:=by
 unfold SP
 unfold PA at hd
 obtain ⟨n,hn,hd⟩:=bS hd
 have pc: ∀ {ψ x w Δ},Sub φ ψ→St ψ (Γ x++Δ) w→ ∀j v,(plV t)[j]? =some v→Az w (a.add j)=some v:=fun {ψ x w Δ} le st j v hv=>hcells ψ x w Δ le st j v (by rw [List.getElem?_append_left (List.getElem?_eq_some_iff.1 hv).1]; exact hv)
 refine AG _ rfl ?_
 refine AE (x:=ap) (hcells _ _ _ _ (Sub.refl _) s0 6 _ rfl) rfl ?_
 refine AJ (Cb kA s0 hn) ?_
 rintro _ h1 ⟨ψ1,y,le1,rfl,rfl,st1⟩
 refine ⟨y,rfl,?_⟩
 refine AS (fun (z:Int×Unit) w g=> ∃ψ x',Sub φ ψ∧al x'=g∧St ψ (Γ x'++F) w) (g:=s') ?_ ?_
 ·refine Ax hd (fun i (z:Int×Unit) w g=>z.1=i∧ ∃ψ x',Sub φ ψ∧al x'=g∧St ψ (Γ x'++F) w) ((0:Int),()) rfl ⟨rfl,ψ1,x,le1,rfl,st1⟩ ?_ ?_
  ·rintro i z w s e ⟨rfl,ψ,x1,le,rfl,st⟩ he h0 hlt hw
   refine Ad (decide_eq_true hlt) ?_
   obtain ⟨es,hes,he⟩:=bS he
   refine AG _ rfl ?_
   refine AE (x:=ap) (hcells _ _ _ _ le st 6 _ rfl) rfl ?_
   refine AJ (Ee (kA.mono le) st hes) ?_
   rintro _ h2 ⟨ψ2,t8,l2,le2,rfl,rfl,k8,st2⟩
   refine ⟨t8,rfl,?_⟩
   have n8:=k8.length
   refine AS (fun (z:Int×Unit) w g=> ∃ψ x',Sub φ ψ∧al x'=g∧St ψ (Γ x'++F) w) (g:=e) ?_ ?_
   ·refine Ax he (fun i (z:Int×Unit) w g=>z.1=i∧ ∃ψ' x',Sub ψ2 ψ'∧al x'=g∧St ψ' (Γ x'++F) w) ((0:Int),()) rfl ⟨rfl,ψ2,x1,Sub.refl _,rfl,st2⟩ ?_ ?_
    ·rintro i2 z2 w2 s2 e2 ⟨rfl,ψ3,x3,le3,rfl,st3⟩ he2 h02 hlt2 hw2
     have le03:=(le.trans le2).trans le3
     refine Ad (by rw [n8]; exact decide_eq_true hlt2) ?_
     obtain ⟨ed,hed,he2⟩:=bS he2
     obtain ⟨tm,htm,he2⟩:=bS he2
     obtain ⟨A1,cs1,ea1,hi1,q1,cl1⟩:=(k8.mono le3).get hed
     refine AG _ ea1 (Aa hi1 ?_)
     obtain ⟨_,_,rfl,q2,q3⟩:=q1
     obtain rfl:=q2
     obtain rfl:=q3
     refine AE (x:=ed.1) (AD st3.sub (cl1 0 _ rfl)) rfl ?_
     refine AE (x:=ed.2) (by rw [AV]; exact AD st3.sub (cl1 1 _ rfl)) rfl ?_
     refine AR (vs:= [.int .i64 0, .int .i64 0]) st3 ?_
     intro r14 h3 st4
     refine CA (b:=r14) (j:=0) (v:= .int .i64 ed.1) st4 rfl (by simp) ?_
     intro h4 st5
     refine CA (b:=r14) (j:=1) (v:= .int .i64 ed.2) st5 rfl (by simp) ?_
     intro h5 st6
     have st7:St ψ3 (Γ x3++(⟨Rep.raw 73, [.pointer (some ⟨r14,0,none⟩)], [.int .i64 ed.1, .int .i64 ed.2]⟩::F)) h5:=st6.perm (List.perm_middle (l₁:=Γ x3)).symm
     refine AG _ rfl (OA (v:= .nilFunc) (pc le03 st7) (st6.cell rfl) (kP.mono le03) st7 htm ?_)
     intro ψ4 h6 le4 st8
     refine AX (fun (_:Unit) w g=> ∃ψ' x',Sub ψ2 ψ'∧al x'=g∧St ψ' (Γ x'++F) w) (g:=e2) ?_ ?_
     ·refine AI he2 rfl (fun _ he2=> ?_) (fun _ he2=> ?_)
      ·have st9:St ψ4 (⟨Rep.raw 73, [.pointer (some ⟨r14,0,none⟩)], [.int .i64 ed.1, .int .i64 ed.2]⟩::(Γ x3++F)) h6:=st8.perm (List.perm_middle (l₁:=Γ x3))
       refine AA (b:=r14) (j:=0) (x:=ed.1) st9 rfl ?_
       refine AA (b:=r14) (j:=1) (x:=ed.2) st9 rfl ?_
       refine AJ (hcall ψ4 h6 x3 e2 z.1 ed.1 ed.2 _ (le03.trans le4) st8 he2) ?_
       rintro _ h7 ⟨rfl,ψ5,x5,le5,hx5,st10⟩
       refine ⟨(),rfl,?_⟩
       have st11:St ψ5 (⟨Rep.raw 73, [.pointer (some ⟨r14,0,none⟩)], [.int .i64 ed.1, .int .i64 ed.2]⟩::(Γ x5++F)) h7:=st10.perm (List.perm_middle (l₁:=Γ x5))
       exact AM () rfl ⟨ψ5,x5,(le3.trans le4).trans le5,hx5,st11.tail⟩
      ·obtain rfl:=iS he2
       have st9:St ψ4 (⟨Rep.raw 73, [.pointer (some ⟨r14,0,none⟩)], [.int .i64 ed.1, .int .i64 ed.2]⟩::(Γ x3++F)) h6:=st8.perm (List.perm_middle (l₁:=Γ x3))
       exact AM () rfl ⟨ψ4,x3,le3.trans le4,rfl,st9.tail⟩
     ·rintro _ h7 H
      exact Ac (IntKind.wrap .i64 (z2.1+(1:Int)),()) _ rfl rfl ⟨hw2,H⟩
    ·rintro i2 z2 w2 ⟨rfl,ψ3,x3,le3,H⟩ hge
     refine AU (by rw [n8]; exact decide_eq_false (Int.not_lt.2 hge)) ?_
     exact AL (AO z2 rfl ⟨ψ3,x3,(le.trans le2).trans le3,H⟩)
   ·rintro _ h7 H
    exact Ac (IntKind.wrap .i64 (z.1+(1:Int)),()) _ rfl rfl ⟨hw,H⟩
  ·rintro i z w ⟨rfl,H⟩ hge
   refine AU (decide_eq_false (Int.not_lt.2 hge)) ?_
   exact AL (AO z rfl H)
 ·rintro _ h7 H
  exact AB ⟨rfl,H⟩
end
theorem NE:Mr Tryz.prog 224:=⟨_,_,Tryz.underlying224,by kernel_rfl,by decide,by decide,rfl,rfl,Tryz.underlying3,Tryz.underlying3⟩
theorem OB:Mr Tryz.prog 141:=⟨_,_,Tryz.underlying141,by kernel_rfl,by decide,by decide,rfl,rfl,Tryz.underlying3,Tryz.underlying3⟩
theorem SQ:Fo Tryz.prog 134 134 224 2:=⟨Tryz.underlying134, .inl Tryz.underlying134,⟨Tryz.t224,by kernel_rfl,rfl,⟨_,rfl,rfl⟩,by decide,by decide⟩,by decide⟩
abbrev lkV (t:Slc×Slc×Slc×Slc×Slc×Slc×Unit) (ap:Option Addr) (fz:Slc×Slc×Slc×Int×Unit) (sl:Slc) (nm lm:Nat):List Value:=
 plV t++ [.pointer ap,sv fz.1,sv fz.2.1,sv fz.2.2.1, .int .i64 fz.2.2.2.1,sv sl, .map (some nm), .map (some lm)]
abbrev lkB (b:Nat) (t:Slc×Slc×Slc×Slc×Slc×Slc×Unit) (ap:Option Addr) (fz:Slc×Slc×Slc×Int×Unit) (sl:Slc) (nm lm:Nat):Chk:=cW 138 b (lkV t ap fz sl nm lm)
structure EnX where
 sl:Slc
 steps:List Stp
 num:List (Stp×Int)
abbrev enC (b:Nat) (t:Slc×Slc×Slc×Slc×Slc×Slc×Unit) (ap:Option Addr) (fz:Slc×Slc×Slc×Int×Unit) (nm lm:Nat) (x:EnX):List Chk:=
 [lkB b t ap fz x.sl nm lm,cR 224 Nh x.sl x.steps,cM CP (Ro.int .i64) nm x.num]
section
variable {φ ψ:AC} {h:AF} {F:List Chk} {t:Slc×Slc×Slc×Slc×Slc×Slc×Unit} {p:dtP} {ap:Option Addr} {A:dtA} {fz:Slc×Slc×Slc×Int×Unit} {nm lm b:Nat}
theorem QM {x:EnX} {n s to:Int} {r:EnS} (hd:Kq (x.steps,x.num) (n,s) to=some r) (s0:St φ (enC b t ap fz nm lm x++F) h):
 CallsH Tryz.prog 108 [.pointer (some ⟨b,0,none⟩), .agg #[.int .i64 n, .int .i64 s], .int .i64 to] h (Ai fun v h'=>v= .tuple #[] ∧ ∃ψ x',Sub φ ψ∧(x'.steps,x'.num)=r∧St ψ (enC b t ap fz nm lm x'++F) h'):=by
 refine AN mixed Tryz.func108 ?_
 rw [show AT Tryz.prog Tryz.f108 [.pointer (some ⟨b,0,none⟩), .agg #[.int .i64 n, .int .i64 s], .int .i64 to] =D3 (some ⟨b,0,none⟩) (n,s,()) to from Ir (some ⟨b,0,none⟩) (n,s,()) to]
 unfold D3
 unfold Kq at hd
 obtain ⟨l,hl,hd⟩:=bS hd
 obtain rfl:=iS hd
 have hlen:=(s0.at1).rowLen
 refine AR (vs:= [.int .i64 n, .int .i64 s]) s0 ?_
 intro r1 h1 s1
 refine AG _ rfl ?_
 refine AA (b:=b) (j:=12) (x:=some nm) s1.at1 rfl ?_
 refine AA (b:=r1) (j:=0) (x:=n) s1 rfl ?_
 refine AA (b:=r1) (j:=1) (x:=s) s1 rfl ?_
 refine AG _ rfl ?_
 refine AA (b:=b) (j:=11) (x:=x.sl) s1.at1 rfl ?_
 refine IP (kk:=CP) (k:=(n,s)) (y:=((x.steps.length:Nat):Int)) Tryz.underlying135 NE (s1.at3) (by rw [← hlen]; rfl) ?_
 intro h2 s2
 refine AG _ rfl ?_
 refine AA (b:=b) (j:=11) (x:=x.sl) (s2.at2) rfl ?_
 refine AA (b:=r1) (j:=0) (x:=n) (s2.at1) rfl ?_
 refine AA (b:=r1) (j:=1) (x:=s) (s2.at1) rfl ?_
 refine AR (vs:= [.int .i64 n, .int .i64 s]) s2 ?_
 intro r13 h3 s3
 refine AK (s3.at3.cell (b:=b) (j:=11) rfl) ?_
 have cw:=St.cells s3
 refine Ab (r:=Nh) (ms:= [(n,s)]) SQ (s3.at4) rfl cw (.cons (a:= [_,_]) ⟨[_],_,rfl,rfl,rfl⟩ .nil) rfl hl ?_
 intro t14 h4 s4
 refine AG _ rfl ?_
 refine CA (b:=b) (j:=11) (v:=sv t14) (s4.at4) rfl (by simp) ?_
 intro h5 s5
 refine AB ⟨rfl,φ,⟨t14,l,Bp (n,s) ((x.steps.length:Nat):Int) x.num⟩,Sub.refl _,rfl,s5.at2.tail.at3.tail⟩
theorem TX (l k:Option Addr):GA l k=SP l 108 fun n s to=> [.pointer k, .agg #[.int .i64 n, .int .i64 s], .int .i64 to] :=rfl
theorem RZ (kA:Pt E1 φ ap A) (kP:PlK φ t p) {x:EnX} {s':EnS} (hd:PA p A Kq (x.steps,x.num)=some s') (s0:St φ (enC b t ap fz nm lm x++F) h):
 CallsH Tryz.prog 107 [.pointer (some ⟨b,0,none⟩), .func (.func 108) #[.pointer (some ⟨b,0,none⟩)] #[]] h (Ai fun v h'=>v= .tuple #[] ∧ ∃ψ x',Sub φ ψ∧(x'.steps,x'.num)=s'∧St ψ (enC b t ap fz nm lm x'++F) h'):=by
 refine AN mixed Tryz.func107 ?_
 rw [Ip,TX]
 refine Pb (φ:=φ) (F:=F) (A:=A) (ap:=ap) (t:=t) (p:=p) (fun x:EnX=>enC b t ap fz nm lm x) (fun x=>(x.steps,x.num)) Kq _ _ ?_ ?_ kA kP hd s0
 ·intro ψ x w Δ le st j v hv
  have hc:(lkV t ap fz x.sl nm lm)[j]? =some v:=by
   have e:lkV t ap fz x.sl nm lm=(plV t++ [.pointer ap]) ++ [sv fz.1,sv fz.2.1,sv fz.2.2.1, .int .i64 fz.2.2.2.1,sv x.sl, .map (some nm), .map (some lm)] :=rfl
   rw [e,List.getElem?_append_left (List.getElem?_eq_some_iff.1 hv).1]
   exact hv
  rw [DY,Nat.zero_add]
  exact St.cell st hc
 ·intro ψ w x s' n s to Δ le st hf
  exact QM hf st
end
abbrev UB:Type:=MV
abbrev lkT (p:dtP) (A:dtA) (fa:dtF) (steps:List Stp) (nm lm:Option Nat):UB:=(p.1,p.2.1,p.2.2.1,p.2.2.2.1,p.2.2.2.2.1,p.2.2.2.2.2,A,fa.1,fa.2.1,fa.2.2.1,fa.2.2.2,steps,nm,lm)
structure LkK (φ:AC) (a:Addr) (t:Slc×Slc×Slc×Slc×Slc×Slc×Unit) (ap:Option Addr) (fz:Slc×Slc×Slc×Int×Unit) (sl:Slc) (nm lm:Nat) (p:dtP) (A:dtA) (fa:dtF) (steps:List Stp):Prop where
 cells:Cf φ (some a) (lkV t ap fz sl nm lm)
 pl:PlK φ t p
 kA:Pt E1 φ ap A
 f0:Ro.SliceIs Ro.bool φ fz.1 fa.1
 f1:Ro.SliceIs (Ro.list (Ro.int .i64)) φ fz.2.1 fa.2.1
 f2:Ro.SliceIs (Ro.list (Ro.int .i64)) φ fz.2.2.1 fa.2.2.1
 f3:fz.2.2.2.1=fa.2.2.2
 ks:Ro.SliceIs Nh φ sl steps
section
variable {φ ψ:AC} {h:AF} {F:List Chk} {a:Addr} {t:Slc×Slc×Slc×Slc×Slc×Slc×Unit} {p:dtP} {ap:Option Addr} {A:dtA} {fz:Slc×Slc×Slc×Int×Unit} {sl:Slc} {nm lm b:Nat} {fa:dtF} {steps:List Stp}
theorem LkK.mono (H:LkK φ a t ap fz sl nm lm p A fa steps) (hs:Sub φ ψ):LkK ψ a t ap fz sl nm lm p A fa steps:=
 ⟨H.cells.mono hs,H.pl.mono hs,H.kA.mono hs,H.f0.mono hs,H.f1.mono hs,H.f2.mono hs,H.f3,H.ks.mono hs⟩
theorem LkK.at (H:LkK φ a t ap fz sl nm lm p A fa steps) (st:St φ F h) {j:Nat} {v:Value} (hv:(lkV t ap fz sl nm lm)[j]? =some v):Az h (a.add j)=some v:=AD st.sub (H.cells.at j hv)
theorem LkK.pv (H:LkK φ a t ap fz sl nm lm p A fa steps) (st:St φ F h): ∀j v,(plV t)[j]? =some v→Az h (a.add j)=some v:=fun j v hv=>H.at st (by
 rw [List.getElem?_append_left (List.getElem?_eq_some_iff.1 hv).1]; exact hv)
theorem LkK.pt (H:LkK φ a t ap fz sl nm lm p A fa steps):Pt Qs φ (some a) (lkT p A fa steps (some nm) (some lm)):=by
 refine ⟨a,_,rfl,?_,H.cells⟩
 exact ⟨[_],_,rfl,⟨t.1,rfl,H.pl.k0⟩, [_],_,rfl,⟨t.2.1,rfl,H.pl.k1⟩, [_],_,rfl,⟨t.2.2.1,rfl,H.pl.k2⟩, [_],_,rfl,⟨t.2.2.2.1,rfl,H.pl.k3⟩, [_],_,rfl,⟨t.2.2.2.2.1,rfl,H.pl.k4⟩, [_],_,rfl,⟨t.2.2.2.2.2.1,rfl,H.pl.k5⟩, [_],_,rfl,⟨ap,rfl,H.kA⟩,
  [_],_,rfl,⟨fz.1,rfl,H.f0⟩, [_],_,rfl,⟨fz.2.1,rfl,H.f1⟩, [_],_,rfl,⟨fz.2.2.1,rfl,H.f2⟩, [_],_,rfl,(show [Value.int .i64 fz.2.2.2.1] = [Value.int .i64 fa.2.2.2] by rw [H.f3]), [_],_,rfl,⟨sl,rfl,H.ks⟩, [_],_,rfl,rfl,rfl⟩
end
abbrev RdS:Type:=List Af×List (List Int)
noncomputable def OC (p:dtP) (A:dtA) (fa:dtF) (steps:List Stp) (num:List (Stp×Int)) (st:RdS) (s:Stp) (to:Int):Option RdS:=
 (Bk (nT p)).bind fun s0=>
 (B8 (lkT p A fa steps none none) to 0).bind fun b=>
 (cond b ((Ak s0 0).bind fun u=>some u.2) (some s0)).bind fun s1=>
 (Cd A to).bind fun es=>
 (forS (σ:=Af×List Int) 0 ((es.length:Nat):Int) (s1, []) fun j z=>(idx es j).bind fun e=>(Bc p e.1).bind fun t=>
  cond t ((Ak z.1 e.1).bind fun u=>some (u.2,z.2))
   ((idx fa.1 (IntKind.wrap .i64 (e.1 - nT p))).bind fun b=>cond b ((app z.2 [(B1 (to,e.1) num).getD 0]).bind fun l=>some (z.1,l)) (some z))).bind fun z=>
 (app st.1 [z.1]).bind fun d'=>(app st.2 [z.2]).bind fun e'=>some (d',e')
structure RdX where
 dl:Slc
 el:Slc
 ps:List (Option Addr)
 ds:List Af
 es:List (List Int)
 eq:ps.length=ds.length
abbrev rdC (c3 c4 nm:Nat) (num:List (Stp×Int)) (x:RdX):List Chk:=
 cW 195 c3 [sv x.dl] ::cW 97 c4 [sv x.el] ::D8 x.dl x.ps::Oz x.el x.es::cM CP (Ro.int .i64) nm num::AQ x.ps x.ds
theorem Ra:Fo Tryz.prog 30 30 3 1:=Q2
section
variable {φ ψ:AC} {h:AF} {F:List Chk} {a:Addr} {t:Slc×Slc×Slc×Slc×Slc×Slc×Unit} {p:dtP} {ap:Option Addr} {A:dtA} {fz:Slc×Slc×Slc×Int×Unit} {sl:Slc} {nm lm b:Nat} {fa:dtF} {steps:List Stp}
theorem NF {c3 c4:Nat} {num:List (Stp×Int)} {x:RdX} {q:Option Addr} {s:Af} {d e:Slc} {es:List (List Int)}
 (H:St φ (cW 97 c4 [sv e] ::cW 195 c3 [sv d] ::Oz e es::D8 d (x.ps++ [q])::BH q s::cM CP (Ro.int .i64) nm num::(AQ x.ps x.ds++F)) h):
 St φ (rdC c3 c4 nm num ⟨d,e,x.ps++ [q],x.ds++ [s],es,by simp [x.eq]⟩ ++F) h:=by
 have e1:AQ (x.ps++ [q]) (x.ds++ [s])=AQ x.ps x.ds++ [BH q s] :=I4 x.eq q s
 show St φ (cW 195 c3 [sv d] ::cW 97 c4 [sv e] ::D8 d (x.ps++ [q])::Oz e es::cM CP (Ro.int .i64) nm num::(AQ (x.ps++ [q]) (x.ds++ [s]) ++F)) h
 rw [e1,List.append_assoc]
 refine H.perm ?_
 refine (List.Perm.swap _ _ _).trans (List.Perm.cons _ (List.Perm.cons _ ((List.Perm.swap _ _ _).trans (List.Perm.cons _ (List.Perm.cons _ ((List.Perm.swap _ _ _).trans (List.Perm.cons _ ?_)))))))
 exact (List.perm_middle (l₁:=AQ x.ps x.ds)).symm
set_option maxHeartbeats 4000000 in
theorem PB {c2 c3 c4:Nat} (K:LkK φ a t ap fz sl nm lm p A fa steps) (hbox:DF φ ⟨c2,0,none⟩=some (.pointer (some a))) {num:List (Stp×Int)} {x:RdX} {n s to:Int} {r:RdS} (hd:OC p A fa steps num (x.ds,x.es) (n,s) to=some r) (s0:St φ (rdC c3 c4 nm num x++F) h):
 CallsH Tryz.prog 137 [.agg #[.int .i64 n, .int .i64 s], .int .i64 to, .pointer (some ⟨c2,0,none⟩), .pointer (some ⟨c3,0,none⟩), .pointer (some ⟨c4,0,none⟩)] h (Ai fun v h'=>v= .tuple #[] ∧ ∃ψ x',Sub φ ψ∧(x'.ds,x'.es)=r∧St ψ (rdC c3 c4 nm num x'++F) h'):=by
 refine AN mixed Tryz.func137 ?_
 rw [show AT Tryz.prog Tryz.f137 [.agg #[.int .i64 n, .int .i64 s], .int .i64 to, .pointer (some ⟨c2,0,none⟩), .pointer (some ⟨c3,0,none⟩), .pointer (some ⟨c4,0,none⟩)] =DP (n,s,()) to c2 c3 c4 from Hb (n,s,()) to c2 c3 c4]
 unfold DP
 unfold OC at hd
 obtain ⟨s00,hs0,hd⟩:=bS hd
 obtain ⟨b,hb,hd⟩:=bS hd
 obtain ⟨s01,hs1,hd⟩:=bS hd
 obtain ⟨es,hes,hd⟩:=bS hd
 obtain ⟨zz,hzz,hd⟩:=bS hd
 obtain ⟨d',hd',hd⟩:=bS hd
 obtain ⟨e',he',hd⟩:=bS hd
 obtain rfl:=iS hd
 have bx: ∀ {ψ:AC} {Γ:List Chk} {w:AF},Sub φ ψ→St ψ Γ w→Az w ⟨c2,0,none⟩=some (.pointer (some a)):=fun le st=>AD st.sub (Ah le hbox)
 have n0:t.1.2.1=p.1.length:=K.pl.k0.length
 refine AR (vs:= [.int .i64 n, .int .i64 s]) s0 ?_
 intro r1 h1 s1
 have s1:=s1.tail
 refine AE (x:=some a) (bx (Sub.refl _) s1) rfl ?_
 refine AG _ rfl ?_
 refine AE (x:=t.1) (by have:=K.at s1 (j:=0) rfl; rwa [add_zero] at this) rfl ?_
 rw [n0]
 refine AJ (DN s1 hs0) ?_
 rintro _ h2 ⟨ψ2,q,l2,le2,rfl,rfl,s2⟩
 refine ⟨q,rfl,?_⟩
 refine AE (x:=some a) (bx le2 s2) rfl ?_
 refine AJ (FU (K.mono le2).pt s2 (show B8 (lkT p A fa steps (some nm) (some lm)) to 0=some b from hb)) ?_
 rintro _ h3 ⟨ψ3,y3,le3,rfl,rfl,s3⟩
 refine ⟨y3,rfl,?_⟩
 have le03:=le2.trans le3
 refine AX (fun (_:Unit) w g=> ∃ψ,Sub φ ψ∧St ψ (BH q g::(rdC c3 c4 nm num x++F)) w) (g:=s01) ?_ ?_
 ·refine AI hs1 rfl (fun _ hs1=> ?_) (fun _ hs1=> ?_)
  ·obtain ⟨u,hu,hs1⟩:=bS hs1
   obtain rfl:=iS hs1
   refine AJ (B0 s3 hu) ?_
   rintro _ h4 ⟨ψ4,y4,l4,le4,rfl,e4,s4⟩
   refine ⟨y4,rfl,?_⟩
   have:u.2=l4:=by rw [← e4]
   rw [this]
   exact AM () rfl ⟨ψ4,le03.trans le4,s4⟩
  ·obtain rfl:=iS hs1
   exact AM () rfl ⟨ψ3,le03,s3⟩
 ·rintro _ h4 ⟨ψ4,le4,s4⟩
  refine AE (x:=some a) (bx le4 s4) rfl ?_
  refine AG _ rfl ?_
  refine AE (x:=ap) ((K.mono le4).at s4 (j:=6) rfl) rfl ?_
  refine AJ (Ee (K.mono le4).kA s4 hes) ?_
  rintro _ h5 ⟨ψ5,t13,l5,le5,rfl,rfl,k13,s5⟩
  refine ⟨t13,rfl,?_⟩
  have n13:=k13.length
  have le05:=le4.trans le5
  refine AS (fun (z:Int×Slc×Unit) w g=> ∃ψ,Sub φ ψ∧St ψ (cR 3 (Ro.int .i64) z.2.1 g.2::BH q g.1::(rdC c3 c4 nm num x++F)) w) (g:=zz) ?_ ?_
  ·refine Ax hzz (fun i (z:Int×Slc×Unit) w g=>z.1=i∧ ∃ψ,Sub ψ5 ψ∧St ψ (cR 3 (Ro.int .i64) z.2.1 g.2::BH q g.1::(rdC c3 c4 nm num x++F)) w) ((0:Int),((none,0,0):Slc),()) rfl ⟨rfl,ψ5,Sub.refl _,St.nil _ _ s5⟩ ?_ ?_
   ·rintro i z w ⟨gs,gl⟩ e ⟨rfl,ψ6,le6,s6⟩ he h0 hlt hw
    dsimp only at s6 he
    have le06:=le05.trans le6
    refine Ad (by rw [n13]; exact decide_eq_true hlt) ?_
    obtain ⟨ed,hed,he⟩:=bS he
    obtain ⟨tm,htm,he⟩:=bS he
    obtain ⟨A1,cs1,ea1,hi1,q1,cl1⟩:=(k13.mono le6).get hed
    refine AG _ ea1 (Aa hi1 ?_)
    obtain ⟨_,_,rfl,q2,q3⟩:=q1
    obtain rfl:=q2
    obtain rfl:=q3
    refine AE (x:=ed.1) (AD s6.sub (cl1 0 _ rfl)) rfl ?_
    refine AE (x:=ed.2) (by rw [AV]; exact AD s6.sub (cl1 1 _ rfl)) rfl ?_
    refine AR (vs:= [.int .i64 0, .int .i64 0]) s6 ?_
    intro r19 h7 s7
    refine CA (b:=r19) (j:=0) (v:= .int .i64 ed.1) s7 rfl (by simp) ?_
    intro h8 s8
    refine CA (b:=r19) (j:=1) (v:= .int .i64 ed.2) s8 rfl (by simp) ?_
    intro h9 s9
    refine AE (x:=some a) (bx le06 s9) rfl ?_
    refine AG _ rfl (OA (v:= .nilFunc) ((K.mono le06).pv s9) (s9.cell rfl) (K.mono le06).pl s9 htm ?_)
    intro ψ10 h10 le10 s10
    have le010:=le06.trans le10
    refine AX (fun (y:Slc×Unit) w g=> ∃ψ,Sub ψ5 ψ∧St ψ (cR 3 (Ro.int .i64) y.1 g.2::BH q g.1::(rdC c3 c4 nm num x++F)) w) (g:=e) ?_ ?_
    ·refine AI he rfl (fun _ he=> ?_) (fun _ he=> ?_)
     ·obtain ⟨u,hu,he⟩:=bS he
      obtain rfl:=iS he
      refine AA (b:=r19) (j:=0) (x:=ed.1) s10 rfl ?_
      refine AJ (B0 (s10.tail.at1) hu) ?_
      rintro _ h11 ⟨ψ11,y11,l11,le11,rfl,e11,s11⟩
      refine ⟨y11,rfl,?_⟩
      have:u.2=l11:=by rw [← e11]
      rw [this]
      exact AM (z.2.1,()) rfl ⟨ψ11,(le6.trans le10).trans le11,s11.at1⟩
     ·obtain ⟨bb,hbb,he⟩:=bS he
      refine AE (x:=some a) (bx le010 s10) rfl ?_
      refine AG _ rfl ?_
      refine AE (x:=fz.1) ((K.mono le010).at s10 (j:=7) rfl) rfl ?_
      refine AA (b:=r19) (j:=0) (x:=ed.1) s10 rfl ?_
      refine AE (x:=some a) (bx le010 s10) rfl ?_
      refine AG _ rfl ?_
      refine AE (x:=t.1) (by have:=(K.mono le010).at s10 (j:=0) rfl; rwa [add_zero] at this) rfl ?_
      rw [n0]
      obtain ⟨A2,cs2,ea2,hi2,q4,cl2⟩:=((K.mono le010).f0).get hbb
      refine AG _ ea2 (Aa hi2 ?_)
      obtain rfl:=q4
      refine AE (x:=bb) (AD s10.sub (cl2 0 _ rfl)) rfl ?_
      refine AX (fun (y:Slc×Unit) w g=> ∃ψ,Sub ψ5 ψ∧St ψ (cR 3 (Ro.int .i64) y.1 g.2::BH q g.1::(rdC c3 c4 nm num x++F)) w) (g:=e) ?_ ?_
      ·refine AI he rfl (fun _ he=> ?_) (fun _ he=> ?_)
       ·obtain ⟨l',hl',he⟩:=bS he
        obtain rfl:=iS he
        refine AE (x:=some a) (bx le010 s10) rfl ?_
        refine AG _ rfl ?_
        refine AE (x:=some nm) ((K.mono le010).at s10 (j:=12) rfl) rfl ?_
        refine AA (b:=r19) (j:=0) (x:=ed.1) s10 rfl ?_
        refine Fj (kk:=CP) (a:= .int .i64) (k:=(to,ed.1)) (m:=num) (0:Int) Tryz.underlying135 NE (i:=Tryz.t3) (by kernel_rfl) rfl (s10.at7) ?_
        refine AR (vs:= [.int .i64 ((B1 (to,ed.1) num).getD 0)]) s10 ?_
        intro r48 h11 s11
        have cw:=St.cells s11
        refine Ab (r:=Ro.int .i64) (ms:= [(B1 (to,ed.1) num).getD 0]) Ra (s11.at2) rfl cw (.cons (a:= [_]) rfl .nil) rfl hl' ?_
        intro t49 h12 s12
        exact AM (t49,()) rfl ⟨ψ10,le6.trans le10,s12.at1.tail.at1.tail⟩
       ·obtain rfl:=iS he
        exact AM (z.2.1,()) rfl ⟨ψ10,le6.trans le10,s10.tail⟩
      ·rintro y h11 H
       exact AM (y.1,()) rfl H
    ·rintro y h11 H
     exact Ac (IntKind.wrap .i64 (z.1+(1:Int)),y.1,()) _ rfl rfl ⟨hw,H⟩
   ·rintro i z w ⟨rfl,ψ6,le6,H⟩ hge
    refine AU (by rw [n13]; exact decide_eq_false (Int.not_lt.2 hge)) ?_
    exact AL (AO z rfl ⟨ψ6,le05.trans le6,H⟩)
  ·rintro z14 h6 ⟨ψ6,le6,s6⟩
   obtain ⟨ψ7,le7,k14,s7⟩:=St.freezeRow (t:=z14.2.1) s6
   have le07:=le6.trans le7
   obtain ⟨hap,rfl⟩:=KR hd' x.eq q
   refine AA (b:=c3) (j:=0) (x:=x.dl) s7.at1 rfl ?_
   refine AA (b:=c4) (j:=0) (x:=x.el) s7.at2 rfl ?_
   refine ED ?_ ?_
   ·refine AR (vs:= [.pointer q]) s7 ?_
    intro r52 h8 s8
    refine AK (s8.at3.cell rfl) ?_
    refine AK (s8.at2.cell rfl) ?_
    have cw:=St.cells s8
    refine ED ?_ ?_
    ·refine Ab (r:=Ro.pt) (ms:= [q]) MZ (s8.at4) rfl cw (.cons (a:= [_]) rfl .nil) rfl hap ?_
     intro t53 h9 s9
     refine AK (s9.at4.cell rfl) ?_
     refine AR (vs:= [sv z14.2.1]) s9 ?_
     intro r54 h10 s10
     refine AK (s10.at5.cell rfl) ?_
     have cw2:=St.cells s10
     refine Ab (r:=Ro.list (Ro.int .i64)) (ms:= [zz.2]) PY (s10.at6) rfl cw2 (.cons (a:= [_]) ⟨z14.2.1,rfl,k14⟩ .nil) rfl he' ?_
     intro t55 h11 s11
     refine CA (b:=c3) (j:=0) (v:=sv t53) (s11.at5) rfl (by simp) ?_
     intro h12 s12
     refine CA (b:=c4) (j:=0) (v:=sv t55) (s12.at6) rfl (by simp) ?_
     intro h13 s13
     exact AB ⟨rfl,ψ7,⟨t53,t55,x.ps++ [q],x.ds++ [zz.1],e',by simp [x.eq]⟩,le07,rfl,NF s13.at3.tail.at4.tail⟩
    ·refine AR (vs:= [sv z14.2.1]) s8 ?_
     intro r56 h9 s9
     refine AK (s9.at4.cell rfl) ?_
     refine AK (s9.at3.cell rfl) ?_
     have cw1:=St.cells s9.at1
     refine Ab (r:=Ro.pt) (ms:= [q]) MZ (s9.at5) rfl cw1 (.cons (a:= [_]) rfl .nil) rfl hap ?_
     intro t57 h10 s10
     refine AK (s10.at5.cell rfl) ?_
     have cw2:=St.cells s10.at1
     refine Ab (r:=Ro.list (Ro.int .i64)) (ms:= [zz.2]) PY (s10.at6) rfl cw2 (.cons (a:= [_]) ⟨z14.2.1,rfl,k14⟩ .nil) rfl he' ?_
     intro t58 h11 s11
     refine CA (b:=c3) (j:=0) (v:=sv t57) (s11.at5) rfl (by simp) ?_
     intro h12 s12
     refine CA (b:=c4) (j:=0) (v:=sv t58) (s12.at6) rfl (by simp) ?_
     intro h13 s13
     exact AB ⟨rfl,ψ7,⟨t57,t58,x.ps++ [q],x.ds++ [zz.1],e',by simp [x.eq]⟩,le07,rfl,NF s13.at4.tail.at4.tail⟩
   ·refine AR (vs:= [sv z14.2.1]) s7 ?_
    intro r59 h8 s8
    refine AK (s8.at3.cell rfl) ?_
    refine AK (s8.at2.cell rfl) ?_
    refine AR (vs:= [.pointer q]) s8 ?_
    intro r60 h9 s9
    refine AK (s9.at4.cell rfl) ?_
    refine AK (s9.at3.cell rfl) ?_
    have cw1:=St.cells s9
    refine Ab (r:=Ro.pt) (ms:= [q]) MZ (s9.at5) rfl cw1 (.cons (a:= [_]) rfl .nil) rfl hap ?_
    intro t61 h10 s10
    refine AK (s10.at5.cell rfl) ?_
    have cw2:=St.cells s10.at2
    refine Ab (r:=Ro.list (Ro.int .i64)) (ms:= [zz.2]) PY (s10.at6) rfl cw2 (.cons (a:= [_]) ⟨z14.2.1,rfl,k14⟩ .nil) rfl he' ?_
    intro t62 h11 s11
    refine CA (b:=c3) (j:=0) (v:=sv t61) (s11.at5) rfl (by simp) ?_
    intro h12 s12
    refine CA (b:=c4) (j:=0) (v:=sv t62) (s12.at6) rfl (by simp) ?_
    intro h13 s13
    exact AB ⟨rfl,ψ7,⟨t61,t62,x.ps++ [q],x.ds++ [zz.1],e',by simp [x.eq]⟩,le07,rfl,NF s13.at4.tail.at4.tail⟩
end
noncomputable def NG (p:dtP) (A:dtA) (fa:dtF) (steps:List Stp) (num:List (Stp×Int)):Option RdS:=PA p A (OC p A fa steps num) ([], [])
noncomputable def Tz (p:dtP) (A:dtA) (fa:dtF) (num:List (Stp×Int)) (n:Int) (right:List Int) (i:Int) (z:Int×List (List Int)):Option (Int×List (List Int)):=
 (idx right i).bind fun sym=>
 need (0≤i∧i< ((right.length:Nat):Int)) <|
 (EQ fa p (right.drop (i+1).toNat)).bind fun sq=>
 (cond sq.2 ((Bc p sym).bind fun t=>some (!t)) (some false)).bind fun b=>
 (cond b ((idx z.2 ((B1 (z.1,sym) num).getD 0)).bind fun row=>(app row [n]).bind fun row'=>EE z.2 ((B1 (z.1,sym) num).getD 0) row') (some z.2)).bind fun E'=>
 (CH A z.1 sym).bind fun st=>some (st,E')
noncomputable def I8 (p:dtP) (A:dtA) (fa:dtF) (steps:List Stp) (num:List (Stp×Int)):Option (List (List Int)):=
 (Gq ((steps.length:Nat):Int) ([] :List Int)).bind fun e0=>
 forS (σ:=List (List Int)) 0 ((steps.length:Nat):Int) e0 fun n E=>(idx steps n).bind fun s=>
  forS (σ:=List (List Int)) 0 ((p.2.2.1.length:Nat):Int) E fun k E=>(idx p.2.2.1 k).bind fun r=>
   cond (r.1 !=s.2) (some E)
    ((forS (σ:=Int×List (List Int)) 0 ((r.2.1.length:Nat):Int) (s.1,E) (Tz p A fa num n r.2.1)).bind fun z=>some z.2)
section
variable {φ ψ:AC} {h:AF} {F:List Chk} {a:Addr} {t:Slc×Slc×Slc×Slc×Slc×Slc×Unit} {p:dtP} {ap:Option Addr} {A:dtA} {fz:Slc×Slc×Slc×Int×Unit} {sl:Slc} {nm lm b:Nat} {fa:dtF} {steps:List Stp}
theorem TY (l:Option Addr) (c2 c3 c4:Nat):GB l c2 c3 c4=SP l 137 fun n s to=> [.agg #[.int .i64 n, .int .i64 s], .int .i64 to, .pointer (some ⟨c2,0,none⟩), .pointer (some ⟨c3,0,none⟩), .pointer (some ⟨c4,0,none⟩)] :=rfl
theorem Rb {c2 c3 c4:Nat} (K:LkK φ a t ap fz sl nm lm p A fa steps) (hbox:DF φ ⟨c2,0,none⟩=some (.pointer (some a))) {num:List (Stp×Int)} {x:RdX} {r:RdS} (hd:PA p A (OC p A fa steps num) (x.ds,x.es)=some r) (s0:St φ (rdC c3 c4 nm num x++F) h):
 CallsH Tryz.prog 107 [.pointer (some a), .func (.func 137) #[] #[.pointer (some ⟨c2,0,none⟩), .pointer (some ⟨c3,0,none⟩), .pointer (some ⟨c4,0,none⟩)]] h (Ai fun v h'=>v= .tuple #[] ∧ ∃ψ x',Sub φ ψ∧(x'.ds,x'.es)=r∧St ψ (rdC c3 c4 nm num x'++F) h'):=by
 refine AN mixed Tryz.func107 ?_
 rw [Iq,TY]
 refine Pb (φ:=φ) (F:=F) (A:=A) (ap:=ap) (t:=t) (p:=p) (fun x:RdX=>rdC c3 c4 nm num x) (fun x=>(x.ds,x.es)) (OC p A fa steps num) _ _ ?_ ?_ K.kA K.pl hd s0
 ·intro ψ x w Δ le st j v hv
  refine (K.mono le).at st ?_
  have e:lkV t ap fz sl nm lm=(plV t++ [.pointer ap]) ++ [sv fz.1,sv fz.2.1,sv fz.2.2.1, .int .i64 fz.2.2.2.1,sv sl, .map (some nm), .map (some lm)] :=rfl
  rw [e,List.getElem?_append_left (List.getElem?_eq_some_iff.1 hv).1]
  exact hv
 ·intro ψ w x s' n s to Δ le st hf
  exact PB (K.mono le) (Ah le hbox) hf st
theorem QN (K:LkK φ a t ap fz sl nm lm p A fa steps) {num:List (Stp×Int)} {r:RdS} (hd:NG p A fa steps num=some r) (s0:St φ (cM CP (Ro.int .i64) nm num::F) h):
 CallsH Tryz.prog 109 [.pointer (some a)] h (Ai fun v h'=> ∃(ψ:AC) (y1 y2:Slc) (ps:List (Option Addr)),Sub φ ψ∧v=((.tuple [aS,aS]):Sh).val (y1,y2,())∧ps.length=r.1.length∧Ro.SliceIs Ro.pt ψ y1 ps∧Ro.SliceIs (Ro.list (Ro.int .i64)) ψ y2 r.2∧St ψ (AQ ps r.1++(cM CP (Ro.int .i64) nm num::F)) h'):=by
 refine AN mixed Tryz.func109 ?_
 rw [Is]
 unfold GC
 unfold NG at hd
 refine AR (vs:= [.pointer (some a)]) s0 ?_
 intro r1 h1 s1
 obtain ⟨φ1,le1,c1,s1⟩:=Dg.St.box s1
 refine AR (vs:= [.slice none 0 0]) s1 ?_
 intro r2 h2 s2
 refine AR (vs:= [.slice none 0 0]) s2 ?_
 intro r3 h3 s3
 refine AE (x:=some a) (AD s3.sub c1) rfl ?_
 have s4:St φ1 (rdC r2 r3 nm num ⟨(none,0,0),(none,0,0), [], [], [],rfl⟩ ++F) h3:=(St.nil 139 Ro.pt (St.nil 30 (Ro.list (Ro.int .i64)) s3.at1)).at3.at3
 refine AJ (Rb (K.mono le1) c1 (x:=⟨(none,0,0),(none,0,0), [], [], [],rfl⟩) hd s4) ?_
 rintro _ h4 ⟨rfl,ψ2,x',le2,hx,s5⟩
 refine ⟨(),rfl,?_⟩
 obtain ⟨dl,el,ps,ds,es,eq⟩:=x'
 obtain rfl:=hx
 refine AA (b:=r2) (j:=0) (x:=dl) s5 rfl ?_
 refine AA (b:=r3) (j:=0) (x:=el) s5.at1 rfl ?_
 obtain ⟨ψ3,le3,k1,s6⟩:=St.freezeRow (t:=dl) s5.at2
 obtain ⟨ψ4,le4,k2,s7⟩:=St.freezeRow (t:=el) s6.at2
 exact AB ⟨ψ4,dl,el,ps,((le1.trans le2).trans le3).trans le4,rfl,eq,k1.mono le4,k2,s7.tail.tail.perm (List.perm_middle (l₁:=AQ ps ds)).symm⟩
end
theorem T0:MT Tryz.prog 97 30 (.slice none 0 0):=⟨Tryz.underlying97,⟨Tryz.t30,by kernel_rfl,rfl,⟨_,rfl,rfl⟩,by decide⟩⟩
theorem Rc {α:Type} {e:TypeId} {r:Ro α} {φ:AC} {h:AF} {F:List Chk} (st:St φ F h): ∀n:Nat,St φ (MU e r (List.replicate n ((none,0,0):Slc)) (List.replicate n []) ++F) h:=by
 intro n
 induction n with
 | zero=>exact st
 | succ n ih=>exact St.nil e r ih
theorem Rd {α:Type} {r:Ro α} {φ:AC} : ∀ {ts:List Slc} {E:List (List α)} {vs:List Value},ts.length=E.length→(∀(i:Nat) t l,ts[i]? =some t→E[i]? =some l→Ro.SliceIs r φ t l)→Ro.slc.All φ vs ts→(Ro.list r).All φ vs E:=by
 intro ts
 induction ts with
 | nil=>
  intro E vs hl hk H
  cases E with
  | nil=>cases H; exact .nil
  | cons _ _=>cases hl
 | cons t ts ih=>
  intro E vs hl hk H
  cases E with
  | nil=>cases hl
  | cons l E=>
   cases H with
   | @cons x v _ _ hx hr=>
    obtain rfl:x= [sv t] :=hx
    exact Ro.All.cons (a:= [_]) ⟨t,rfl,hk 0 t l rfl rfl⟩ (ih (by simpa using hl) (fun i t' l' h1 h2=>hk (i+1) t' l' (by simpa using h1) (by simpa using h2)) hr)
theorem PC {α:Type} {r:Ro α} {φ:AC} {o:Slc} {ts:List Slc} {E:List (List α)} (hl:ts.length=E.length) (hk: ∀(i:Nat) t l,ts[i]? =some t→E[i]? =some l→Ro.SliceIs r φ t l) (H:Ro.SliceIs Ro.slc φ o ts):Ro.SliceIs (Ro.list r) φ o E:=by
 obtain ⟨g1,g2,g3,g4,vs,g5,g6⟩:=H
 exact ⟨hl.symm.trans g1,g2,g3,fun hp=>List.eq_nil_of_length_eq_zero (by rw [← hl,g4 hp]; rfl),vs,Rd hl hk g5,g6⟩
abbrev LF (o:Slc) (ts:List Slc) (E:List (List Int)) (Δ:List Chk):List Chk:=cR 30 Ro.slc o ts::(MU 3 (Ro.int .i64) ts E++Δ)
section
variable {φ ψ:AC} {h:AF} {F:List Chk} {a:Addr} {t:Slc×Slc×Slc×Slc×Slc×Slc×Unit} {p:dtP} {ap:Option Addr} {A:dtA} {fz:Slc×Slc×Slc×Int×Unit} {sl:Slc} {nm lm b:Nat} {fa:dtF} {steps:List Stp}
theorem SR {o:Slc} {ts:List Slc} {E E':List (List Int)} {Δ:List Chk} {k n:Int} {row row':List Int} {K:T} {P:BW→AF→Prop} (hl:ts.length=E.length) (h1:idx E k=some row) (h2:app row [n] =some row') (h3:EE E k row'=some E') (st:St φ (LF o ts E Δ) h)
 (hk: ∀ts' h',ts'.length=E'.length→St φ (LF o ts' E' Δ) h'→K.wp Tryz.prog P h'):
 (deref o.1 fun a57=>chk (0≤k∧k< (o.2.1:Nat)) <| T.load .slice (a57.add (Int.toNat k * 1)) fun (t58:Slc)=>T.new (.cells #[(.int .i64 n)] 3 (0,0)) fun r59=>
  T.sem (Builtin.append_ #[30,30] 30 #[(sv t58),(.slice (some ⟨r59,0,none⟩) 1 1)]) (.one aS) fun (t60:Slc)=>
  deref o.1 fun a61=>chk (0≤k∧k< (o.2.1:Nat)) <| T.store (a61.add (Int.toNat k * 1)) (sv t60) <| K).wp Tryz.prog P h:=by
 obtain ⟨k0,k1,k2⟩:=CO h1
 have hlt:k.toNat<ts.length:=by omega
 have hu:=List.getElem?_eq_getElem hlt
 obtain ⟨u,hu'⟩: ∃u,ts[k.toNat] =u:=⟨_,rfl⟩
 rw [hu'] at hu
 have hi:idx ts k=some u:=by rw [LI k0 hlt,hu']
 obtain ⟨A1,cs1,ea1,hi1,r1,cl1⟩:=St.get st hi
 refine AG _ ea1 (Aa hi1 ?_)
 obtain rfl:=r1
 refine AE (x:=u) (cl1 0 _ rfl) rfl ?_
 refine AR (vs:= [.int .i64 n]) st ?_
 intro r59 h4 s4
 have cw:=St.cells s4
 obtain ⟨rest,p1,p2⟩:=P7 (f:=cR 3 (Ro.int .i64)) hu k2
 have s5:St φ (cR 3 (Ro.int .i64) u row::cW 3 r59 [.int .i64 n] ::cR 30 Ro.slc o ts::(rest++Δ)) h4:=
  s4.perm ((List.Perm.cons _ (List.Perm.cons _ (List.Perm.append_right Δ p1))).trans (Au 2 (cW 3 r59 [.int .i64 n] ::cR 30 Ro.slc o ts::cR 3 (Ro.int .i64) u row::(rest++Δ))))
 refine Ab (r:=Ro.int .i64) (ms:= [n]) Ra s5 rfl cw (.cons (a:= [_]) rfl .nil) rfl h2 ?_
 intro t60 h6 s6
 obtain ⟨e0,e1,rfl⟩:=DS h3
 have hset:EE ts k t60=some (ts.set k.toNat t60):=by unfold EE; rw [if_pos ⟨k0,by omega⟩]
 have s7:=s6.at2
 obtain ⟨A2,ea2,q2⟩:=s7.there hset
 refine AG _ ea2 (Aa q2 (Ho s7 hset rfl ea2 ?_))
 intro h8 s8
 refine hk (ts.set k.toNat t60) h8 (by simp [hl]) ?_
 have s9:=s8.at2.tail
 exact s9.perm (List.Perm.cons _ (List.Perm.append_right Δ (p2 t60 row').symm))
theorem SS {K:Slc→Slc→Slc→Slc→Slc→Slc→T} {P:BW→AF→Prop} (hc: ∀j v,(plV t)[j]? =some v→Az h (a.add j)=some v) (H:(K t.1 t.2.1 t.2.2.1 t.2.2.2.1 t.2.2.2.2.1 t.2.2.2.2.2.1).wp Tryz.prog P h):
 (T.load .slice a fun (t3:Slc)=>T.load .slice (a.add 1) fun (t4:Slc)=>T.load .slice (a.add 2) fun (t5:Slc)=>T.load .slice (a.add 3) fun (t6:Slc)=>T.load .slice (a.add 4) fun (t7:Slc)=>T.load .slice (a.add 5) fun (t8:Slc)=>K t3 t4 t5 t6 t7 t8).wp Tryz.prog P h:=by
 refine AE (x:=t.1) (by have:=hc 0 _ rfl; rwa [add_zero] at this) rfl ?_
 refine AE (x:=t.2.1) (hc 1 _ rfl) rfl ?_
 refine AE (x:=t.2.2.1) (hc 2 _ rfl) rfl ?_
 refine AE (x:=t.2.2.2.1) (hc 3 _ rfl) rfl ?_
 refine AE (x:=t.2.2.2.2.1) (hc 4 _ rfl) rfl ?_
 exact AE (x:=t.2.2.2.2.2.1) (hc 5 _ rfl) rfl H
theorem Bl {b:Nat} {vs:List Value} (c:Cf φ (some ⟨b,0,none⟩) vs) (st:St φ F h) {j:Nat} {v:Value} (hv:vs[j]? =some v):Az h ⟨b,j,none⟩=some v:=by
 have:=AD st.sub (c.at j hv)
 rwa [DY,Nat.zero_add] at this
set_option maxHeartbeats 4000000 in
theorem NH (gk:Dg.Glob φ) (K:LkK φ a t ap fz sl nm lm p A fa steps) {num:List (Stp×Int)} {r:List (List Int)} (hd:I8 p A fa steps num=some r) (s0:St φ (cM CP (Ro.int .i64) nm num::F) h):
 CallsH Tryz.prog 112 [.pointer (some a)] h (Ai fun v h'=> ∃(ψ:AC) (y:Slc),Sub φ ψ∧v=((.one aS):Sh).val y∧Ro.SliceIs (Ro.list (Ro.int .i64)) ψ y r∧St ψ (cM CP (Ro.int .i64) nm num::F) h'):=by
 refine AN mixed Tryz.func112 ?_
 rw [G8]
 unfold Eg
 unfold I8 at hd
 obtain ⟨e0,he0,hd⟩:=bS hd
 obtain ⟨m0,m1,rfl⟩:=LX he0
 have nS:sl.2.1=steps.length:=K.ks.length
 have nR:t.2.2.1.2.1=p.2.2.1.length:=K.pl.k2.length
 obtain ⟨D0,hD0⟩: ∃D0:List Chk,D0=cM CP (Ro.int .i64) nm num::F:=⟨_,rfl⟩
 refine AG _ rfl ?_
 refine AE (x:=sl) (K.at s0 (j:=11) rfl) rfl ?_
 refine IQ (r:=Ro.slc) (x:=((none,0,0):Slc)) (l:=List.replicate ((steps.length:Nat):Int).toNat ((none,0,0):Slc)) T0 s0 rfl rfl (by rw [nS]; unfold Gq; rw [if_pos ⟨m0,m1⟩]) ?_
 intro o h1 s1
 have s2:St φ (LF o (List.replicate ((steps.length:Nat):Int).toNat ((none,0,0):Slc)) (List.replicate ((steps.length:Nat):Int).toNat []) D0) h1:=by
  rw [hD0]
  exact (Rc (e:=3) (r:=Ro.int .i64) s1 _).perm (List.perm_middle (l₁:=MU 3 (Ro.int .i64) _ _))
 refine AG _ rfl ?_
 refine AE (x:=sl) (K.at s2 (j:=11) rfl) rfl ?_
 refine AS (fun (y:Int×Unit) w E=> ∃ψ ts,Sub φ ψ∧ts.length=E.length∧St ψ (LF o ts E D0) w) (g:=r) ?_ ?_
 ·refine Ax hd (fun i (y:Int×Unit) w E=>y.1=i∧ ∃ψ ts,Sub φ ψ∧ts.length=E.length∧St ψ (LF o ts E D0) w) ((0:Int),()) rfl ⟨rfl,φ,_,Sub.refl _,by simp,s2⟩ ?_ ?_
  ·rintro i z w E e ⟨rfl,ψ,ts,le,hl,st⟩ he h0 hlt hw
   refine Ad (by rw [nS]; exact decide_eq_true hlt) ?_
   obtain ⟨s,hs,he⟩:=bS he
   obtain ⟨A1,cs1,ea1,hi1,q1,cl1⟩:=(K.ks.mono le).get hs
   refine AG _ ea1 (Aa hi1 ?_)
   obtain ⟨_,_,rfl,q2,q3⟩:=q1
   obtain rfl:=q2
   obtain rfl:=q3
   refine AE (x:=s.1) (AD st.sub (cl1 0 _ rfl)) rfl ?_
   refine AE (x:=s.2) (by rw [AV]; exact AD st.sub (cl1 1 _ rfl)) rfl ?_
   refine AR (vs:= [.int .i64 0, .int .i64 0]) st ?_
   intro r11 h3 s3
   refine CA (b:=r11) (j:=0) (v:= .int .i64 s.1) s3 rfl (by simp) ?_
   intro h4 s4
   refine CA (b:=r11) (j:=1) (v:= .int .i64 s.2) s4 rfl (by simp) ?_
   intro h5 s5
   obtain ⟨ψ1,le1,cB,s6⟩:=St.blk s5
   have le01:=le.trans le1
   refine AG _ rfl ?_
   refine AE (x:=t.2.2.1) ((K.mono le01).at s6 (j:=2) rfl) rfl ?_
   refine AS (fun (y:Int×Unit) w E=> ∃ψ ts,Sub φ ψ∧ts.length=E.length∧St ψ (LF o ts E D0) w) (g:=e) ?_ ?_
   ·refine Ax he (fun i (y:Int×Unit) w E=>y.1=i∧ ∃ψ ts,Sub ψ1 ψ∧ts.length=E.length∧St ψ (LF o ts E D0) w) ((0:Int),()) rfl ⟨rfl,ψ1,ts,Sub.refl _,hl,s6⟩ ?_ ?_
    ·rintro i2 z2 w2 E2 e2 ⟨rfl,ψ2,ts2,le2,hl2,st2⟩ he2 h02 hlt2 hw2
     have le02:=le01.trans le2
     refine Ad (by rw [nR]; exact decide_eq_true hlt2) ?_
     obtain ⟨ru,hr1,he2⟩:=bS he2
     refine AS (fun (_:Unit) w (_:Unit)=> ∃ψ ts,Sub ψ1 ψ∧ts.length=e2.length∧St ψ (LF o ts e2 D0) w) (g:=()) ?_ ?_
     ·refine LL (K.pl.k2.mono le02) hr1 st2 ?_
      intro r21 u h7 ku s7
      obtain ⟨ψ3,le3,cR1,s8⟩:=St.blk s7
      have ku:=ku.mono le3
      have le03:=le02.trans le3
      have cB3:=cB.mono (le2.trans le3)
      refine AE (x:=ru.1) (Bl cR1 s8 (j:=0) rfl) rfl ?_
      refine AE (x:=s.2) (Bl cB3 s8 (j:=1) rfl) rfl ?_
      refine AI he2 rfl (fun _ he2=> ?_) (fun _ he2=> ?_)
      ·obtain rfl:=iS he2
       exact Ob () rfl ⟨ψ3,ts2,le2.trans le3,hl2,s8⟩
      ·obtain ⟨zz,hzz,he2⟩:=bS he2
       obtain rfl:=iS he2
       refine AE (x:=s.1) (Bl cB3 s8 (j:=0) rfl) rfl ?_
       refine AE (x:=u) (Bl cR1 s8 (j:=1) rfl) rfl ?_
       have nu:=ku.length
       refine AS (fun (y:Int×Int×Unit) w (g:Int×List (List Int))=> ∃ψ ts,Sub ψ1 ψ∧ts.length=g.2.length∧St ψ (LF o ts g.2 D0) w) (g:=zz) ?_ ?_
       ·refine Ax hzz (fun i (y:Int×Int×Unit) w (g:Int×List (List Int))=>y.1=i∧y.2.1=g.1∧ ∃ψ ts,Sub ψ3 ψ∧ts.length=g.2.length∧St ψ (LF o ts g.2 D0) w) ((0:Int),s.1,()) rfl ⟨rfl,rfl,ψ3,ts2,Sub.refl _,hl2,s8⟩ ?_ ?_
        ·rintro i4 z4 w4 ⟨g1,E4⟩ e4 ⟨rfl,hg,ψ4,ts4,le4,hl4,st4⟩ he4 h04 hlt4 hw4
         dsimp only at hg hl4 st4 he4
         subst hg
         have le04:=le03.trans le4
         unfold Tz at he4
         refine Ad (by rw [nu]; exact decide_eq_true hlt4) ?_
         obtain ⟨sym,hsy,he4⟩:=bS he4
         obtain ⟨_,he4⟩:=Bo he4
         obtain ⟨sq,hsq,he4⟩:=bS he4
         obtain ⟨bb,hbb,he4⟩:=bS he4
         obtain ⟨E',hE',he4⟩:=bS he4
         obtain ⟨so,hso,he4⟩:=bS he4
         obtain rfl:=iS he4
         obtain ⟨A4,cs4,ea4,hi4,q4,cl4⟩:=(ku.mono le4).get hsy
         refine AG _ ea4 (Aa hi4 ?_)
         obtain rfl:=q4
         refine AE (x:=sym) (AD st4.sub (cl4 0 _ rfl)) rfl ?_
         refine AG _ rfl ?_
         have K4:=K.mono le04
         refine AE (x:=fz.1) (K4.at st4 (j:=7) rfl) rfl ?_
         refine AE (x:=fz.2.1) (by rw [AV]; exact K4.at st4 (j:=8) rfl) rfl ?_
         refine AE (x:=fz.2.2.1) (by rw [AV]; exact K4.at st4 (j:=9) rfl) rfl ?_
         refine AE (x:=fz.2.2.2.1) (by rw [AV]; exact K4.at st4 (j:=10) rfl) rfl ?_
         refine AG _ rfl (SS (K4.pv st4) ?_)
         refine AE (x:=u) (Bl (cR1.mono le4) st4 (j:=1) rfl) rfl ?_
         obtain ⟨q5,kt⟩:=(ku.mono le4).cut (Og (ku.mono le4) (lo:=IntKind.wrap .i64 (z4.1+1)) (by rw [hw4]; omega) (by rw [hw4]; omega)) (sz:=1) rfl
         refine Aa q5 ?_
         rw [← hw4] at hsq
         refine AJ (JM (f_0:=fz) (p_1:=t) (gk.mono le04) K4.f0 K4.f1 K4.f2 K4.pl.k0 K4.pl.k1 K4.pl.k2 K4.pl.k3 K4.pl.k4 K4.pl.k5 kt st4 (r:=sq) (by rw [K4.f3]; exact hsq)) ?_
         rintro _ h9 ⟨ψ5,y5,l5,le5,rfl,e5,k5,st5⟩
         refine ⟨y5,rfl,?_⟩
         have e5':sq.2=y5.2.1:=by rw [← e5]
         rw [e5'] at hbb
         have le05:=le04.trans le5
         refine AX (fun (y:Bool×Unit) w g=>y.1=g∧ ∃ψ,Sub ψ5 ψ∧St ψ (LF o ts4 E4 D0) w) (g:=bb) ?_ ?_
         ·refine AI hbb rfl (fun _ hbb=> ?_) (fun _ hbb=> ?_)
          ·obtain ⟨tm,htm,hbb⟩:=bS hbb
           obtain rfl:=iS hbb
           refine AG _ rfl (NC ((K.mono le05).pv st5) (K.mono le05).pl st5 htm ?_)
           intro ψ6 h6 le6 s6
           exact AM (!tm,()) rfl ⟨rfl,ψ6,le6,s6⟩
          ·obtain rfl:=iS hbb
           exact AM (false,()) rfl ⟨rfl,ψ5,Sub.refl _,st5⟩
         ·rintro y h10 ⟨hy,ψ6,le6,s6⟩
          obtain rfl:=hy
          have le06:=le05.trans le6
          refine AX (fun (_:Unit) w g=> ∃ts,ts.length=g.length∧St ψ6 (LF o ts g D0) w) (g:=E') ?_ ?_
          ·refine AI hE' rfl (fun _ hE'=> ?_) (fun _ hE'=> ?_)
           ·obtain ⟨row,hrow,hE'⟩:=bS hE'
            obtain ⟨row',hrow',hE'⟩:=bS hE'
            refine AG _ rfl ?_
            refine AE (x:=some nm) ((K.mono le06).at s6 (j:=12) rfl) rfl ?_
            have sM:St ψ6 (cM CP (Ro.int .i64) nm num::(cR 30 Ro.slc o ts4::(MU 3 (Ro.int .i64) ts4 E4++F))) h10:=by
             rw [hD0] at s6
             exact s6.perm ((List.Perm.cons _ (List.perm_middle (l₁:=MU 3 (Ro.int .i64) ts4 E4))).trans (List.Perm.swap _ _ _))
            refine Fj (kk:=CP) (a:= .int .i64) (k:=(z4.2.1,sym)) (m:=num) (0:Int) Tryz.underlying135 NE (i:=Tryz.t3) (by kernel_rfl) rfl sM ?_
            refine SR hl4 hrow hrow' hE' s6 ?_
            intro ts' h11 hl' s11
            exact AM () rfl ⟨ts',hl',s11⟩
           ·obtain rfl:=iS hE'
            exact AM () rfl ⟨ts4,hl4,s6⟩
          ·rintro _ h11 ⟨ts5,hl5,s11⟩
           refine AG _ rfl ?_
           refine AE (x:=ap) ((K.mono le06).at s11 (j:=6) rfl) rfl ?_
           refine AJ (Cs (K.mono le06).kA s11 hso) ?_
           rintro _ h12 ⟨ψ7,y7,le7,rfl,rfl,s12⟩
           refine ⟨y7,rfl,?_⟩
           exact Ac (IntKind.wrap .i64 (z4.1+(1:Int)),y7,()) _ rfl rfl ⟨hw4,rfl,ψ7,ts5,((le4.trans le5).trans le6).trans le7,hl5,s12⟩
        ·rintro i4 z4 w4 ⟨rfl,hg,ψ4,ts4,le4,H⟩ hge
         refine AU (by rw [nu]; exact decide_eq_false (Int.not_lt.2 hge)) ?_
         exact AL (AO z4 rfl ⟨ψ4,ts4,(le2.trans le3).trans le4,H⟩)
       ·rintro _ h9 H
        exact LV () rfl H
     ·rintro _ h9 H
      exact Ac (IntKind.wrap .i64 (z2.1+(1:Int)),()) _ rfl rfl ⟨hw2,H⟩
    ·rintro i2 z2 w2 ⟨rfl,ψ2,ts2,le2,H⟩ hge
     refine AU (by rw [nR]; exact decide_eq_false (Int.not_lt.2 hge)) ?_
     exact AL (AO z2 rfl ⟨ψ2,ts2,le01.trans le2,H⟩)
   ·rintro _ h9 H
    exact Ac (IntKind.wrap .i64 (z.1+(1:Int)),()) _ rfl rfl ⟨hw,H⟩
  ·rintro i z w ⟨rfl,H⟩ hge
   refine AU (by rw [nS]; exact decide_eq_false (Int.not_lt.2 hge)) ?_
   exact AL (AO z rfl H)
 ·rintro _ h9 ⟨ψ,ts,le,hl,st⟩
  obtain ⟨ψ1,le1,k1,st1⟩:=St.freezeRow (t:=o) st
  obtain ⟨ψ2,le2,k2,st2⟩:=St.freezeRows hl st1
  rw [hD0] at st2
  exact AB ⟨ψ2,o,(le.trans le1).trans le2,rfl,PC hl k2 (k1.mono le2),st2⟩
end
abbrev At:Type:=Tj
def mz (ps:List (Option Addr)) (L:List (At×Af)):List (At×Option Addr):=List.zipWith (fun p e=>(e.1,p)) ps L
theorem Pc {k:At} : ∀ {ps:List (Option Addr)} {L:List (At×Af)},B1 k L=none→B1 k (mz ps L)=none:=by
 intro ps
 induction ps with
 | nil=>intro L _; rfl
 | cons p ps ih=>
  intro L h
  cases L with
  | nil=>rfl
  | cons e L=>
   simp only [B1] at h
   split at h
   ·cases h
   ·rename_i hk
    show B1 k ((e.1,p)::mz ps L)=none
    simp only [B1]
    rw [if_neg hk]
    exact ih h
theorem OD {k:At} {s:Af} {p:Option Addr} : ∀ {ps:List (Option Addr)} {L:List (At×Af)},ps.length=L.length→B1 k L=none→Bp k s L=L++ [(k,s)] ∧Bp k p (mz ps L)=mz (ps++ [p]) (L++ [(k,s)]):=by
 intro ps
 induction ps with
 | nil=>
  intro L hl _
  cases L with
  | nil=>exact ⟨rfl,rfl⟩
  | cons _ _=>cases hl
 | cons q ps ih=>
  intro L hl h
  cases L with
  | nil=>cases hl
  | cons e L=>
   simp only [B1] at h
   split at h
   ·cases h
   ·rename_i hk
    obtain ⟨h1,h2⟩:=ih (L:=L) (by simpa using hl) h
    refine ⟨?_,?_⟩
    ·simp only [Bp,if_neg hk,h1]; rfl
    ·show Bp k p ((e.1,q)::mz ps L)=(e.1,q)::mz (ps++ [p]) (L++ [(k,s)])
     simp only [Bp,if_neg hk,h2]
theorem LM {k:At} {s:Af} : ∀ {ps:List (Option Addr)} {L:List (At×Af)},ps.length=L.length→B1 k L=some s→
 ∃(i:Nat) (p:Option Addr),ps[i]? =some p∧(L.map (·.2))[i]? =some s∧B1 k (mz ps L)=some p∧(∀s',(Bp k s' L).map (·.2)=(L.map (·.2)).set i s'∧mz ps (Bp k s' L)=mz ps L∧(Bp k s' L).length=L.length)∧ ∀s' p',Bp k p' (mz ps L)=mz (ps.set i p') (Bp k s' L):=by
 intro ps
 induction ps with
 | nil=>
  intro L hl h
  cases L with
  | nil=>cases h
  | cons _ _=>cases hl
 | cons q ps ih=>
  intro L hl h
  cases L with
  | nil=>cases hl
  | cons e L=>
   simp only [B1] at h
   split at h
   ·rename_i hk
    cases h
    refine ⟨0,q,rfl,rfl,?_,fun s'=> ?_,fun s' p'=> ?_⟩
    ·show B1 k ((e.1,q)::mz ps L)=some q
     simp only [B1,if_pos hk]
    ·simp only [Bp,if_pos hk]
     exact ⟨rfl,rfl,rfl⟩
    ·show Bp k p' ((e.1,q)::mz ps L)=mz (p'::ps) (Bp k s' (e::L))
     simp only [Bp,if_pos hk]
     rfl
   ·rename_i hk
    obtain ⟨i,p,h1,h2,h3,h4,h5⟩:=ih (L:=L) (by simpa using hl) h
    refine ⟨i+1,p,by simpa using h1,by simpa using h2,?_,fun s'=> ?_,fun s' p'=> ?_⟩
    ·show B1 k ((e.1,q)::mz ps L)=some p
     simp only [B1,if_neg hk]
     exact h3
    ·obtain ⟨g1,g2,g3⟩:=h4 s'
     simp only [Bp,if_neg hk,List.map_cons,List.set_cons_succ,List.length_cons]
     refine ⟨by rw [g1],?_,by rw [g3]⟩
     show (e.1,q)::mz ps (Bp k s' L)=(e.1,q)::mz ps L
     rw [g2]
    ·show Bp k p' ((e.1,q)::mz ps L)=mz (q::ps.set i p') (Bp k s' (e::L))
     simp only [Bp,if_neg hk]
     show (e.1,q)::Bp k p' (mz ps L)=(e.1,q)::mz (ps.set i p') (Bp k s' L)
     rw [h5 s']
abbrev LkL:Type:=List (At×Af)
noncomputable def Sr (p:dtP) (A:dtA) (fo:List Af) (n:Int) (s:Stp) (k:Int) (L:LkL):Option LkL:=
 (idx p.2.2.1 k).bind fun r=>
 cond (r.1 !=s.2) (some L)
  ((Ct A s.1 r.2.1).bind fun w=>
  (cond (B1 (w,k) L).isNone ((Bk (nT p)).bind fun s0=>some (Bp (w,k) s0 L)) (some L)).bind fun L'=>
  (idx fo n).bind fun o=>(B1 (w,k) L').bind fun s'=>need (OkS s'∧OkS o) <| some (Bp (w,k) (BQ s' o) L'))
noncomputable def Pd (p:dtP) (A:dtA) (fa:dtF) (steps:List Stp) (fo:List Af):Option LkL:=
 (forS (σ:=LkL) 0 ((steps.length:Nat):Int) [] fun n L=>(idx steps n).bind fun s=>forS (σ:=LkL) 0 ((p.2.2.1.length:Nat):Int) L fun k L=>Sr p A fo n s k L).bind fun L=>
 (B7 A).bind fun m=>forS (σ:=LkL) 0 m L fun n L=>
  (B8 (lkT p A fa steps none none) n 0).bind fun b=>cond b ((CV (nT p) [0]).bind fun s=>some (Bp (n,0) s L)) (some L)
abbrev giC (lm:Nat) (ps:List (Option Addr)) (L:LkL) (Δ:List Chk):List Chk:=cM CP Ro.pt lm (mz ps L)::(AQ ps (L.map (·.2)) ++Δ)
section
variable {φ ψ:AC} {h:AF} {F:List Chk} {a:Addr} {t:Slc×Slc×Slc×Slc×Slc×Slc×Unit} {p:dtP} {ap:Option Addr} {A:dtA} {fz:Slc×Slc×Slc×Int×Unit} {sl:Slc} {nm lm b:Nat} {fa:dtF} {steps:List Stp}
theorem Me {φ:AC} {h:AF} {F:List Chk} {p:Option Addr} {s:Af} (H:St φ (BH p s::F) h):p.isNone=false:=by
 obtain ⟨b,e⟩:=St.ptr H
 rw [e]; rfl
theorem Re {ps:List (Option Addr)} {L:LkL} {Δ:List Chk} {k:At} {q:Option Addr} {s:Af} (hl:ps.length=L.length) (st:St φ (cM CP Ro.pt lm (Bp k q (mz ps L))::BH q s::(AQ ps (L.map (·.2)) ++Δ)) h):
 ∃ps',ps'.length=(Bp k s L).length∧St φ (giC lm ps' (Bp k s L) Δ) h:=by
 cases hg:B1 k L with
 | none=>
  obtain ⟨h1,h2⟩:=OD (s:=s) (p:=q) hl hg
  refine ⟨ps++ [q],by rw [h1]; simp [hl],?_⟩
  rw [h2] at st
  have e:AQ (ps++ [q]) ((Bp k s L).map (·.2))=AQ ps (L.map (·.2)) ++ [BH q s] :=by
   rw [h1,List.map_append]
   exact I4 (by simpa using hl) q s
  show St φ (cM CP Ro.pt lm (mz (ps++ [q]) (Bp k s L))::(AQ (ps++ [q]) ((Bp k s L).map (·.2)) ++Δ)) h
  rw [e,List.append_assoc,h1]
  exact st.perm (List.Perm.cons _ (List.perm_middle (l₁:=AQ ps (L.map (·.2)))).symm)
 | some s0=>
  obtain ⟨i,p0,h1,h2,h3,h4,h5⟩:=LM hl hg
  obtain ⟨g1,g2,g3⟩:=h4 s
  refine ⟨ps.set i q,by simp [g3,hl],?_⟩
  rw [h5 s q] at st
  obtain ⟨rest,r1,r2⟩:=HY h1 h2
  show St φ (cM CP Ro.pt lm (mz (ps.set i q) (Bp k s L))::(AQ (ps.set i q) ((Bp k s L).map (·.2)) ++Δ)) h
  rw [g1]
  have st2:=st.perm (List.Perm.cons _ (List.Perm.cons _ (List.Perm.append_right Δ r1)))
  have st3:=st2.at2.tail
  exact st3.perm (List.Perm.cons _ (List.Perm.append_right Δ (r2 q s).symm))
noncomputable def Rf (l_0 f_p:Option Addr) (f_n:Nat) (n:Int) (r26:Nat):T:=
 deref l_0 fun a27=>
 T.load .map (a27.add 13) fun (t28:Option Nat)=>
 T.load (.int .i64) ⟨r26,0,none⟩ fun (t29:Int)=>
 T.load (.int .i64) ⟨r26,1,none⟩ fun (t30:Int)=>
 T.sem (Instr.lookup 136 (.map t28) (.agg #[(.int .i64 t29),(.int .i64 t30)]) false) (.one aP) fun (t31:Option Addr)=>
 T.join []
 (cond (Option.isNone t31)
 (deref l_0 fun a33=>
 T.load .map (a33.add 13) fun (t34:Option Nat)=>
 T.load (.int .i64) ⟨r26,0,none⟩ fun (t35:Int)=>
 T.load (.int .i64) ⟨r26,1,none⟩ fun (t36:Int)=>
 deref l_0 fun a37=>
 T.load .slice a37 fun (t38:Slc)=>
 T.call 138 [(.int .i64 ((t38.2.1:Nat):Int))] (.one aP) fun (t39:Option Addr)=>
 T.still ⟨r26,0,none⟩ (.int .i64 t35) <|
 T.still ⟨r26,1,none⟩ (.int .i64 t36) <|
 T.still (a33.add 13) (.map t34) <|
 T.sem (Sem.bind (Instr.mapUpdate 136 (.map t34) (.agg #[(.int .i64 t35),(.int .i64 t36)]) (.pointer t39)) fun _=> .pure undef) (.tuple []) fun (_:Unit)=>
 T.out [])
 (T.out [])) fun (_:Unit)=>
 deref l_0 fun a41=>
 T.load .map (a41.add 13) fun (t42:Option Nat)=>
 T.load (.int .i64) ⟨r26,0,none⟩ fun (t43:Int)=>
 T.load (.int .i64) ⟨r26,1,none⟩ fun (t44:Int)=>
 deref f_p fun a45=>
 chk (0≤n∧n< (f_n:Nat)) <|
 T.load .pointer (a45.add (Int.toNat n * 1)) fun (t46:Option Addr)=>
 T.sem (Instr.lookup 136 (.map t42) (.agg #[(.int .i64 t43),(.int .i64 t44)]) false) (.one aP) fun (t47:Option Addr)=>
 T.still (a45.add (Int.toNat n * 1)) (.pointer t46) <|
 T.call 139 [(.pointer t47),(.pointer t46)] (.one aB) fun (_:Bool)=>
 T.out []
set_option maxHeartbeats 2000000 in
theorem Rg (gk:Dg.Glob φ) (K:LkK φ a t ap fz sl nm lm p A fa steps) {fs:Slc} {qs:List (Option Addr)} {fo:List Af} (kf:Ro.SliceIs Ro.pt φ fs qs) (hq:qs.length=fo.length) {n w k:Int} {r26:Nat} (cB:Cf φ (some ⟨r26,0,none⟩) [.int .i64 w, .int .i64 k]) {L L':LkL} {o s':Af} {ps:List (Option Addr)} {Δ:List Chk} {P:BW→AF→Prop}
 (hL:cond (B1 (w,k) L).isNone ((Bk (nT p)).bind fun s0=>some (Bp (w,k) s0 L)) (some L)=some L') (ho:idx fo n=some o) (hs:B1 (w,k) L'=some s') (ok:OkS s'∧OkS o) (hl:ps.length=L.length) (st:St φ (giC lm ps L (AQ qs fo++Δ)) h)
 (hk: ∀ψ ps' h',Sub φ ψ→ps'.length=(Bp (w,k) (BQ s' o) L').length→St ψ (giC lm ps' (Bp (w,k) (BQ s' o) L') (AQ qs fo++Δ)) h'→P (.out []) h'):(Rf (some a) fs.1 fs.2.1 n r26).wp Tryz.prog P h:=by
 unfold Rf
 have n0:t.1.2.1=p.1.length:=K.pl.k0.length
 refine AG _ rfl ?_
 refine AE (x:=some lm) (K.at st (j:=13) rfl) rfl ?_
 refine AE (x:=w) (Bl cB st (j:=0) rfl) rfl ?_
 refine AE (x:=k) (Bl cB st (j:=1) rfl) rfl ?_
 refine Fj (kk:=CP) (a:= .pointer) (k:=(w,k)) (m:=mz ps L) (none:Option Addr) Tryz.underlying136 OB (i:=Tryz.t139) (by kernel_rfl) rfl st ?_
 refine AX (fun (_:Unit) wd g=> ∃ψ ps',Sub φ ψ∧ps'.length=g.length∧St ψ (giC lm ps' g (AQ qs fo++Δ)) wd) (g:=L') ?_ ?_
 ·cases hg:B1 (w,k) L with
  | none=>
   rw [hg] at hL
   obtain ⟨s0,h0,hL⟩:=bS (show ((Bk (nT p)).bind fun s0=>some (Bp (w,k) s0 L))=some L' from hL)
   obtain rfl:=iS hL
   rw [Pc hg]
   refine Ad rfl ?_
   refine AG _ rfl ?_
   refine AE (x:=some lm) (K.at st (j:=13) rfl) rfl ?_
   refine AE (x:=w) (Bl cB st (j:=0) rfl) rfl ?_
   refine AE (x:=k) (Bl cB st (j:=1) rfl) rfl ?_
   refine AG _ rfl ?_
   refine AE (x:=t.1) (by have:=K.at st (j:=0) rfl; rwa [add_zero] at this) rfl ?_
   rw [n0]
   refine AJ (DN st h0) ?_
   rintro _ h2 ⟨ψ2,q,l2,le2,rfl,rfl,s2⟩
   refine ⟨q,rfl,?_⟩
   refine AK (Bl (cB.mono le2) s2 (j:=0) rfl) ?_
   refine AK (Bl (cB.mono le2) s2 (j:=1) rfl) ?_
   refine AK ((K.mono le2).at s2 (j:=13) rfl) ?_
   refine IP (kk:=CP) (k:=(w,k)) (y:=q) Tryz.underlying136 OB s2.at1 rfl ?_
   intro h3 s3
   obtain ⟨ps',g1,g2⟩:=Re hl s3
   exact AM () rfl ⟨ψ2,ps',le2,g1,g2⟩
  | some s0=>
   rw [hg] at hL
   obtain rfl:=iS (show some L=some L' from hL)
   obtain ⟨i,p0,h1,h2,h3,h4,h5⟩:=LM hl hg
   obtain ⟨rest,r1,_⟩:=HY h1 h2
   have hp:p0.isNone=false:=Me (st.tail.perm (List.Perm.append_right (AQ qs fo++Δ) r1))
   rw [h3]
   refine AU hp ?_
   exact AM () rfl ⟨φ,ps,Sub.refl _,hl,st⟩
 ·rintro _ h4 ⟨ψ4,ps',le4,hl',s4⟩
  obtain ⟨i0,i1,i2⟩:=CO ho
  have hlt:n.toNat<qs.length:=by omega
  have hqn:=List.getElem?_eq_getElem hlt
  obtain ⟨i,p0,h1,h2,h3,h5,h6⟩:=LM hl' hs
  refine AG _ rfl ?_
  refine AE (x:=some lm) ((K.mono le4).at s4 (j:=13) rfl) rfl ?_
  refine AE (x:=w) (Bl (cB.mono le4) s4 (j:=0) rfl) rfl ?_
  refine AE (x:=k) (Bl (cB.mono le4) s4 (j:=1) rfl) rfl ?_
  obtain ⟨A1,cs1,ea1,hi1,r1,cl1⟩:=(kf.mono le4).get (LI i0 hlt)
  refine AG _ ea1 (Aa hi1 ?_)
  obtain rfl:=r1
  refine AE (x:=qs[n.toNat]) (AD s4.sub (cl1 0 _ rfl)) rfl ?_
  refine Fj (kk:=CP) (a:= .pointer) (k:=(w,k)) (m:=mz ps' L') (none:Option Addr) Tryz.underlying136 OB (i:=Tryz.t139) (by kernel_rfl) rfl s4 ?_
  rw [h3]
  refine AK (AD s4.sub (cl1 0 _ rfl)) ?_
  obtain ⟨rq,b1,_⟩:=Dn hqn i2
  obtain ⟨M,hM⟩: ∃M:Chk,M=cM CP Ro.pt lm (mz ps' L'):=⟨_,rfl⟩
  have s5:St ψ4 (BH qs[n.toNat] o::(AQ ps' (L'.map (·.2)) ++(M::(rq++Δ)))) h4:=by
   have s4':St ψ4 (M::(AQ ps' (L'.map (·.2)) ++(AQ qs fo++Δ))) h4:=by rw [hM]; exact s4
   refine s4'.perm ?_
   refine (List.Perm.cons M (List.Perm.append_left _ (List.Perm.append_right Δ b1))).trans ?_
   exact (List.Perm.cons M (List.perm_middle (l₁:=AQ ps' (L'.map (·.2))))).trans ((List.Perm.swap _ _ _).trans (List.Perm.cons _ (List.perm_middle (l₁:=AQ ps' (L'.map (·.2)))).symm))
  refine AJ (N7 (gk.mono le4) h2 h1 ok s5) ?_
  rintro _ h7 ⟨ψ7,le7,rfl,s7⟩
  refine ⟨_,rfl,?_⟩
  obtain ⟨g1,g2,g3⟩:=h5 (BQ s' o)
  refine hk ψ7 ps' h7 (le4.trans le7) (by rw [g3]; exact hl') ?_
  show St ψ7 (cM CP Ro.pt lm (mz ps' (Bp (w,k) (BQ s' o) L'))::(AQ ps' ((Bp (w,k) (BQ s' o) L').map (·.2)) ++(AQ qs fo++Δ))) h7
  rw [g1,g2,← hM]
  refine s7.perm ?_
  refine ((List.Perm.cons _ (List.perm_middle (l₁:=AQ ps' ((L'.map (·.2)).set i (BQ s' o))))).trans (List.Perm.swap _ _ _)).trans (List.Perm.cons M ?_)
  exact (List.perm_middle (l₁:=AQ ps' ((L'.map (·.2)).set i (BQ s' o)))).symm.trans (List.Perm.append_left _ (List.Perm.append_right Δ b1.symm))
end
section
variable {φ ψ:AC} {h:AF} {F:List Chk} {a:Addr} {t:Slc×Slc×Slc×Slc×Slc×Slc×Unit} {p:dtP} {ap:Option Addr} {A:dtA} {fz:Slc×Slc×Slc×Int×Unit} {sl:Slc} {nm lm b:Nat} {fa:dtF} {steps:List Stp}
theorem NI (lm:Nat) (ps:List (Option Addr)) (L:LkL) (Δ M:List Chk):giC lm ps L Δ++M=giC lm ps L (Δ++M):=by
 unfold giC
 rw [List.cons_append,List.append_assoc]
set_option maxHeartbeats 4000000 in
theorem Rh (gk:Dg.Glob φ) (K:LkK φ a t ap fz sl nm lm p A fa steps) {fs:Slc} {qs:List (Option Addr)} {fo:List Af} (kf:Ro.SliceIs Ro.pt φ fs qs) (hq:qs.length=fo.length) {r:LkL} (hd:Pd p A fa steps fo=some r) (s0:St φ (giC lm [] [] (AQ qs fo++F)) h):
 CallsH Tryz.prog 110 [.pointer (some a),sv fs] h (Ai fun v h'=>v= .tuple #[] ∧ ∃(ψ:AC) (ps:List (Option Addr)),Sub φ ψ∧ps.length=r.length∧St ψ (giC lm ps r (AQ qs fo++F)) h'):=by
 refine AN mixed Tryz.func110 ?_
 rw [JJ]
 unfold GY
 unfold Pd at hd
 obtain ⟨L1,hL1,hd⟩:=bS hd
 obtain ⟨mm,hmm,hd⟩:=bS hd
 have nS:sl.2.1=steps.length:=K.ks.length
 have nR:t.2.2.1.2.1=p.2.2.1.length:=K.pl.k2.length
 have n0:t.1.2.1=p.1.length:=K.pl.k0.length
 refine AG _ rfl ?_
 refine AE (x:=sl) (K.at s0 (j:=11) rfl) rfl ?_
 refine AS (fun (y:Int×Unit) w L=> ∃ψ ps,Sub φ ψ∧ps.length=List.length L∧St ψ (giC lm ps L (AQ qs fo++F)) w) (g:=L1) ?_ ?_
 ·refine Ax hL1 (fun i (y:Int×Unit) w L=>y.1=i∧ ∃ψ ps,Sub φ ψ∧ps.length=List.length L∧St ψ (giC lm ps L (AQ qs fo++F)) w) ((0:Int),()) rfl ⟨rfl,φ, [],Sub.refl _,rfl,s0⟩ ?_ ?_
  ·rintro i z w L e ⟨rfl,ψ,ps,le,hl,st⟩ he h0 hlt hw
   refine Ad (by rw [nS]; exact decide_eq_true hlt) ?_
   obtain ⟨s,hs,he⟩:=bS he
   obtain ⟨A1,cs1,ea1,hi1,q1,cl1⟩:=(K.ks.mono le).get hs
   refine AG _ ea1 (Aa hi1 ?_)
   obtain ⟨_,_,rfl,q2,q3⟩:=q1
   obtain rfl:=q2
   obtain rfl:=q3
   refine AE (x:=s.1) (AD st.sub (cl1 0 _ rfl)) rfl ?_
   refine AE (x:=s.2) (by rw [AV]; exact AD st.sub (cl1 1 _ rfl)) rfl ?_
   refine AR (vs:= [.int .i64 0, .int .i64 0]) st ?_
   intro r8 h3 s3
   refine CA (b:=r8) (j:=0) (v:= .int .i64 s.1) s3 rfl (by simp) ?_
   intro h4 s4
   refine CA (b:=r8) (j:=1) (v:= .int .i64 s.2) s4 rfl (by simp) ?_
   intro h5 s5
   obtain ⟨ψ1,le1,cB,s6⟩:=St.blk s5
   have le01:=le.trans le1
   refine AG _ rfl ?_
   refine AE (x:=t.2.2.1) ((K.mono le01).at s6 (j:=2) rfl) rfl ?_
   refine AS (fun (y:Int×Unit) w L=> ∃ψ ps,Sub φ ψ∧ps.length=List.length L∧St ψ (giC lm ps L (AQ qs fo++F)) w) (g:=e) ?_ ?_
   ·refine Ax he (fun i (y:Int×Unit) w L=>y.1=i∧ ∃ψ ps,Sub ψ1 ψ∧ps.length=List.length L∧St ψ (giC lm ps L (AQ qs fo++F)) w) ((0:Int),()) rfl ⟨rfl,ψ1,ps,Sub.refl _,hl,s6⟩ ?_ ?_
    ·rintro i2 z2 w2 L2 e2 ⟨rfl,ψ2,ps2,le2,hl2,st2⟩ he2 h02 hlt2 hw2
     have le02:=le01.trans le2
     unfold Sr at he2
     refine Ad (by rw [nR]; exact decide_eq_true hlt2) ?_
     obtain ⟨ru,hr1,he2⟩:=bS he2
     refine AS (fun (_:Unit) w (_:Unit)=> ∃ψ ps,Sub ψ1 ψ∧ps.length=List.length e2∧St ψ (giC lm ps e2 (AQ qs fo++F)) w) (g:=()) ?_ ?_
     ·refine LL (K.pl.k2.mono le02) hr1 st2 ?_
      intro r18 u h7 ku s7
      obtain ⟨ψ3,le3,cR1,s8⟩:=St.blk s7
      have ku:=ku.mono le3
      have le03:=le02.trans le3
      have le13:=le2.trans le3
      have cB3:=cB.mono le13
      have K3:=K.mono le03
      refine AE (x:=ru.1) (Bl cR1 s8 (j:=0) rfl) rfl ?_
      refine AE (x:=s.2) (Bl cB3 s8 (j:=1) rfl) rfl ?_
      refine AI he2 rfl (fun _ he2=> ?_) (fun _ he2=> ?_)
      ·obtain rfl:=iS he2
       exact Ob () rfl ⟨ψ3,ps2,le13,hl2,s8⟩
      ·obtain ⟨wk,hwk,he2⟩:=bS he2
       obtain ⟨L',hL',he2⟩:=bS he2
       obtain ⟨o,ho,he2⟩:=bS he2
       obtain ⟨s',hs',he2⟩:=bS he2
       obtain ⟨ok,he2⟩:=Bo he2
       obtain rfl:=iS he2
       refine AG _ rfl ?_
       refine AE (x:=ap) (K3.at s8 (j:=6) rfl) rfl ?_
       refine AE (x:=s.1) (Bl cB3 s8 (j:=0) rfl) rfl ?_
       refine AE (x:=u) (Bl cR1 s8 (j:=1) rfl) rfl ?_
       have fin: ∀ {ψ5:AC} {h9:AF} {r26:Nat},Sub ψ3 ψ5→Cf ψ5 (some ⟨r26,0,none⟩) [.int .i64 wk, .int .i64 z2.1] →St ψ5 (giC lm ps2 L2 (AQ qs fo++F)) h9→ ∀ {P:BW→AF→Prop},
        (∀(ψ:AC) (ps':List (Option Addr)) (h':AF),Sub ψ1 ψ→ps'.length=List.length (Bp (wk,z2.1) (BQ s' o) L')→St ψ (giC lm ps' (Bp (wk,z2.1) (BQ s' o) L') (AQ qs fo++F)) h'→P (.out []) h')→
        (Rf (some a) fs.1 fs.2.1 z.1 r26).wp Tryz.prog P h9:=by
        intro ψ5 h9 r26 le5 cX st9 P hP
        refine Rg (gk.mono (le03.trans le5)) (K3.mono le5) (kf.mono (le03.trans le5)) hq cX hL' ho hs' ok hl2 st9 ?_
        intro ψ6 ps' h10 le6 hl6 st10
        exact hP ψ6 ps' h10 ((le13.trans le5).trans le6) hl6 st10
       refine ED ?_ ?_
       ·refine AJ (DO K3.kA ku s8 hwk) ?_
        rintro _ h9 ⟨ψ4,y4,le4,rfl,rfl,s9⟩
        refine ⟨y4,rfl,?_⟩
        refine AR (vs:= [.int .i64 0, .int .i64 0]) s9 ?_
        intro r26 h10 s10
        refine CA (b:=r26) (j:=0) (v:= .int .i64 y4) s10 rfl (by simp) ?_
        intro h11 s11
        refine CA (b:=r26) (j:=1) (v:= .int .i64 z2.1) s11 rfl (by simp) ?_
        intro h12 s12
        obtain ⟨ψ5,le5,cX,s13⟩:=St.blk s12
        refine fin (le4.trans le5) cX s13 ?_
        intro ψ6 ps' h13 le6 hl6 s14
        exact ⟨(),rfl,ψ6,ps',le6,hl6,s14⟩
       ·refine AR (vs:= [.int .i64 0, .int .i64 0]) s8 ?_
        intro r49 h9 s9
        refine AK (Bl cR1 s9 (j:=1) rfl) ?_
        refine AK (Bl cB3 s9 (j:=0) rfl) ?_
        refine AK (K3.at s9 (j:=6) rfl) ?_
        refine AJ (DO K3.kA ku s9 hwk) ?_
        rintro _ h10 ⟨ψ4,y4,le4,rfl,rfl,s10⟩
        refine ⟨y4,rfl,?_⟩
        refine CA (b:=r49) (j:=0) (v:= .int .i64 y4) s10 rfl (by simp) ?_
        intro h11 s11
        refine CA (b:=r49) (j:=1) (v:= .int .i64 z2.1) s11 rfl (by simp) ?_
        intro h12 s12
        obtain ⟨ψ5,le5,cX,s13⟩:=St.blk s12
        refine fin (le4.trans le5) cX s13 ?_
        intro ψ6 ps' h13 le6 hl6 s14
        exact ⟨(),rfl,ψ6,ps',le6,hl6,s14⟩
     ·rintro _ h9 H
      exact Ac (IntKind.wrap .i64 (z2.1+(1:Int)),()) _ rfl rfl ⟨hw2,H⟩
    ·rintro i2 z2 w2 ⟨rfl,ψ2,ps2,le2,H⟩ hge
     refine AU (by rw [nR]; exact decide_eq_false (Int.not_lt.2 hge)) ?_
     exact AL (AO z2 rfl ⟨ψ2,ps2,le01.trans le2,H⟩)
   ·rintro _ h9 H
    exact Ac (IntKind.wrap .i64 (z.1+(1:Int)),()) _ rfl rfl ⟨hw,H⟩
  ·rintro i z w ⟨rfl,H⟩ hge
   refine AU (by rw [nS]; exact decide_eq_false (Int.not_lt.2 hge)) ?_
   exact AL (AO z rfl H)
 ·rintro _ h1 ⟨ψ1,ps1,le1,hl1,st1⟩
  have K1:=K.mono le1
  refine AG _ rfl ?_
  refine AE (x:=ap) (K1.at st1 (j:=6) rfl) rfl ?_
  refine AJ (Cb K1.kA st1 hmm) ?_
  rintro _ h2 ⟨ψ2,y2,le2,rfl,rfl,st2⟩
  refine ⟨y2,rfl,?_⟩
  have le02:=le1.trans le2
  refine AS (fun (y:Int×Unit) w L=> ∃ψ ps,Sub φ ψ∧ps.length=List.length L∧St ψ (giC lm ps L (AQ qs fo++F)) w) (g:=r) ?_ ?_
  ·refine Ax hd (fun i (y:Int×Unit) w L=>y.1=i∧ ∃ψ ps,Sub φ ψ∧ps.length=List.length L∧St ψ (giC lm ps L (AQ qs fo++F)) w) ((0:Int),()) rfl ⟨rfl,ψ2,ps1,le02,hl1,st2⟩ ?_ ?_
   ·rintro i z w L e ⟨rfl,ψ,ps,le,hl,st⟩ he h0 hlt hw
    refine Ad (decide_eq_true hlt) ?_
    obtain ⟨bd,hbd,he⟩:=bS he
    have K3:=K.mono le
    refine AJ (FU K3.pt st (show B8 (lkT p A fa steps (some nm) (some lm)) z.1 0=some bd from hbd)) ?_
    rintro _ h3 ⟨ψ3,y3,le3,rfl,rfl,st3⟩
    refine ⟨y3,rfl,?_⟩
    have le03:=le.trans le3
    refine AX (fun (_:Unit) w L=> ∃ψ ps,Sub φ ψ∧ps.length=List.length L∧St ψ (giC lm ps L (AQ qs fo++F)) w) (g:=e) ?_ ?_
    ·refine AI he rfl (fun _ he=> ?_) (fun _ he=> ?_)
     ·obtain ⟨sn,hsn,he⟩:=bS he
      obtain rfl:=iS he
      refine AG _ rfl ?_
      refine AE (x:=some lm) ((K.mono le03).at st3 (j:=13) rfl) rfl ?_
      refine AG _ rfl ?_
      refine AE (x:=t.1) (by have:=(K.mono le03).at st3 (j:=0) rfl; rwa [add_zero] at this) rfl ?_
      refine AR (vs:= [.int .i64 0]) st3 ?_
      intro r84 h4 st4
      refine AK (by have:=(K.mono le03).at st4 (j:=0) rfl; rwa [add_zero] at this) ?_
      refine AK ((K.mono le03).at st4 (j:=13) rfl) ?_
      have st5:=St.lit (r:=Ro.int .i64) (l:= [(0:Int)]) (n:=1) st4 (.cons (a:= [_]) rfl .nil) rfl (by decide)
      obtain ⟨ψ5,le5,k5,st6⟩:=St.freezeRow (t:=(some ⟨r84,0,none⟩,1,1)) st5
      rw [n0]
      refine AJ (Dl k5 st6 hsn) ?_
      rintro _ h6 ⟨ψ6,q,l6,le6,rfl,rfl,st7⟩
      refine ⟨q,rfl,?_⟩
      have le06:=(le03.trans le5).trans le6
      refine AK ((K.mono le06).at st7 (j:=13) rfl) ?_
      refine IP (kk:=CP) (k:=(z.1,(0:Int))) (y:=q) Tryz.underlying136 OB st7.at1 rfl ?_
      intro h8 st8
      obtain ⟨ps',g1,g2⟩:=Re hl st8
      exact AM () rfl ⟨ψ6,ps',le06,g1,g2⟩
     ·obtain rfl:=iS he
      exact AM () rfl ⟨ψ3,ps,le03,hl,st3⟩
    ·rintro _ h9 H
     exact Ac (IntKind.wrap .i64 (z.1+(1:Int)),()) _ rfl rfl ⟨hw,H⟩
   ·rintro i z w ⟨rfl,H⟩ hge
    refine AU (decide_eq_false (Int.not_lt.2 hge)) ?_
    exact AL (AO z rfl H)
  ·rintro _ h9 ⟨ψ9,ps9,le9,hl9,st9⟩
   exact AB ⟨rfl,ψ9,ps9,le9,hl9,st9⟩
end
structure LkD where
 p:dtP
 A:dtA
 fa:dtF
 steps:List Stp
 L:LkL
def LkL.at (φ:AC) (cs:List Value) (d:LkD) (Γ:List Chk):Prop:=
 ∃(a:Addr) (t:Slc×Slc×Slc×Slc×Slc×Slc×Unit) (ap:Option Addr) (fz:Slc×Slc×Slc×Int×Unit) (sl:Slc) (nm lm:Nat) (ps:List (Option Addr)),
  cs= [.pointer (some a)] ∧LkK φ a t ap fz sl nm lm d.p d.A d.fa d.steps∧ps.length=d.L.length∧Γ=giC lm ps d.L []
def Ri:Pk (Option LkD) where
 sz:=1
 L φ cs x Γ:=match x with
  | none=>cs= [.pointer none] ∧Γ= []
  | some d=>LkL.at φ cs d Γ
 len {φ cs x Γ} h:=by
  cases x with
  | none=>rw [h.1]; rfl
  | some d=>obtain ⟨a,t,ap,fz,sl,nm,lm,ps,h1,_⟩:=h; rw [h1]; rfl
 mono {φ ψ cs x Γ} hs h:=by
  cases x with
  | none=>exact h
  | some d=>obtain ⟨a,t,ap,fz,sl,nm,lm,ps,h1,h2,h3,h4⟩:=h; exact ⟨a,t,ap,fz,sl,nm,lm,ps,h1,h2.mono hs,h3,h4⟩
 plain {φ cs x Γ} h v hv:=by
  cases x with
  | none=>rw [h.1] at hv; simp at hv; subst hv; rfl
  | some d=>obtain ⟨a,t,ap,fz,sl,nm,lm,ps,h1,_⟩:=h; rw [h1] at hv; simp at hv; subst hv; rfl
abbrev By:Rep (Option LkD):=Rep.pack Ri
noncomputable def Ss (p:dtP) (A:dtA):Option (Option LkD):=
 (O3 p).bind fun fa=>(PA p A Kq ([], [])).bind fun st=>(NG p A fa st.1 st.2).bind fun rd=>(I8 p A fa st.1 st.2).bind fun inc=>
 (Km rd.2 rd.1).bind fun f1=>(Km inc f1).bind fun f2=>(Pd p A fa st.1 f2).bind fun L=>some (some ⟨p,A,fa,st.1,L⟩)
noncomputable def Pe (d:Option LkD) (s:Int):Option (List Int):=d.bind fun d=>C9 (lkT d.p d.A d.fa d.steps none none) s
noncomputable def Su (d:Option LkD) (s r:Int):Option (List Int):=d.bind fun d=>match B1 (s,r) d.L with
 | none=>some []
 | some x=>K7 x
section
variable {φ ψ:AC} {h:AF} {F:List Chk} {a:Addr} {t:Slc×Slc×Slc×Slc×Slc×Slc×Unit} {p:dtP} {ap:Option Addr} {A:dtA} {fz:Slc×Slc×Slc×Int×Unit} {sl:Slc} {nm lm b:Nat} {fa:dtF} {steps:List Stp}
theorem NJ (H:St φ F h):St φ (⟨By, [.pointer none],none⟩::F) h:=St.pack (p:=Ri) (Γ:= []) ⟨rfl,rfl⟩ H
theorem TZ {q:Option Addr} {d:Option LkD} (H:St φ (⟨By, [.pointer q],d⟩::F) h):Option.isNone q=Option.isNone d:=by
 obtain ⟨Γ,h1,_⟩:=St.unpack H
 cases d with
 | none=>cases h1.1; rfl
 | some d=>obtain ⟨a,t,ap,fz,sl,nm,lm,ps,h1,_⟩:=h1; cases h1; rfl
theorem PD {q:Option Addr} {d:Option LkD} {s:Int} (s0:St φ (⟨By, [.pointer q],d⟩::F) h) {r:List Int} (hd:Pe d s=some r):
 CallsH Tryz.prog 22 [.pointer q, .int .i64 s] h (Ai fun v h'=> ∃ψ:AC,∃y:Slc,∃l:List Int,Sub φ ψ∧v=((.one aS):Sh).val y∧l=r∧Ro.SliceIs (Ro.int .i64) ψ y l∧St ψ (⟨By, [.pointer q],d⟩::F) h'):=by
 obtain ⟨d,rfl,hd1⟩:=Option.bind_eq_some_iff.1 hd
 obtain ⟨Γ,⟨a,t,ap,fz,sl,nm,lm,ps,h1,h2,h3,h4⟩,s1⟩:=St.unpack s0
 cases h1
 refine (JN h2.pt s1 (show C9 (lkT d.p d.A d.fa d.steps (some nm) (some lm)) s=some r from hd1)).mono ?_
 rintro e h' ⟨v,rfl,ψ,y,l,le,rfl,rfl,k,s2⟩
 exact ⟨_,rfl,ψ,y,l,le,rfl,rfl,k,St.pack (p:=Ri) ⟨a,t,ap,fz,sl,nm,lm,ps,rfl,h2.mono le,h3,h4⟩ s2⟩
theorem Rj {q:Option Addr} {d:Option LkD} {s k:Int} (gk:Dg.Glob φ) (s0:St φ (⟨By, [.pointer q],d⟩::F) h) {r:List Int} (hd:Su d s k=some r):
 CallsH Tryz.prog 24 [.pointer q, .int .i64 s, .int .i64 k] h (Ai fun v h'=> ∃ψ:AC,∃y:Slc,∃l:List Int,Sub φ ψ∧v=((.one aS):Sh).val y∧l=r∧Ro.SliceIs (Ro.int .i64) ψ y l∧St ψ (⟨By, [.pointer q],d⟩::F) h'):=by
 obtain ⟨d,rfl,hd1⟩:=Option.bind_eq_some_iff.1 hd
 obtain ⟨Γ,⟨a,t,ap,fz,sl,nm,lm,ps,h1,h2,h3,h4⟩,s1⟩:=St.unpack s0
 cases h1
 subst h4
 rw [NI,List.nil_append] at s1
 refine AN mixed Tryz.func24 ?_
 rw [KV]
 unfold Hs
 refine AG _ rfl ?_
 refine AE (x:=some lm) (h2.at s1 (j:=13) rfl) rfl ?_
 refine Fj (kk:=CP) (a:= .pointer) (k:=(s,k)) (m:=mz ps d.L) (none:Option Addr) Tryz.underlying136 OB (i:=Tryz.t139) (by kernel_rfl) rfl s1 ?_
 have back: ∀ {ψ:AC} {h':AF},Sub φ ψ→St ψ (giC lm ps d.L F) h'→St ψ (⟨By, [.pointer (some a)],some d⟩::F) h':=fun le st=>
  St.pack (p:=Ri) (Γ:=giC lm ps d.L []) ⟨a,t,ap,fz,sl,nm,lm,ps,rfl,h2.mono le,h3,rfl⟩ (by rw [NI,List.nil_append]; exact st)
 cases hg:B1 (s,k) d.L with
 | none=>
  rw [hg] at hd1
  obtain rfl:=iS hd1
  rw [Pc hg]
  refine Ad rfl ?_
  exact AB ⟨φ,(none,0,0), [],Sub.refl _,rfl,rfl,Ro.SliceIs.nil _ _,back (Sub.refl _) s1⟩
 | some x=>
  rw [hg] at hd1
  obtain ⟨i,p0,g1,g2,g3,g4,g5⟩:=LM h3 hg
  rw [g3]
  obtain ⟨rest,r1,_⟩:=Dn g1 g2
  have s2:St φ (BH p0 x::(rest++(cM CP Ro.pt lm (mz ps d.L)::F))) h:=s1.perm ((List.Perm.cons _ (List.Perm.append_right F r1)).trans ((List.Perm.swap _ _ _).trans (List.Perm.cons _ (List.perm_middle (l₁:=rest)).symm)))
  refine AU (Me s2) ?_
  refine AJ (KS gk s2 hd1) ?_
  rintro _ h5 ⟨ψ5,y5,le5,rfl,k5,s5⟩
  refine ⟨y5,rfl,?_⟩
  refine AB ⟨ψ5,y5,r,le5,rfl,rfl,k5,back le5 ?_⟩
  exact s5.perm (((List.Perm.cons _ (List.perm_middle (l₁:=rest))).trans (List.Perm.swap _ _ _)).trans (List.Perm.cons _ (List.Perm.append_right F r1).symm))
noncomputable def Rk (t2 t3 t4 t5 t6 t7:Slc) (ap:Option Addr) (fz:Slc×Slc×Slc×Int×Unit) (nm lm:Nat):T:=
 T.new (.cells #[(sv t2),(sv t3),(sv t4),(sv t5),(sv t6),(sv t7),(.pointer ap),(sv fz.1),(sv fz.2.1),(sv fz.2.2.1),(.int .i64 fz.2.2.2.1),(.slice none 0 0),(.map (some nm)),(.map (some lm))] 138 (0,0)) fun r17=>
 T.call 107 [(.pointer (some ⟨r17,0,none⟩)),(.func (.func 108) #[(.pointer (some ⟨r17,0,none⟩))] #[])] (.tuple []) fun (t18:Unit)=>
 T.call 109 [(.pointer (some ⟨r17,0,none⟩))] (.tuple [aS,aS]) fun (t19:Slc×Slc×Unit)=>
 T.call 112 [(.pointer (some ⟨r17,0,none⟩))] (.one aS) fun (t20:Slc)=>
 T.call 111 [(sv t19.2.1),(sv t19.1)] (.one aS) fun (t21:Slc)=>
 T.call 111 [(sv t20),(sv t21)] (.one aS) fun (t22:Slc)=>
 T.call 110 [(.pointer (some ⟨r17,0,none⟩)),(sv t22)] (.tuple []) fun (t23:Unit)=>
 T.ret (.pointer (some ⟨r17,0,none⟩))
noncomputable def PE (p:dtP) (A:dtA) (fa:dtF):Option (Option LkD):=
 (PA p A Kq ([], [])).bind fun st=>(NG p A fa st.1 st.2).bind fun rd=>(I8 p A fa st.1 st.2).bind fun inc=>
 (Km rd.2 rd.1).bind fun f1=>(Km inc f1).bind fun f2=>(Pd p A fa st.1 f2).bind fun L=>some (some ⟨p,A,fa,st.1,L⟩)
def OfS (φ:AC) (F:List Chk) (r:Option LkD) (v:Value) (h':AF):Prop:= ∃ψ:AC,∃y:Option Addr,∃l:Option LkD,Sub φ ψ∧v=((.one aP):Sh).val y∧l=r∧St ψ (⟨By, [.pointer y],l⟩::F) h'
set_option maxHeartbeats 2000000 in
theorem Fl {φ0:AC} (le0:Sub φ0 φ) (gk:Dg.Glob φ) (kP:PlK φ t p) (kA:Pt E1 φ ap A) (f0:Ro.SliceIs Ro.bool φ fz.1 fa.1) (f1:Ro.SliceIs (Ro.list (Ro.int .i64)) φ fz.2.1 fa.2.1) (f2:Ro.SliceIs (Ro.list (Ro.int .i64)) φ fz.2.2.1 fa.2.2.1) (f3:fz.2.2.2.1=fa.2.2.2)
 {r:Option LkD} (hd:PE p A fa=some r) (s0:St φ (cM CP (Ro.int .i64) nm [] ::cM CP Ro.pt lm [] ::F) h):
 (Rk t.1 t.2.1 t.2.2.1 t.2.2.2.1 t.2.2.2.2.1 t.2.2.2.2.2.1 ap fz nm lm).wp Tryz.prog (LT (Ai (OfS φ0 F r))) h:=by
 unfold Rk
 unfold PE at hd
 obtain ⟨en,hen,hd⟩:=bS hd
 obtain ⟨rd,hrd,hd⟩:=bS hd
 obtain ⟨inc,hinc,hd⟩:=bS hd
 obtain ⟨g1,hg1,hd⟩:=bS hd
 obtain ⟨g2,hg2,hd⟩:=bS hd
 obtain ⟨L,hL,hd⟩:=bS hd
 obtain rfl:=iS hd
 refine AR (vs:=lkV t ap fz ((none,0,0):Slc) nm lm) s0 ?_
 intro r17 h1 s1
 have s2:St φ (enC r17 t ap fz nm lm ⟨((none,0,0):Slc), [], []⟩ ++(cM CP Ro.pt lm [] ::F)) h1:=(St.nil 224 Nh s1).at1
 refine AJ (RZ kA kP (x:=⟨((none,0,0):Slc), [], []⟩) hen s2) ?_
 rintro _ h2 ⟨rfl,ψ2,x,le2,hx,s3⟩
 refine ⟨(),rfl,?_⟩
 obtain ⟨sl,steps,num⟩:=x
 obtain rfl:=hx
 obtain ⟨ψ3,le3,cB,s4⟩:=St.blk s3
 obtain ⟨ψ4,le4,ks,s5⟩:=St.freezeRow (t:=sl) s4
 have le04:=(le2.trans le3).trans le4
 have K:LkK ψ4 ⟨r17,0,none⟩ t ap fz sl nm lm p A fa steps:=⟨cB.mono le4,kP.mono le04,kA.mono le04,f0.mono le04,f1.mono le04,f2.mono le04,f3,ks⟩
 refine AJ (QN K hrd s5) ?_
 rintro _ h5 ⟨ψ5,y1,y2,ps,le5,rfl,hps,k1,k2,s6⟩
 refine ⟨_,rfl,?_⟩
 have le05:=le04.trans le5
 have s7:St ψ5 (cM CP (Ro.int .i64) nm num::(AQ ps rd.1++(cM CP Ro.pt lm [] ::F))) h5:=s6.perm (List.perm_middle (l₁:=AQ ps rd.1))
 refine AJ (NH (gk.mono le05) (K.mono le5) hinc s7) ?_
 rintro _ h6 ⟨ψ6,y3,le6,rfl,k3,s8⟩
 refine ⟨_,rfl,?_⟩
 have le06:=le05.trans le6
 refine AJ (Ma (gk.mono le06) (k2.mono le6) (k1.mono le6) hps s8.tail hg1) ?_
 rintro _ h7 ⟨ψ7,y4,qs,le7,rfl,hqs,s9⟩
 refine ⟨_,rfl,?_⟩
 have le07:=le06.trans le7
 obtain ⟨ψ8,le8,k4,s10⟩:=St.freezeRow (t:=y4) s9
 have le08:=le07.trans le8
 refine AJ (Ma (gk.mono le08) (k3.mono (le7.trans le8)) k4 hqs s10 hg2) ?_
 rintro _ h8 ⟨ψ9,y5,us,le9,rfl,hus,s11⟩
 refine ⟨_,rfl,?_⟩
 obtain ⟨ψ10,le10,k5,s12⟩:=St.freezeRow (t:=y5) s11
 have le010:=(le08.trans le9).trans le10
 have le410:=(((((le5.trans le6).trans le7).trans le8).trans le9).trans le10)
 have s13:St ψ10 (giC lm [] [] (AQ us g2++(AQ qs g1++(AQ ps rd.1++F)))) h8:=by
  refine s12.perm ?_
  show (AQ us g2++(AQ qs g1++(AQ ps rd.1++(cM CP Ro.pt lm [] ::F)))).Perm (cM CP Ro.pt lm [] ::(AQ us g2++(AQ qs g1++(AQ ps rd.1++F))))
  rw [← List.append_assoc,← List.append_assoc,← List.append_assoc (AQ us g2),← List.append_assoc (AQ us g2++AQ qs g1)]
  exact List.perm_middle
 refine AJ (Rh (gk.mono le010) (K.mono le410) k5 hus hL s13) ?_
 rintro _ h9 ⟨rfl,ψ11,vs,le11,hvs,s14⟩
 refine ⟨(),rfl,?_⟩
 refine AB ⟨ψ11,some ⟨r17,0,none⟩,_,(le0.trans le010).trans le11,rfl,rfl,?_⟩
 refine St.pack (p:=Ri) (Γ:=giC lm vs L []) ⟨⟨r17,0,none⟩,t,ap,fz,sl,nm,lm,vs,rfl,K.mono (le410.trans le11),hvs,rfl⟩ ?_
 rw [NI,List.nil_append]
 have s15:St ψ11 ((AQ us g2++(AQ qs g1++AQ ps rd.1)) ++(giC lm vs L F)) h9:=by
  refine s14.perm ?_
  show (cM CP Ro.pt lm (mz vs L)::(AQ vs (L.map (·.2)) ++(AQ us g2++(AQ qs g1++(AQ ps rd.1++F))))).Perm ((AQ us g2++(AQ qs g1++AQ ps rd.1)) ++(cM CP Ro.pt lm (mz vs L)::(AQ vs (L.map (·.2)) ++F)))
  rw [show AQ us g2++(AQ qs g1++(AQ ps rd.1++F))=(AQ us g2++(AQ qs g1++AQ ps rd.1)) ++F by simp [List.append_assoc]]
  generalize AQ us g2++(AQ qs g1++AQ ps rd.1)=X
  refine (List.Perm.cons _ ?_).trans (List.perm_middle (l₁:=X)).symm
  rw [← List.append_assoc,← List.append_assoc]
  exact List.Perm.append_right F List.perm_append_comm
 exact St.drop _ s15
set_option maxHeartbeats 4000000 in
theorem Rl {p_0:Slc×Slc×Slc×Slc×Slc×Slc×Unit} {d0 d1:List ByteArray} {d2:List BV} {d3 d4:List Int} {d5:List ByteArray} {d6:dtA} {a_1:Option Addr} (gk:Dg.Glob φ)
 (k0:Ro.SliceIs Ro.str φ p_0.1 d0) (k1:Ro.SliceIs Ro.str φ p_0.2.1 d1) (k2:Ro.SliceIs BS φ p_0.2.2.1 d2) (k3:Ro.SliceIs (Ro.int .i64) φ p_0.2.2.2.1 d3) (k4:Ro.SliceIs (Ro.int .i64) φ p_0.2.2.2.2.1 d4) (k5:Ro.SliceIs Ro.str φ p_0.2.2.2.2.2.1 d5) (kA:Pt E1 φ a_1 d6) (s0:St φ F h) {r:Option LkD} (hd:Ss (d0,d1,d2,d3,d4,d5) d6=some r):
 CallsH Tryz.prog 69 [.agg #[sv p_0.1,sv p_0.2.1,sv p_0.2.2.1,sv p_0.2.2.2.1,sv p_0.2.2.2.2.1,sv p_0.2.2.2.2.2.1], .pointer a_1] h (Ai (OfS φ F r)):=by
 refine AN mixed Tryz.func69 ?_
 rw [N9]
 unfold Mc
 obtain ⟨fa,hfa,hd⟩:=bS hd
 have hd:PE (d0,d1,d2,d3,d4,d5) d6 fa=some r:=hd
 have kP:PlK φ p_0 (d0,d1,d2,d3,d4,d5):=⟨k0,k1,k2,k3,k4,k5⟩
 refine AR (vs:=plV p_0) s0 ?_
 intro r1 h1 s1
 obtain ⟨φ1,le1,cB,s1⟩:=St.blk s1
 have hc: ∀ {ψ:AC} {Γ:List Chk} {h':AF},Sub φ1 ψ→St ψ Γ h'→ ∀j v,(plV p_0)[j]? =some v→Az h' ⟨r1,j,none⟩=some v:=fun {ψ Γ h'} le st j v hv=>by
  have:=AD st.sub ((cB.mono le).at j hv)
  rw [DY,Nat.zero_add] at this
  exact this
 have hc1:=hc (Sub.refl _) s1
 refine It hc1 ?_
 refine It hc1 ?_
 have gk1:=gk.mono le1
 have kP1:=kP.mono le1
 have kA1:=kA.mono le1
 have call: ∀ {Γ:List Chk} {w:AF} {K:(Slc×Slc×Slc×Int×Unit)→T} {Q:BW→AF→Prop},St φ1 Γ w→
  (∀(ψ:AC) (fz:Slc×Slc×Slc×Int×Unit) (w':AF),Sub φ1 ψ→Ro.SliceIs Ro.bool ψ fz.1 fa.1→Ro.SliceIs (Ro.list (Ro.int .i64)) ψ fz.2.1 fa.2.1→Ro.SliceIs (Ro.list (Ro.int .i64)) ψ fz.2.2.1 fa.2.2.1→fz.2.2.2.1=fa.2.2.2→St ψ Γ w'→(K fz).wp Tryz.prog Q w')→
  (T.call 106 [(.agg #[(sv p_0.1),(sv p_0.2.1),(sv p_0.2.2.1),(sv p_0.2.2.2.1),(sv p_0.2.2.2.2.1),(sv p_0.2.2.2.2.2.1)])] (.one (.agg [.slice, .slice, .slice,(.int .i64)])) K).wp Tryz.prog Q w:=by
  intro Γ w K Q st hk
  refine AJ (ND gk1 kP1 st hfa) ?_
  rintro _ w' ⟨ψ,y,le,rfl,g0,g1,g2,g3,st'⟩
  exact ⟨y,rfl,hk ψ y w' le g0 g1 g2 g3 st'⟩
 refine ED ?_ (ED ?_ ?_)
 ·refine call s1 ?_
  intro ψ fz w le g0 g1 g2 g3 st
  have hcc:=fun {Γ:List Chk} {h':AF} (st:St ψ Γ h')=>hc le st
  repeat refine AK (hcc st _ _ rfl) ?_
  refine ED ?_ ?_
  ·refine Cv CP (Ro.int .i64) st ?_
   intro r15 w2 st2
   repeat refine AK (hcc st2 _ _ rfl) ?_
   refine Cv CP Ro.pt st2 ?_
   intro r16 w3 st3
   repeat refine AK (hcc st3 _ _ rfl) ?_
   exact Fl (le1.trans le) (gk1.mono le) (kP1.mono le) (kA1.mono le) g0 g1 g2 g3 hd st3.at1
  ·refine Cv CP Ro.pt st ?_
   intro r15 w2 st2
   repeat refine AK (hcc st2 _ _ rfl) ?_
   refine Cv CP (Ro.int .i64) st2 ?_
   intro r16 w3 st3
   repeat refine AK (hcc st3 _ _ rfl) ?_
   exact Fl (le1.trans le) (gk1.mono le) (kP1.mono le) (kA1.mono le) g0 g1 g2 g3 hd st3
 ·refine Cv CP (Ro.int .i64) s1 ?_
  intro r33 w2 st2
  have hc2:=hc (Sub.refl _) st2
  repeat refine AK (hc2 _ _ rfl) ?_
  refine ED ?_ ?_
  ·refine call st2 ?_
   intro ψ fz w le g0 g1 g2 g3 st
   have hcc:=fun {Γ:List Chk} {h':AF} (st:St ψ Γ h')=>hc le st
   repeat refine AK (hcc st _ _ rfl) ?_
   refine Cv CP Ro.pt st ?_
   intro r35 w3 st3
   repeat refine AK (hcc st3 _ _ rfl) ?_
   exact Fl (le1.trans le) (gk1.mono le) (kP1.mono le) (kA1.mono le) g0 g1 g2 g3 hd st3.at1
  ·refine Cv CP Ro.pt st2 ?_
   intro r35 w3 st3
   have hc3:=hc (Sub.refl _) st3
   repeat refine AK (hc3 _ _ rfl) ?_
   refine call st3 ?_
   intro ψ fz w le g0 g1 g2 g3 st
   have hcc:=fun {Γ:List Chk} {h':AF} (st:St ψ Γ h')=>hc le st
   repeat refine AK (hcc st _ _ rfl) ?_
   exact Fl (le1.trans le) (gk1.mono le) (kP1.mono le) (kA1.mono le) g0 g1 g2 g3 hd st.at1
 ·refine Cv CP Ro.pt s1 ?_
  intro r33 w2 st2
  have hc2:=hc (Sub.refl _) st2
  repeat refine AK (hc2 _ _ rfl) ?_
  refine ED ?_ ?_
  ·refine call st2 ?_
   intro ψ fz w le g0 g1 g2 g3 st
   have hcc:=fun {Γ:List Chk} {h':AF} (st:St ψ Γ h')=>hc le st
   repeat refine AK (hcc st _ _ rfl) ?_
   refine Cv CP (Ro.int .i64) st ?_
   intro r35 w3 st3
   repeat refine AK (hcc st3 _ _ rfl) ?_
   exact Fl (le1.trans le) (gk1.mono le) (kP1.mono le) (kA1.mono le) g0 g1 g2 g3 hd st3
  ·refine Cv CP (Ro.int .i64) st2 ?_
   intro r35 w3 st3
   have hc3:=hc (Sub.refl _) st3
   repeat refine AK (hc3 _ _ rfl) ?_
   refine call st3 ?_
   intro ψ fz w le g0 g1 g2 g3 st
   have hcc:=fun {Γ:List Chk} {h':AF} (st:St ψ Γ h')=>hc le st
   repeat refine AK (hcc st _ _ rfl) ?_
   exact Fl (le1.trans le) (gk1.mono le) (kP1.mono le) (kA1.mono le) g0 g1 g2 g3 hd st
end
end Go.Proofs.YteolcjbobmpdiaaGreatDoor
namespace Go.Proofs.YteolcjbobmpdiaaGreatDoor
open Go Go.Eng
set_option linter.unusedVariables false
set_option maxRecDepth 100000
abbrev dtB:Type:=(List Item×List Item×Slc×Int×Int)
abbrev roB:Ro dtB:=Ro.prod (Ro.list CG) (Ro.prod (Ro.list CG) (Ro.prod Ro.slc (Ro.prod (Ro.int .i64) (Ro.int .i64))))
abbrev dtK:Type:=(List Item×List Item×Int×Int)
abbrev Ly {ε:Type} (b:dtK) (s:ε):List Item×List Item×ε×Int×Int:=(b.1,b.2.1,s,b.2.2.1,b.2.2.2)
abbrev Ep {ε:Type} (B:List dtK) (S:List ε):List (List Item×List Item×ε×Int×Int):=List.zipWith Ly B S
theorem GD {ε:Type} {B:List dtK} {S:List ε} (h:S.length=B.length):(Ep B S).length=B.length:=by
 unfold Ep; rw [List.length_zipWith]; omega
theorem QO {ε:Type} {B:List dtK} {S:List ε} (h:S.length=B.length) (b:dtK) (s:ε):Ep (B++ [b]) (S++ [s])=Ep B S++ [Ly b s] :=by
 unfold Ep; rw [List.zipWith_append h.symm]; rfl
abbrev Fd:Type:=List (ByteArray×Int)
abbrev qA (p:BJ) (s:Slc) (t:Int):Gf:=(p.1,p.2.1,p.2.2.1,p.2.2.2.1,p.2.2.2.2.1,p.2.2.2.2.2,s,t)
abbrev HA:Slc:=(none,0,0)
theorem OE (p:BJ) (s:Slc) (t:Int) (k:List Item):Bx (qA p s t) k=Bx (qA p HA 0) k:=rfl
abbrev bC (c3 c4 c5 c6 m a r1 r2:Nat) (fd:Fd) (p:BJ) (ls:Slc) (tot:Int) (L:List dtB) (rm cl:Cx) (F:List Chk):List Chk:=
 cW 185 c3 [.map (some m)] ::cM kyS (Ro.int .i64) m fd::cW 41 c4 [pv a] ::cO 131 (Rep.ro Br) (some ⟨a,0,none⟩) (qA p ls tot)::cR 150 roB ls L::
 cW 183 c5 [pv r1] ::cO 211 (Rep.ro E5) (some ⟨r1,0,none⟩) rm::cW 183 c6 [pv r2] ::cO 211 (Rep.ro E5) (some ⟨r2,0,none⟩) cl::F
noncomputable def ST (p:BJ) (fd:Fd) (B:List dtK) (rm cl:Cx) (k:List Item) (fr wi:Int):Option (Int×Int×Fd×List dtK×Cx×Cx):=
 (Fi k).bind fun s=>
 cond (B1 s fd).isSome (some ((B1 s fd).getD 0,0,fd,B,rm,cl))
 ((Bx (qA p HA 0) k).bind fun its=>
  (Cn rm 1).bind fun t=>
  (cond (t.1==(0:Int)) ((Cn cl ((its.length:Nat):Int)).bind fun u=>some (u.1,u.2)) (some (t.1,cl))).bind fun z=>
  (app B [(k,its,fr,wi)]).bind fun B'=>
  some (IntKind.wrap .i64 (((B'.length:Nat):Int) - 1),z.1,Bp s ((B.length:Nat):Int) fd,B',t.2,z.2))
theorem UC:Fo Tryz.prog 129 129 150 5:=⟨Tryz.underlying129, .inl Tryz.underlying129,⟨Tryz.t150,by kernel_rfl,rfl,⟨_,rfl,rfl⟩,by decide,by decide⟩,by decide⟩
theorem St.bC_of {φ:AC} {h:AF} {a0 a1 a2 a3 a4 a5 a6 a7 a8:Chk} {F:List Chk} (H:St φ (a3::a4::a1::a8::a6::a0::a2::a5::a7::F) h):St φ (a0::a1::a2::a3::a4::a5::a6::a7::a8::F) h:=
 H.at3.at8.at5.at8.at5.at5.at8.at7.at8
set_option maxHeartbeats 2000000 in
theorem Pf {φ:AC} {h:AF} {F:List Chk} {t:Slc} {k:List Item} {fr wi:Int} {c3 c4 c5 c6 m a r1 r2:Nat} {fd:Fd} {p:BJ} {ls:Slc} {tot:Int} {B:List dtK} {S:List Slc} {rm cl:Cx}
 (gk:Glob φ) (k1:Ro.SliceIs CG φ t k) (hS:S.length=B.length) (s0:St φ (bC c3 c4 c5 c6 m a r1 r2 fd p ls tot (Ep B S) rm cl F) h) {r:Int×Int×Fd×List dtK×Cx×Cx} (hd:ST p fd B rm cl k fr wi=some r):
 CallsH Tryz.prog 99 [.slice t.1 t.2.1 t.2.2, .int .i64 fr, .int .i64 wi,pv c3,pv c4,pv c5,pv c6] h (Ai fun v h'=> ∃(ψ:AC) (y:Int×Int×Unit) (ls':Slc) (S':List Slc),Sub φ ψ∧v=((.tuple [.atom (.int .i64), .atom (.int .i64)]):Sh).val y∧y.1=r.1∧y.2.1=r.2.1∧
  ((r.2.2.2.1=B∧S'=S)∨ ∃x,r.2.2.2.1=B++ [x] ∧S'=S++ [HA])∧St ψ (bC c3 c4 c5 c6 m a r1 r2 r.2.2.1 p ls' tot (Ep r.2.2.2.1 S') r.2.2.2.2.1 r.2.2.2.2.2 F) h'):=by
 refine AN mixed Tryz.func99 ?_
 rw [Jm]
 unfold Gw
 unfold ST at hd
 obtain ⟨s,hs,hd⟩:=bS hd
 refine AA (x:=some m) s0 rfl ?_
 refine AJ (Il gk k1 s0 hs) ?_
 rintro _ h1 ⟨ψ1,s,le1,rfl,rfl,s1⟩
 refine ⟨s,rfl,?_⟩
 refine AK (St.cell s1 rfl) ?_
 refine P6 (a:= .int .i64) (kk:=kyS) (i:=Tryz.t3) 0 Tryz.underlying185 Tryz.underlying9 (by kernel_rfl) rfl s1.at1 fun y hy=> ?_
 subst hy
 refine AI hd rfl (fun _ hd=> ?_) (fun _ hd=> ?_)
 ·obtain rfl:=iS hd
  exact AB ⟨ψ1,((B1 s fd).getD 0,0,()),ls,S,le1,rfl,rfl,rfl, .inl ⟨rfl,rfl⟩,s1⟩
 obtain ⟨its,hc,hd⟩:=bS hd
 obtain ⟨tk,ht,hd⟩:=bS hd
 obtain ⟨z,hz,hd⟩:=bS hd
 obtain ⟨B',hB,hd⟩:=bS hd
 obtain rfl:=iS hd
 refine AA (x:=some ⟨a,0,none⟩) s1.at2 rfl ?_
 refine AJ (G6 (k1.mono le1) s1.at3 (by rw [OE]; exact hc)) ?_
 rintro _ h2 ⟨ψ2,y2,l2,le2,rfl,rfl,k2,s2⟩
 refine ⟨y2,rfl,?_⟩
 have n2:=k2.length
 have le12:=le1.trans le2
 refine AR (vs:= [.slice none 0 0, .slice none 0 0, .slice none 0 0, .int .i64 (0:Int), .int .i64 (0:Int)]) s2 fun r6 h3 s3=> ?_
 refine AH s3 rfl rfl fun h4 s4=> ?_
 refine AH s4 rfl rfl fun h5 s5=> ?_
 refine AH s5 rfl rfl fun h6 s6=> ?_
 refine AH s6 rfl rfl fun h7 s7=> ?_
 refine AH s7 rfl rfl fun h8 s8=> ?_
 have s8':St ψ2 (cW 150 r6 [sv t,sv y2, .slice none 0 0, .int .i64 fr, .int .i64 wi] ::cO 131 (Rep.ro Br) (some ⟨a,0,none⟩) (qA p ls tot)::cW 185 c3 [.map (some m)] ::cM kyS (Ro.int .i64) m fd::cW 41 c4 [pv a] ::cR 150 roB ls (Ep B S)::
  cW 183 c5 [pv r1] ::cO 211 (Rep.ro E5) (some ⟨r1,0,none⟩) rm::cW 183 c6 [pv r2] ::cO 211 (Rep.ro E5) (some ⟨r2,0,none⟩) cl::F) h8:=s8
 refine AA (x:=some ⟨r1,0,none⟩) s8'.at6 rfl ?_
 refine AJ (FB s8'.at7 ht) ?_
 rintro _ h9 ⟨ψ3,y3,rm',le3,rfl,rfl,s9⟩
 refine ⟨y3,rfl,?_⟩
 dsimp only at hz
 refine AX (fun (y:Int×Unit) w (g:Int×Cx)=> ∃(ψ:AC) (cl':Cx),Sub ψ3 ψ∧(y.1,cl')=g∧St ψ (cO 211 (Rep.ro E5) (some ⟨r2,0,none⟩) cl'::cO 211 (Rep.ro E5) (some ⟨r1,0,none⟩) rm'::cW 150 r6 [sv t,sv y2, .slice none 0 0, .int .i64 fr, .int .i64 wi] ::
  cO 131 (Rep.ro Br) (some ⟨a,0,none⟩) (qA p ls tot)::cW 185 c3 [.map (some m)] ::cM kyS (Ro.int .i64) m fd::cW 41 c4 [pv a] ::cR 150 roB ls (Ep B S)::cW 183 c5 [pv r1] ::cW 183 c6 [pv r2] ::F) w) (g:=z) ?_ ?_
 ·refine AI hz rfl (fun _ hz=> ?_) (fun _ hz=> ?_)
  ·obtain ⟨u,hu,hz⟩:=bS hz
   obtain rfl:=iS hz
   refine AA (x:=some ⟨r2,0,none⟩) s9.at8 rfl ?_
   refine AA (x:=y2) s9.at1 rfl ?_
   rw [← n2] at hu
   refine AJ (FB s9.at9 hu) ?_
   rintro _ h10 ⟨ψ4,y4,cl',le4,rfl,rfl,s10⟩
   refine ⟨y4,rfl,?_⟩
   exact AM (y4,()) rfl ⟨ψ4,cl',le4,rfl,s10⟩
  ·obtain rfl:=iS hz
   exact AM (y3,()) rfl ⟨ψ3,cl,Sub.refl _,rfl,s9.at9⟩
 rintro z9 h11 ⟨ψ5,cl',le5,rfl,s11⟩
 refine AA (x:=some m) s11.at4 rfl ?_
 refine AA (x:=some ⟨a,0,none⟩) s11.at6 rfl ?_
 refine AG _ rfl ?_
 have s12':=s11.at3
 obtain ⟨b,vs,e,⟨_,_,rfl,⟨u1,rfl,kk1⟩,_,_,rfl,⟨u2,rfl,kk2⟩,_,_,rfl,⟨u3,rfl,kk3⟩,_,_,rfl,⟨u4,rfl,kk4⟩,_,_,rfl,⟨u5,rfl,kk5⟩,_,_,rfl,⟨u6,rfl,kk6⟩,_,_,rfl,rfl,rfl⟩,s12⟩:=St.openR s12'
 obtain rfl:a=b:=by simpa using e
 refine AA (x:=ls) s12 rfl ?_
 have le25:=(le2.trans le3).trans le5
 have le15:=le1.trans le25
 refine AJ (Il (gk.mono le15) (k1.mono le15) s12 hs) ?_
 rintro _ h13 ⟨ψ6,q6,le6,rfl,rfl,s13⟩
 refine ⟨q6,rfl,?_⟩
 refine AK (St.cell (b:=a) (j:=6) s13 rfl) ?_
 refine AK (St.cell s13.at6 rfl) ?_
 refine AK (St.cell s13.at4 rfl) ?_
 have nL:=St.rowLen s13.at7
 rw [GD hS] at nL
 refine IP (kk:=kyS) (y:=((ls.2.1:Nat):Int)) Tryz.underlying185 Tryz.underlying9 s13.at5 rfl fun h14 s14=> ?_
 refine AA (x:=some ⟨a,0,none⟩) s14.at6 rfl ?_
 refine AA (x:=some ⟨a,0,none⟩) s14.at6 rfl ?_
 refine AG _ rfl ?_
 refine AA (x:=ls) s14.at1 rfl ?_
 refine AA (x:=t) s14.at4 rfl ?_
 refine AA (x:=y2) s14.at4 rfl ?_
 refine AA (x:=HA) s14.at4 rfl ?_
 refine AA (x:=fr) s14.at4 rfl ?_
 refine AA (x:=wi) s14.at4 rfl ?_
 refine AR (vs:= [sv t,sv y2, .slice none 0 0, .int .i64 fr, .int .i64 wi]) s14 fun r28 h15 s15=> ?_
 refine AK (St.cell (b:=a) (j:=6) s15.at2 rfl) ?_
 refine AK (St.cell s15.at7 rfl) ?_
 refine AK (St.cell s15.at7 rfl) ?_
 have cw:=St.cells s15
 have le26:=le25.trans le6
 have le16:=le1.trans le26
 obtain ⟨hapl,rfl⟩:=LU hB
 have hap:app (Ep B S) [Ly (k,l2,fr,wi) HA] =some (Ep (B++ [(k,l2,fr,wi)]) (S++ [HA])):=by
  unfold app
  rw [GD hS,QO hS,if_pos (by simpa using hapl)]
 refine Ab (r:=roB) (ms:= [Ly (k,l2,fr,wi) HA]) UC (s15.tail.at7) rfl cw (.cons (a:= [_,_,_,_,_]) ⟨[_],_,rfl,⟨t,rfl,k1.mono le16⟩, [_],_,rfl,⟨y2,rfl,k2.mono (((le3.trans le5)).trans le6)⟩, [_],_,rfl,rfl, [_],_,rfl,rfl,rfl⟩ .nil) rfl hap fun ls' h16 s16=> ?_
 have nL':=St.rowLen s16
 rw [GD (by simp [hS])] at nL'
 refine AK (St.cell s16.at7 rfl) ?_
 refine AG _ rfl ?_
 refine AH s16.at2 rfl rfl fun h17 s17=> ?_
 refine AA (x:=some ⟨a,0,none⟩) s17.at7 rfl ?_
 refine AG _ rfl ?_
 refine AA (x:=ls') s17 rfl ?_
 have s18:=St.shutR (r:=Br) (x:=qA p ls' tot) s17 ⟨[_],_,rfl,⟨u1,rfl,kk1.mono le6⟩, [_],_,rfl,⟨u2,rfl,kk2.mono le6⟩, [_],_,rfl,⟨u3,rfl,kk3.mono le6⟩, [_],_,rfl,⟨u4,rfl,kk4.mono le6⟩, [_],_,rfl,⟨u5,rfl,kk5.mono le6⟩, [_],_,rfl,⟨u6,rfl,kk6.mono le6⟩, [_],_,rfl,rfl,rfl⟩
 refine AB ⟨ψ6,(IntKind.wrap .i64 (((ls'.2.1:Nat):Int) - 1),z9.1,()),ls',S++ [HA],le16,rfl,by rw [nL'],rfl, .inr ⟨_,rfl,rfl⟩,?_⟩
 rw [nL] at s18
 exact St.bC_of s18.at5.tail
abbrev Edge:Type:=Int×Int
abbrev BSt:Type:=Fd×List dtK×List (List Edge)×Cx×Cx
def KX (E:List (List Edge)) (n n':Nat):List (List Edge):=if n'=n then E else E++ [[]]
noncomputable def Sv (p:BJ) (b:dtK) (i sym:Int) (y:BSt):Option (AY BSt Int):=
 (CJ (qA p HA 0) b.2.1 sym).bind fun k=>
 (ST p y.1 y.2.1 y.2.2.2.1 y.2.2.2.2 k i sym).bind fun r=>
 cond (r.2.1 !=(0:Int)) (some (AY.done r.2.1))
 ((idx (KX y.2.2.1 y.2.1.length r.2.2.2.1.length) i).bind fun el=>
  (app el [(sym,r.1)]).bind fun el'=>
  (EE (KX y.2.2.1 y.2.1.length r.2.2.2.1.length) i el').bind fun E'=>
  some (AY.next (r.2.2.1,r.2.2.2.1,E',r.2.2.2.2.1,r.2.2.2.2.2)))
noncomputable def Rm (p:BJ) (b:dtK) (i:Int) (y:BSt):Option (AY BSt Int):=
 (Bw (qA p HA 0) b.2.1).bind fun syms=>
 DG 0 ((syms.length:Nat):Int) y fun j y=>(idx syms j).bind fun sym=>Sv p b i sym y
noncomputable def Pg (p:BJ) (y:BSt):Option (AY BSt Int):=
 loop (σ:=Int×BSt) ((0:Int),y) fun z=>
  cond (decide (z.1< ((z.2.2.1.length:Nat):Int)))
   ((idx z.2.2.1 z.1).bind fun b=>(Rm p b z.1 z.2).bind fun e=>match e with
    | .next y=>some (AY.next (IntKind.wrap .i64 (z.1+1),y))
    | .done q=>some (AY.done (AY.done q)))
   (some (AY.done (AY.next z.2)))
noncomputable def PF (p:BJ) (st it:Int):Option (Option Cw×Int):=
 (GU st).bind fun rm=>
 (GU it).bind fun cl=>
 (ST p [] [] rm cl [(0,0)] (-1) (-1)).bind fun r=>
 cond (r.2.1 !=(0:Int)) (some (none,r.2.1))
 ((Pg p (r.2.2.1,r.2.2.2.1,KX [] 0 r.2.2.2.1.length,r.2.2.2.2.1,r.2.2.2.2.2)).bind fun e=>match e with
  | .next y=>(Dy y.2.2.2.2).bind fun tot=>some (some (p.1,p.2.1,p.2.2.1,p.2.2.2.1,p.2.2.2.2.1,p.2.2.2.2.2,Ep y.2.1 y.2.2.1,tot),0)
  | .done q=>some (none,q))
theorem Rn (p:BJ) (s:Slc) (t:Int) (l:List Item) (x:Int):CJ (qA p s t) l x=CJ (qA p HA 0) l x:=rfl
theorem OF (p:BJ) (s:Slc) (t:Int) (l:List Item):Bw (qA p s t) l=Bw (qA p HA 0) l:=rfl
theorem Lz {ε:Type} {B:List dtK} {S:List ε} {i:Int} {b:dtK} {s:ε} (hb:idx B i=some b) (hs:S[i.toNat]? =some s):idx (Ep B S) i=some (Ly b s):=by
 obtain ⟨h0,_,h2⟩:=CO hb
 unfold idx
 rw [if_pos h0]
 unfold Ep
 rw [List.getElem?_zipWith,h2,hs]
theorem Rp {ε:Type} : ∀ {B:List dtK} {S:List ε} {n:Nat} {b:dtK} (s:ε),B[n]? =some b→(Ep B S).set n (Ly b s)=Ep B (S.set n s):=by
 intro B
 induction B with
 | nil=>intro S n b s h; simp at h
 | cons x B ih=>
  intro S n b s h
  cases S with
  | nil=>rfl
  | cons u S=>
   cases n with
   | zero=>
    simp only [List.getElem?_cons_zero,Option.some.injEq] at h
    subst h
    rfl
   | succ n=>exact congrArg _ (ih s (by simpa using h))
def DA (φ:AC) (S:List Slc) (E:List (List Edge)) (c:Nat):Prop:= ∀(j:Nat) s e,j ≠ c→S[j]? =some s→E[j]? =some e→Ro.SliceIs Ji φ s e
def HB (S:List Slc) (E:List (List Edge)) (i:Nat):Prop:= ∀j:Nat,i≤j→(∀s,S[j]? =some s→s=HA)∧ ∀e,E[j]? =some e→e= []
theorem DA.mono {φ ψ:AC} {S:List Slc} {E:List (List Edge)} {c:Nat} (H:DA φ S E c) (hs:Sub φ ψ):DA ψ S E c:=fun j s e hj h1 h2=>(H j s e hj h1 h2).mono hs
theorem Iu {α:Type} {l:List α} {x y:α} {j:Nat} (h:(l++ [x])[j]? =some y):l[j]? =some y∨j=l.length∧y=x:=by
 rcases Nat.lt_or_ge j l.length with g | g
 ·rw [List.getElem?_append_left g] at h; exact .inl h
 ·rw [List.getElem?_append_right g] at h
  right
  have:j - l.length=0:=by
   rcases Nat.eq_zero_or_pos (j - l.length) with q | q
   ·exact q
   ·rw [List.getElem?_eq_none (by simp; omega)] at h; cases h
  rw [this] at h
  simp at h
  exact ⟨by omega,h.symm⟩
theorem DA.snoc {φ:AC} {S:List Slc} {E:List (List Edge)} {c:Nat} (H:DA φ S E c) (hl:S.length=E.length):DA φ (S++ [HA]) (E++ [[]]) c:=by
 intro j s e hj h1 h2
 rcases Iu h1 with h1 | ⟨h1,rfl⟩
 ·rcases Iu h2 with h2 | ⟨h2,rfl⟩
  ·exact H j s e hj h1 h2
  ·rw [List.getElem?_eq_none (by omega)] at h1; cases h1
 ·rcases Iu h2 with h2 | ⟨h2,rfl⟩
  ·rw [List.getElem?_eq_none (by omega)] at h2; cases h2
  ·exact Ro.SliceIs.nil _ _
theorem HB.snoc {S:List Slc} {E:List (List Edge)} {i:Nat} (H:HB S E i):HB (S++ [HA]) (E++ [[]]) i:=by
 intro j hj
 refine ⟨fun s h=> ?_,fun e h=> ?_⟩
 ·rcases Iu h with h | ⟨_,h⟩
  ·exact (H j hj).1 s h
  ·exact h
 ·rcases Iu h with h | ⟨_,h⟩
  ·exact (H j hj).2 e h
  ·exact h
theorem SU {φ:AC} : ∀ {B:List dtK} {S:List Slc} {E:List (List Edge)} {vs:List Value},S.length=B.length→E.length=B.length→(∀(j:Nat) s e,S[j]? =some s→E[j]? =some e→Ro.SliceIs Ji φ s e)→roB.All φ vs (Ep B S)→Qq.All φ vs (Ep B E):=by
 intro B
 induction B with
 | nil=>intro S E vs h1 h2 h3 H; cases H; exact .nil
 | cons b B ih=>
  intro S E vs h1 h2 h3 H
  cases S with
  | nil=>cases h1
  | cons s S=>
   cases E with
   | nil=>cases h2
   | cons e E=>
    cases H with
    | @cons a v _ _ hx hr=>
     obtain ⟨_,_,rfl,⟨t0,rfl,q0⟩,_,_,rfl,⟨t1,rfl,q1⟩,_,_,rfl,rfl,_,_,rfl,rfl,rfl⟩:=hx
     exact Ro.All.cons (a:= [_,_,_,_,_]) ⟨[_],_,rfl,⟨t0,rfl,q0⟩, [_],_,rfl,⟨t1,rfl,q1⟩, [_],_,rfl,⟨s,rfl,h3 0 s e rfl rfl⟩, [_],_,rfl,rfl,rfl⟩ (ih (by simpa using h1) (by simpa using h2) (fun j s' e' g1 g2=>h3 (j+1) s' e' (by simpa using g1) (by simpa using g2)) hr)
theorem QP {φ:AC} {t:Slc} {B:List dtK} {S:List Slc} {E:List (List Edge)} (h1:S.length=B.length) (h2:E.length=B.length) (h3: ∀(j:Nat) s e,S[j]? =some s→E[j]? =some e→Ro.SliceIs Ji φ s e) (H:Ro.SliceIs roB φ t (Ep B S)):Ro.SliceIs Qq φ t (Ep B E):=by
 obtain ⟨g1,g2,g3,g4,vs,g5,g6⟩:=H
 have hl:(Ep B E).length=(Ep B S).length:=by rw [GD h1,GD h2]
 exact ⟨hl.trans g1,g2,g3,fun hp=>List.eq_nil_of_length_eq_zero (by rw [hl,g4 hp]; rfl),vs,SU h1 h2 h3 g5,g6⟩
section
variable {φ:AC} {h:AF} {F:List Chk}
theorem PG {c3 c4 c5 c6 m a r1 r2:Nat} {fd:Fd} {p:BJ} {ls:Slc} {tot:Int} {L:List dtB} {rm cl:Cx} (H:St φ (bC c3 c4 c5 c6 m a r1 r2 fd p ls tot L rm cl F) h):Az h ⟨a,6,none⟩=some (.slice ls.1 ls.2.1 ls.2.2):=by
 obtain ⟨b,vs,e,⟨_,_,rfl,⟨u1,rfl,kk1⟩,_,_,rfl,⟨u2,rfl,kk2⟩,_,_,rfl,⟨u3,rfl,kk3⟩,_,_,rfl,⟨u4,rfl,kk4⟩,_,_,rfl,⟨u5,rfl,kk5⟩,_,_,rfl,⟨u6,rfl,kk6⟩,_,_,rfl,rfl,rfl⟩,s⟩:=St.openR H.at3
 obtain rfl:a=b:=by simpa using e
 exact St.cell s rfl
theorem St.back3 {a0 a1 a2 a3:Chk} (H:St φ (a3::a0::a1::a2::F) h):St φ (a0::a1::a2::a3::F) h:=H.at3.at3.at3
theorem St.to9 {e a0 a1 a2 a3 a4 a5 a6 a7 a8:Chk} (H:St φ (e::a0::a1::a2::a3::a4::a5::a6::a7::a8::F) h):St φ (a0::a1::a2::a3::a4::a5::a6::a7::a8::e::F) h:=
 H.at9.at9.at9.at9.at9.at9.at9.at9.at9
theorem St.tail9 {a0 a1 a2 a3 a4 a5 a6 a7 a8:Chk} (H:St φ (a0::a1::a2::a3::a4::a5::a6::a7::a8::F) h):St φ F h:=H.tail.tail.tail.tail.tail.tail.tail.tail.tail
end
theorem Ph {φ:AC} {S S':List Slc} {E:List (List Edge)} {B B':List dtK} {c i:Nat} (hS:S.length=B.length) (hE:E.length=B.length) (H:DA φ S E c) (hf:HB S E i) (h:(B'=B∧S'=S)∨ ∃x,B'=B++ [x] ∧S'=S++ [HA]):
 S'.length=B'.length∧(KX E B.length B'.length).length=B'.length∧DA φ S' (KX E B.length B'.length) c∧HB S' (KX E B.length B'.length) i∧(∀(j:Nat) s,S[j]? =some s→S'[j]? =some s)∧(∀(j:Nat) e,E[j]? =some e→(KX E B.length B'.length)[j]? =some e)∧ ∀(j:Nat) b,B[j]? =some b→B'[j]? =some b:=by
 rcases h with ⟨rfl,rfl⟩ | ⟨x,rfl,rfl⟩
 ·unfold KX
  rw [if_pos rfl]
  exact ⟨hS,hE,H,hf,fun _ _ h=>h,fun _ _ h=>h,fun _ _ h=>h⟩
 ·unfold KX
  rw [if_neg (by simp)]
  have ap: ∀ {α:Type} {l:List α} {x y:α} {j:Nat},l[j]? =some y→(l++ [x])[j]? =some y:=fun {α l x y j} h=>by
   rw [List.getElem?_append_left (List.getElem?_eq_some_iff.1 h).1]; exact h
  exact ⟨by simp [hS],by simp [hE],H.snoc (by omega),hf.snoc,fun _ _ h=>ap h,fun _ _ h=>ap h,fun _ _ h=>ap h⟩
theorem Rq {S:List Slc} {E:List (List Edge)} {i:Nat} (H:HB S E i) (h1:i<S.length) (h2:i<E.length):S[i]? =some HA∧E[i]? =some [] :=by
 have a:=List.getElem?_eq_getElem h1
 have b:=List.getElem?_eq_getElem h2
 exact ⟨by rw [a,(H i (Nat.le_refl _)).1 _ a],by rw [b,(H i (Nat.le_refl _)).2 _ b]⟩
theorem HB.mono {S:List Slc} {E:List (List Edge)} {i i':Nat} (H:HB S E i) (h:i≤i'):HB S E i':=fun j hj=>H j (Nat.le_trans h hj)
theorem Ta {φ:AC} {S:List Slc} {E:List (List Edge)} {i:Nat} {s:Slc} {e:List Edge} (H:DA φ S E i) (hf:HB S E (i+1)):DA φ (S.set i s) (E.set i e) i∧HB (S.set i s) (E.set i e) (i+1):=by
 refine ⟨fun j s' e' hj h1 h2=> ?_,fun j hj=>⟨fun s' h=> ?_,fun e' h=> ?_⟩⟩
 ·rw [List.getElem?_set_ne (by omega)] at h1 h2
  exact H j s' e' hj h1 h2
 ·rw [List.getElem?_set_ne (by omega)] at h
  exact (hf j hj).1 s' h
 ·rw [List.getElem?_set_ne (by omega)] at h
  exact (hf j hj).2 e' h
theorem Tb {φ:AC} {S:List Slc} {E:List (List Edge)} {i:Nat} {s:Slc} {e:List Edge} (H:DA φ S E i) (hs:S[i]? =some s) (he:E[i]? =some e) (k:Ro.SliceIs Ji φ s e):DA φ S E (i+1):=by
 intro j s' e' hj h1 h2
 by_cases hji:j=i
 ·subst hji
  rw [hs] at h1; rw [he] at h2
  cases h1; cases h2
  exact k
 ·exact H j s' e' hji h1 h2
theorem St.to9' {φ:AC} {h:AF} {F:List Chk} {e a0 a1 a2 a3 a4 a5 a6 a7 a8:Chk} (H:St φ (e::a4::a0::a1::a2::a3::a5::a6::a7::a8::F) h):St φ (a0::a1::a2::a3::a4::a5::a6::a7::a8::e::F) h:=
 H.at9.at9.at9.at9.at5.at9.at9.at9.at9
def Sw (φ:AC) (c3 c4 c5 c6 m a r1 r2:Nat) (p:BJ) (G:List Chk) (i:Nat) (y:BSt) (w:AF):Prop:= ∃(ψ:AC) (ls:Slc) (S:List Slc),Sub φ ψ∧S.length=y.2.1.length∧y.2.2.1.length=y.2.1.length∧DA ψ S y.2.2.1 i∧HB S y.2.2.1 i∧St ψ (bC c3 c4 c5 c6 m a r1 r2 y.1 p ls 0 (Ep y.2.1 S) y.2.2.2.1 y.2.2.2.2 G) w
def T1 (φ:AC) (c3 c4 c5 c6 m a r1 r2:Nat) (p:BJ) (G:List Chk) (i:Nat) (b:dtK) (y:BSt) (w:AF):Prop:= ∃(ψ:AC) (ls:Slc) (S:List Slc) (s:Slc) (e:List Edge),Sub φ ψ∧S.length=y.2.1.length∧y.2.2.1.length=y.2.1.length∧DA ψ S y.2.2.1 i∧HB S y.2.2.1 (i+1)∧S[i]? =some s∧y.2.2.1[i]? =some e∧y.2.1[i]? =some b∧St ψ (bC c3 c4 c5 c6 m a r1 r2 y.1 p ls 0 (Ep y.2.1 S) y.2.2.2.1 y.2.2.2.2 (cR 73 Ji s e::G)) w
set_option maxHeartbeats 4000000 in
theorem QQ {φ:AC} {h:AF} {F:List Chk} {p_0:Slc×Slc×Slc×Slc×Slc×Slc×Unit} {d0:List ByteArray} {d1:List ByteArray} {d2:List BV} {d3:List Int} {d4:List Int} {d5:List ByteArray} {st it:Int}
 (gk:Glob φ) (k0:Ro.SliceIs Ro.str φ p_0.1 d0) (k1:Ro.SliceIs Ro.str φ p_0.2.1 d1) (k2:Ro.SliceIs BS φ p_0.2.2.1 d2) (k3:Ro.SliceIs (Ro.int .i64) φ p_0.2.2.2.1 d3) (k4:Ro.SliceIs (Ro.int .i64) φ p_0.2.2.2.2.1 d4) (k5:Ro.SliceIs Ro.str φ p_0.2.2.2.2.2.1 d5) (s0:St φ F h) {r:Option Cw×Int} (hd:PF (d0,d1,d2,d3,d4,d5) st it=some r):
 CallsH Tryz.prog 68 [(.agg #[.slice p_0.1.1 p_0.1.2.1 p_0.1.2.2, .slice p_0.2.1.1 p_0.2.1.2.1 p_0.2.1.2.2, .slice p_0.2.2.1.1 p_0.2.2.1.2.1 p_0.2.2.1.2.2, .slice p_0.2.2.2.1.1 p_0.2.2.2.1.2.1 p_0.2.2.2.1.2.2, .slice p_0.2.2.2.2.1.1 p_0.2.2.2.2.1.2.1 p_0.2.2.2.2.1.2.2, .slice p_0.2.2.2.2.2.1.1 p_0.2.2.2.2.2.1.2.1 p_0.2.2.2.2.2.1.2.2]), .int .i64 st, .int .i64 it] h (Ai fun v h'=> ∃ψ:AC,∃y:Option Addr×Int×Unit,∃l1:Option Cw,Sub φ ψ∧v=((.tuple [.atom .pointer, .atom (.int .i64)]):Sh).val y∧(l1,y.2.1)=r∧Np E1 ψ y.1 l1∧St ψ F h'):=by
 refine AN mixed Tryz.func68 ?_
 rw [Kg]
 unfold IU
 unfold PF at hd
 obtain ⟨rm,hrm,hd1⟩:=bS hd
 clear hd
 obtain ⟨cl,hcl,hd2⟩:=bS hd1
 clear hd1
 obtain ⟨ra,hra,hd⟩:=bS hd2
 clear hd2
 refine AR (vs:= [sv p_0.1,sv p_0.2.1,sv p_0.2.2.1,sv p_0.2.2.2.1,sv p_0.2.2.2.2.1,sv p_0.2.2.2.2.2.1]) s0 fun b1 h1 s1=> ?_
 refine AA (x:=p_0.1) s1 rfl ?_
 refine AA (x:=p_0.2.1) s1 rfl ?_
 refine AA (x:=p_0.2.2.1) s1 rfl ?_
 refine AA (x:=p_0.2.2.2.1) s1 rfl ?_
 refine AA (x:=p_0.2.2.2.2.1) s1 rfl ?_
 refine AA (x:=p_0.2.2.2.2.2.1) s1 rfl ?_
 refine AR (vs:= [sv p_0.1,sv p_0.2.1,sv p_0.2.2.1,sv p_0.2.2.2.1,sv p_0.2.2.2.2.1,sv p_0.2.2.2.2.2.1, .slice none 0 0, .int .i64 (0:Int)]) s1 fun a h2 s2=> ?_
 refine AR (vs:= [.pointer none]) s2 fun c4 h3 s3=> ?_
 refine AH s3 rfl rfl fun h4 s4=> ?_
 refine AJ (JV s4 hrm) ?_
 rintro _ h5 ⟨ψ1,y10,_,le1,rfl,rfl,s5⟩
 refine ⟨y10,rfl,?_⟩
 refine AJ (JV s5 hcl) ?_
 rintro _ h6 ⟨ψ2,y11,_,le2,rfl,rfl,s6⟩
 refine ⟨y11,rfl,?_⟩
 obtain ⟨r2,vs2,rfl,q2,s6⟩:=St.openR s6
 have s6:=(St.shutR s6 q2).at1
 obtain ⟨r1,vs1,rfl,q1,s6⟩:=St.openR s6
 have s6:=(St.shutR s6 q1).at1
 refine AR (vs:= [.pointer none]) s6 fun c5 h7 s7=> ?_
 refine AR (vs:= [.pointer none]) s7 fun c6 h8 s8=> ?_
 refine AH s8.at1 rfl rfl fun h9 s9=> ?_
 refine AH s9.at1 rfl rfl fun h10 s10=> ?_
 refine Cv kyS (Ro.int .i64) s10 fun m h11 s11=> ?_
 refine AR (vs:= [.map none]) s11 fun c3 h12 s12=> ?_
 refine AH s12 rfl rfl fun h13 s13=> ?_
 refine AR (vs:= [.int .i64 (0:Int), .int .i64 (0:Int)]) s13 fun k16 h14 s14=> ?_
 have s15:=St.lit (r:=CG) (l:= [((0:Int),(0:Int))]) (n:=1) s14 (.cons (a:= [_,_]) ⟨[_],_,rfl,rfl,rfl⟩ .nil) rfl (by decide)
 obtain ⟨ψ3,le3,kk,s16⟩:=St.freezeRow (t:=(some ⟨k16,0,none⟩,1,1)) s15
 have le13:=(le1.trans le2).trans le3
 have s17:=St.shutR (r:=Br) (x:=qA (d0,d1,d2,d3,d4,d5) HA 0) s16.at7 ⟨[_],_,rfl,⟨_,rfl,k0.mono le13⟩, [_],_,rfl,⟨_,rfl,k1.mono le13⟩, [_],_,rfl,⟨_,rfl,k2.mono le13⟩, [_],_,rfl,⟨_,rfl,k3.mono le13⟩, [_],_,rfl,⟨_,rfl,k4.mono le13⟩, [_],_,rfl,⟨_,rfl,k5.mono le13⟩, [_],_,rfl,rfl,rfl⟩
 have s18:=(s17.nil 150 roB).at6.at5.at7.at7.at4.at5.at8.at8.at8
 refine AJ (Pf (B:= []) (S:= []) (ls:=HA) (gk.mono le13) kk rfl s18 hra) ?_
 rintro _ h15 ⟨ψ4,y17,ls0,S0,le4,rfl,e1,e2,hG0,s19⟩
 refine ⟨y17,rfl,?_⟩
 have le14:=le13.trans le4
 refine AI hd (by rw [e2]) (fun _ hd=> ?_) (fun _ hd=> ?_)
 ·obtain rfl:=iS hd
  exact AB ⟨ψ4,(none,y17.2.1,()),none,le14,rfl,by rw [e2],rfl,(St.tail9 s19).tail⟩
 obtain ⟨g,hg,hd⟩:=bS hd
 refine AS (fun (z:Int×Int×Option Addr×Unit) w (g:AY BSt Int)=> ∃y i,g=AY.next y∧y.2.1.length≤i∧Sw φ c3 c4 c5 c6 m a r1 r2 (d0,d1,d2,d3,d4,d5) (cW 32 b1 [sv p_0.1,sv p_0.2.1,sv p_0.2.2.1,sv p_0.2.2.2.1,sv p_0.2.2.2.2.1,sv p_0.2.2.2.2.2.1] ::F) i y w) (g:=g) ?_ ?_
 ·unfold Pg at hg
  refine Ej hg (fun (z:Int×Int×Option Addr×Unit) w (x:Int×BSt)=>z.1=x.1∧0≤x.1∧Sw φ c3 c4 c5 c6 m a r1 r2 (d0,d1,d2,d3,d4,d5) (cW 32 b1 [sv p_0.1,sv p_0.2.1,sv p_0.2.2.1,sv p_0.2.2.2.1,sv p_0.2.2.2.2.1,sv p_0.2.2.2.2.2.1] ::F) x.1.toNat x.2 w) ((0:Int),(0:Int),none,()) rfl ⟨rfl,Int.le_refl _,?_⟩ ?_
  ·obtain ⟨g1,g2,g3,g4,_⟩:=Ph (E:= []) (c:=0) (i:=0) (φ:=ψ4) (S:= []) (B:= []) rfl rfl (fun j s e _ h _=>by simp at h) (fun j _=>⟨fun s h=>by simp at h,fun e h=>by simp at h⟩) hG0
   exact ⟨ψ4,ls0,S0,le14,g1,g2,g3,g4,s19⟩
  rintro ⟨i,z2,z3,_⟩ w ⟨_,fd,B,E,rm',cl'⟩ eo ⟨rfl,hi0,ψ,ls,S,le,hS,hE,hok,hfr,s⟩ hd' hbo
  dsimp only at hi0 hS hE hok hfr s hd' ⊢
  have nL:=St.rowLen s.at4
  have nM:=St.rowMax s.at4
  rw [GD hS] at nL nM
  refine AA (x:=some ⟨a,0,none⟩) s.at2 rfl ?_
  refine AG _ rfl ?_
  refine Kf ls (PG s) ?_
  refine AI hd' (by rw [nL]) (fun hlt hd'=> ?_) (fun hge hd'=> ?_)
  ·have hlt:=of_decide_eq_true hlt
   obtain ⟨b,hb,hd1⟩:=bS hd'
   clear hd'
   obtain ⟨es,hes,hd'⟩:=bS hd1
   clear hd1
   refine AA (x:=some ⟨a,0,none⟩) s.at2 rfl ?_
   refine AG _ rfl ?_
   refine Kf ls (PG s) ?_
   obtain ⟨f1,f2⟩:=Rq hfr (by omega) (by omega)
   obtain ⟨a26,cs26,ea26,hi26,q26,cl26⟩:=St.get s.at4 (Lz hb f1)
   refine AG _ ea26 (Aa hi26 ?_)
   obtain ⟨_,_,rfl,⟨t0,rfl,q0⟩,_,_,rfl,⟨t1,rfl,q1⟩,_,_,rfl,rfl,_,_,rfl,rfl,rfl⟩:=q26
   refine AE (x:=t1) (by rw [AV]; exact cl26 1 _ rfl) rfl ?_
   refine AA (x:=some ⟨a,0,none⟩) s.at2 rfl ?_
   unfold Rm at hes
   obtain ⟨syms,hsy,hes1⟩:=bS hes
   clear hes
   have hes:=hes1
   clear hes1
   refine AJ (G5 q1 s.at3 (by rw [OF]; exact hsy)) ?_
   rintro _ w2 ⟨ψ5,y29,_,le5,rfl,rfl,k29,s20⟩
   refine ⟨y29,rfl,?_⟩
   have n29:=k29.length
   have s20:=(St.back3 s20)
   have s21:=St.to9 (s20.nil 73 Ji)
   refine AS (fun (z:Int×Int×Option Addr×Unit) w (g:AY BSt Int)=> ∃y,g=AY.next y∧T1 ψ5 c3 c4 c5 c6 m a r1 r2 (d0,d1,d2,d3,d4,d5) (cW 32 b1 [sv p_0.1,sv p_0.2.1,sv p_0.2.2.1,sv p_0.2.2.2.1,sv p_0.2.2.2.2.1,sv p_0.2.2.2.2.2.1] ::F) i.toNat b y w) (g:=es) ?_ ?_
   ·refine Bz hes (fun j (z:Int×Int×Option Addr×Unit) w (y:BSt)=>z.1=j∧T1 ψ5 c3 c4 c5 c6 m a r1 r2 (d0,d1,d2,d3,d4,d5) (cW 32 b1 [sv p_0.1,sv p_0.2.1,sv p_0.2.2.1,sv p_0.2.2.2.1,sv p_0.2.2.2.2.1,sv p_0.2.2.2.2.2.1] ::F) i.toNat b y w) ((0:Int),z2,z3,()) rfl ⟨rfl,ψ5,ls,S,HA, [],Sub.refl _,hS,hE,hok.mono le5,hfr.mono (by omega),f1,f2,(CO hb).2.2,s21⟩ ?_ ?_
    ·rintro _ ⟨j,u2,u3,_⟩ w3 ⟨fd3,B3,E3,rm3,cl3⟩ e3 ⟨rfl,ψ6,ls3,S3,s_,e_,le6,hS3,hE3,hok3,hfr3,hs3,he3,hb3,s22⟩ hd3 hj1 hj2 hw hbi
     dsimp only at hS3 hE3 hok3 hfr3 he3 hb3 s22 hd3 hj1 hj2 hw ⊢
     refine Ad (by rw [n29]; exact decide_eq_true hj2) ?_
     obtain ⟨sym,hsym,hd31⟩:=bS hd3
     clear hd3
     unfold Sv at hd31
     obtain ⟨kn,hkn,hd32⟩:=bS hd31
     clear hd31
     obtain ⟨r3,hr3,hd3⟩:=bS hd32
     clear hd32
     dsimp only at hd3 hr3
     obtain ⟨a32,cs32,ea32,hi32,q32,cl32⟩:=(k29.mono le6).get hsym
     refine AG _ ea32 (Aa hi32 ?_)
     obtain rfl:=q32
     refine AE (x:=sym) (AD s22.sub (cl32 0 _ rfl)) rfl ?_
     refine AA (x:=some ⟨a,0,none⟩) s22.at2 rfl ?_
     refine AJ (Ik (q1.mono (le5.trans le6)) s22.at3 (by rw [Rn]; exact hkn)) ?_
     rintro _ w4 ⟨ψ7,y35,_,le7,rfl,rfl,k35,s23⟩
     refine ⟨y35,rfl,?_⟩
     refine AJ (Pf (gk.mono (((le.trans le5).trans le6).trans le7)) k35 hS3 (St.back3 s23) hr3) ?_
     rintro _ w5 ⟨ψ8,y36,ls4,S4,le8,rfl,e31,e32,hG,s24⟩
     refine ⟨y36,rfl,?_⟩
     refine AI hd3 (by rw [e32]) (fun _ hd3=> ?_) (fun _ hd3=> ?_)
     ·obtain rfl:=iS hd3
      obtain rfl:=hbi _ rfl
      obtain rfl:=iS hd'
      obtain rfl:=hbo _ rfl
      obtain rfl:=iS hd
      exact Al (Aj (Al (Aj (AB ⟨ψ8,(none,y36.2.1,()),none,((((le.trans le5).trans le6).trans le7).trans le8),rfl,by rw [e32],rfl,(St.tail9 s24).tail.tail⟩))))
     obtain ⟨el,hel,hd34⟩:=bS hd3
     clear hd3
     obtain ⟨el',hel',hd35⟩:=bS hd34
     clear hd34
     obtain ⟨E',hE',hd3⟩:=bS hd35
     clear hd35
     obtain rfl:=iS hd3
     obtain ⟨g1,g2,g3,g4,g5,g6,g7⟩:=Ph hS3 hE3 ((hok3.mono le7).mono le8) hfr3 hG
     have hs4:=g5 _ _ hs3
     have he4:=g6 _ _ he3
     have hb4:=g7 _ _ hb3
     obtain ⟨_,hlE,helx⟩:=CO hel
     rw [he4] at helx
     obtain rfl:=Option.some.inj helx
     rw [← e31] at hel'
     have hbi4:idx r3.2.2.2.1 i=some b:=by unfold idx; rw [if_pos hi0]; exact hb4
     refine AA (x:=some ⟨a,0,none⟩) s24.at2 rfl ?_
     refine AG _ rfl ?_
     refine Kf ls4 (PG s24) ?_
     refine AA (x:=some ⟨a,0,none⟩) s24.at2 rfl ?_
     refine AG _ rfl ?_
     refine Kf ls4 (PG s24) ?_
     obtain ⟨a43,cs43,ea43,hi43,q43,cl43⟩:=St.get s24.at4 (Lz hbi4 hs4)
     refine AG _ ea43 (Aa hi43 ?_)
     obtain ⟨_,_,rfl,⟨v0,rfl,p0⟩,_,_,rfl,⟨v1,rfl,p1⟩,_,_,rfl,rfl,_,_,rfl,rfl,rfl⟩:=q43
     refine AE (x:=s_) (by rw [AV]; exact cl43 2 _ rfl) rfl ?_
     refine IS (vs:= [.int .i64 sym, .int .i64 y36.1]) s24 fun r45 w6 keep s25=> ?_
     refine AK (keep _ _ (by rw [AV]; exact cl43 2 _ rfl)) ?_
     refine AK (PG s25.tail) ?_
     refine AK (St.cell s25.tail.at2 rfl) ?_
     refine AK (PG s25.tail) ?_
     refine AK (St.cell s25.tail.at2 rfl) ?_
     refine Ab (r:=Ji) (ms:= [(sym,y36.1)]) Ts s25.tail.at9 rfl (St.cells s25) (.cons (a:= [_,_]) ⟨[_],_,rfl,rfl,rfl⟩ .nil) rfl hel' fun s46 w7 s26=> ?_
     refine AK (PG s26.tail) ?_
     refine AK (St.cell s26.tail.at2 rfl) ?_
     refine AG _ ea43 (Aa hi43 ?_)
     have hset:EE (Ep r3.2.2.2.1 S4) i (Ly b s46)=some (Ep r3.2.2.2.1 (S4.set i.toNat s46)):=by
      unfold EE
      rw [if_pos ⟨hi0,by rw [GD g1]; omega⟩,Rp _ hb4]
     refine Mt (j:=2) s26.at5 (Lz hbi4 hs4) hset (fun cs hq=> ?_) rfl rfl ea43 (AV _ _ _) fun w8 s27=> ?_
     ·obtain ⟨_,_,rfl,⟨x0,rfl,o0⟩,_,_,rfl,⟨x1,rfl,o1⟩,_,_,rfl,rfl,_,_,rfl,rfl,rfl⟩:=hq
      exact ⟨[_],_,rfl,⟨x0,rfl,o0⟩, [_],_,rfl,⟨x1,rfl,o1⟩, [_],_,rfl,rfl, [_],_,rfl,rfl,rfl⟩
     obtain ⟨_,_,rfl⟩:=DS hE'
     obtain ⟨w1,w2⟩:=Ta (s:=s46) (e:=el') g3 g4
     have s28:=St.to9' s27.at1
     exact Ac ((IntKind.wrap .i64 (j+(1:Int))),u2,u3,()) _ rfl rfl ⟨hw,ψ8,ls4,S4.set i.toNat s46,s46,el',(le6.trans le7).trans le8,by rw [List.length_set]; exact g1,by rw [List.length_set]; exact g2,w1,w2,by rw [List.getElem?_set_self (by omega)],by rw [List.getElem?_set_self (by omega)],hb4,s28⟩
    ·rintro _ ⟨j,u2,u3,_⟩ w3 y3 ⟨rfl,hI⟩ hge hr3
     refine AU (by rw [n29]; exact decide_eq_false (Int.not_lt.2 hge)) ?_
     exact AL (AO (j,u2,u3,()) rfl ⟨y3,hr3,hI⟩)
   rintro ⟨z1,u2,u3,_⟩ w3 ⟨⟨fd3,B3,E3,rm3,cl3⟩,rfl,ψ6,ls3,S3,s_,e_,le6,hS3,hE3,hok3,hfr3,hs3,he3,hb3,s22⟩
   dsimp only at hS3 hE3 hok3 hfr3 he3 hb3 s22
   obtain rfl:=iS hd'
   obtain ⟨ψ7,le7,kE,s23⟩:=St.freezeRow s22.at9
   have hw:IntKind.wrap .i64 (i+1)=i+1:=w64 (by omega) (by unfold maxLen at nM; omega)
   have hi1:(i+1).toNat=i.toNat+1:=by omega
   refine Ac ((IntKind.wrap .i64 (i+(1:Int))),u2,u3,()) _ rfl rfl ⟨rfl,by rw [hw]; omega,ψ7,ls3,S3,((le.trans le5).trans le6).trans le7,hS3,hE3,?_,?_,s23⟩
   ·rw [hw,hi1]; exact Tb (hok3.mono le7) hs3 he3 kE
   ·rw [hw,hi1]; exact hfr3
  ·have hge:=of_decide_eq_false hge
   obtain rfl:=iS hd'
   obtain rfl:=hbo _ rfl
   exact AL (AO (i,z2,z3,()) rfl ⟨_,i.toNat,rfl,by dsimp only; omega,ψ,ls,S,le,hS,hE,hok,hfr,s⟩)
 rintro ⟨z1,z2,z3,_⟩ w ⟨⟨fd,B,E,rm',cl'⟩,i,rfl,hi,ψ,ls,S,le,hS,hE,hok,hfr,s⟩
 dsimp only at hd hi hS hE hok hfr s
 obtain ⟨tot,ht,hd⟩:=bS hd
 obtain rfl:=iS hd
 refine AA (x:=some ⟨a,0,none⟩) s.at2 rfl ?_
 refine AA (x:=some ⟨r2,0,none⟩) s.at7 rfl ?_
 refine AJ (If s.at8 ht) ?_
 rintro _ w1 ⟨ψ5,y50,le5,rfl,rfl,s20⟩
 refine ⟨y50,rfl,?_⟩
 refine AK (St.cell s20.at3 rfl) ?_
 refine AG _ rfl ?_
 obtain ⟨b,vs,e,⟨_,_,rfl,⟨u0,rfl,kk0⟩,_,_,rfl,⟨u1,rfl,kk1⟩,_,_,rfl,⟨u2,rfl,kk2⟩,_,_,rfl,⟨u3,rfl,kk3⟩,_,_,rfl,⟨u4,rfl,kk4⟩,_,_,rfl,⟨u5,rfl,kk5⟩,_,_,rfl,rfl,rfl⟩,s21⟩:=St.openR s20.at4
 obtain rfl:a=b:=by simpa using e
 refine AH s21 rfl rfl fun w2 s22=> ?_
 refine AA (x:=some ⟨a,0,none⟩) s22.at4 rfl ?_
 obtain ⟨ψ6,le6,kR,s23⟩:=St.freezeRow s22.at5
 have kS:=QP hS hE (fun j s e h1 h2=>(hok j s e (by have:=(List.getElem?_eq_some_iff.1 h1).1; omega) h1 h2).mono (le5.trans le6)) kR
 have s24:=St.shutR (r:=E1) (x:=(d0,d1,d2,d3,d4,d5,Ep B E,y50)) s23 ⟨[_],_,rfl,⟨u0,rfl,kk0.mono le6⟩, [_],_,rfl,⟨u1,rfl,kk1.mono le6⟩, [_],_,rfl,⟨u2,rfl,kk2.mono le6⟩, [_],_,rfl,⟨u3,rfl,kk3.mono le6⟩, [_],_,rfl,⟨u4,rfl,kk4.mono le6⟩, [_],_,rfl,⟨u5,rfl,kk5.mono le6⟩, [_],_,rfl,⟨ls,rfl,kS⟩,rfl⟩
 obtain ⟨ψ7,le7,kP,s25⟩:=St.freezeR (Jh _) s24
 exact AB ⟨ψ7,(some ⟨a,0,none⟩,(0:Int),()),some _,(((le.trans le5).trans le6).trans le7),rfl,rfl,kP,s25.tail.tail.tail.tail.tail.tail.tail.tail⟩
noncomputable def DB (small_0:Int×Int×Slc×Slc×Slc×Slc×Slc×Unit) (term_1:Int) (shift_2:Int) (rules_3_p:Option Addr) (rules_3_n rules_3_c:Nat):T:=
 T.new (.cells #[(.int .u8 small_0.1),(.int .u8 small_0.2.1),(sv small_0.2.2.1),(sv small_0.2.2.2.1),(sv small_0.2.2.2.2.1),(sv small_0.2.2.2.2.2.1),(sv small_0.2.2.2.2.2.2.1)] 25 (0,0)) fun r1=>
 T.call 36 [] (.one aB) fun (t2:Bool)=>
 T.load (.int .u8) ⟨r1,0,none⟩ fun (t3:Int)=>
 T.load (.int .u8) ⟨r1,1,none⟩ fun (t4:Int)=>
 T.load .slice ⟨r1,2,none⟩ fun (t5:Slc)=>
 T.load .slice ⟨r1,3,none⟩ fun (t6:Slc)=>
 T.load .slice ⟨r1,4,none⟩ fun (t7:Slc)=>
 T.load .slice ⟨r1,5,none⟩ fun (t8:Slc)=>
 T.load .slice ⟨r1,6,none⟩ fun (t9:Slc)=>
 T.call 14 [(.agg #[(.int .u8 t3),(.int .u8 t4),(sv t5),(sv t6),(sv t7),(sv t8),(sv t9)]),(.int .i64 (20:Int)),(.int .i64 (8:Int))] (.one aB) fun (t10:Bool)=>
 T.join [aB]
 (cond (!t10)
 (T.out [(.bool true)])
 (T.out [(.bool (decide (((rules_3_n:Nat):Int) >(10:Int))))])) fun (z11:Bool×Unit)=>
 cond z11.1
 (T.ret (.bool t2))
 (T.load (.int .u8) ⟨r1,0,none⟩ fun (t12:Int)=>
 T.load (.int .u8) ⟨r1,1,none⟩ fun (t13:Int)=>
 T.load .slice ⟨r1,2,none⟩ fun (t14:Slc)=>
 T.load .slice ⟨r1,3,none⟩ fun (t15:Slc)=>
 T.load .slice ⟨r1,4,none⟩ fun (t16:Slc)=>
 T.load .slice ⟨r1,5,none⟩ fun (t17:Slc)=>
 T.load .slice ⟨r1,6,none⟩ fun (t18:Slc)=>
 T.call 15 [(.agg #[(.int .u8 t12),(.int .u8 t13),(sv t14),(sv t15),(sv t16),(sv t17),(sv t18)])] (.one (.agg [.slice, .slice, .slice, .slice, .slice, .slice])) fun (t19:Pl6)=>
 T.new (.cells #[(.slice none 0 0),(.slice none 0 0),(.slice none 0 0),(.slice none 0 0),(.slice none 0 0),(.slice none 0 0)] 32 (0,0)) fun r20=>
 T.store ⟨r20,0,none⟩ (sv t19.1) <|
 T.store ⟨r20,1,none⟩ (sv t19.2.1) <|
 T.store ⟨r20,2,none⟩ (sv t19.2.2.1) <|
 T.store ⟨r20,3,none⟩ (sv t19.2.2.2.1) <|
 T.store ⟨r20,4,none⟩ (sv t19.2.2.2.2.1) <|
 T.store ⟨r20,5,none⟩ (sv t19.2.2.2.2.2.1) <|
 L6 r20 fun t21 t22 t23 t24 t25 t26=>
 T.call 37 [(aH t21 t22 t23 t24 t25 t26),(.int .i64 term_1),(.int .i64 shift_2),(.slice rules_3_p rules_3_n rules_3_c)] (.tuple [(.agg [(.int .i64),(.int .i64)]),aB]) fun (t27:(Int×Int×Unit)×Bool×Unit)=>
 T.new (.cells #[(.int .i64 (0:Int)),(.int .i64 (0:Int))] 77 (0,0)) fun r28=>
 T.store ⟨r28,0,none⟩ (.int .i64 t27.1.1) <|
 T.store ⟨r28,1,none⟩ (.int .i64 t27.1.2.1) <|
 L6 r20 fun t29 t30 t31 t32 t33 t34=>
 T.call 38 [(aH t29 t30 t31 t32 t33 t34),(.int .i64 term_1),(.int .i64 shift_2),(.slice rules_3_p rules_3_n rules_3_c)] (.tuple [(.agg [(.int .i64),(.int .i64)]),aB]) fun (t35:(Int×Int×Unit)×Bool×Unit)=>
 T.new (.cells #[(.int .i64 (0:Int)),(.int .i64 (0:Int))] 77 (0,0)) fun r36=>
 T.store ⟨r36,0,none⟩ (.int .i64 t35.1.1) <|
 T.store ⟨r36,1,none⟩ (.int .i64 t35.1.2.1) <|
 T.join [aB]
 (cond t2
 (T.load (.int .i64) ⟨r28,0,none⟩ fun (t38:Int)=>
 T.load (.int .i64) ⟨r28,1,none⟩ fun (t39:Int)=>
 T.load (.int .i64) ⟨r36,0,none⟩ fun (t40:Int)=>
 T.load (.int .i64) ⟨r36,1,none⟩ fun (t41:Int)=>
 cond ((t38==t40) && ((t39==t41) && true))
 (T.out [(.bool (t27.2.1==t35.2.1))])
 (T.out [(.bool false)]))
 (T.out [(.bool false)])) fun (z37:Bool×Unit)=>
 T.ret (.bool z37.1))
theorem FF (small_0:Int×Int×Slc×Slc×Slc×Slc×Slc×Unit) (term_1:Int) (shift_2:Int) (rules_3_p:Option Addr) (rules_3_n rules_3_c:Nat):AT Tryz.prog Tryz.f8 [(.agg #[(.int .u8 small_0.1),(.int .u8 small_0.2.1),(sv small_0.2.2.1),(sv small_0.2.2.2.1),(sv small_0.2.2.2.2.1),(sv small_0.2.2.2.2.2.1),(sv small_0.2.2.2.2.2.2.1)]),(.int .i64 term_1),(.int .i64 shift_2),(.slice rules_3_p rules_3_n rules_3_c)] =DB small_0 term_1 shift_2 rules_3_p rules_3_n rules_3_c:=by kernel_rfl
noncomputable def C1 (t_0:Int) (r_1:Int) (assoc_2:Int) (shift_3:Int):T:=
 T.call 36 [] (.one aB) fun (t1:Bool)=>
 T.new (.cells #[(.string {data:= #[36,101,110,100] }),(.string {data:= #[97] })] 9 (0,0)) fun r2=>
 T.new (.cells #[(.string {data:= #[83] })] 9 (0,0)) fun r3=>
 chk ((3:Int) ≠ 0) <|
 T.new (.cells #[(.int .i64 (0:Int)),(.int .i64 (IntKind.wrap .i64 ((1:Int) +(Int.tmod (IntKind.wrap .i64 t_0) (3:Int)))))] 3 (0,0)) fun r4=>
 T.new (.cells #[(.int .i64 (2:Int))] 3 (0,0)) fun r5=>
 T.new (.cells #[(.int .i64 (1:Int))] 3 (0,0)) fun r6=>
 chk ((3:Int) ≠ 0) <|
 T.new (.cells #[(.int .i64 (3:Int)),(.slice (some ⟨r5,0,none⟩) 1 1),(.int .i64 (0:Int)),(.int .i64 (2:Int)),(.slice (some ⟨r6,0,none⟩) 1 1),(.int .i64 (IntKind.wrap .i64 ((1:Int) +(Int.tmod (IntKind.wrap .i64 r_1) (3:Int)))))] 65 (0,0)) fun r7=>
 chk ((3:Int) ≠ 0) <|
 chk ((3:Int) ≠ 0) <|
 chk ((3:Int) ≠ 0) <|
 T.new (.cells #[(.int .i64 (0:Int)),(.int .i64 (IntKind.wrap .i64 ((1:Int) +(Int.tmod (IntKind.wrap .i64 assoc_2) (3:Int))))),(.int .i64 (IntKind.wrap .i64 ((1:Int) +(Int.tmod (IntKind.wrap .i64 assoc_2) (3:Int))))),(.int .i64 (IntKind.wrap .i64 ((1:Int) +(Int.tmod (IntKind.wrap .i64 assoc_2) (3:Int)))))] 3 (0,0)) fun r8=>
 T.new (.cells #[(.string {data:= #[] }),(.string {data:= #[] })] 9 (0,0)) fun r9=>
 T.new (.cells #[(.slice none 0 0),(.slice none 0 0),(.slice none 0 0),(.slice none 0 0),(.slice none 0 0),(.slice none 0 0)] 32 (0,0)) fun r10=>
 T.store ⟨r10,0,none⟩ (.slice (some ⟨r2,0,none⟩) 2 2) <|
 T.store ⟨r10,1,none⟩ (.slice (some ⟨r3,0,none⟩) 1 1) <|
 T.store ⟨r10,2,none⟩ (.slice (some ⟨r7,0,none⟩) 2 2) <|
 T.store ⟨r10,3,none⟩ (.slice (some ⟨r4,0,none⟩) 2 2) <|
 T.store ⟨r10,4,none⟩ (.slice (some ⟨r8,0,none⟩) 4 4) <|
 T.store ⟨r10,5,none⟩ (.slice (some ⟨r9,0,none⟩) 2 2) <|
 L6 r10 fun t11 t12 t13 t14 t15 t16=>
 T.new (.cells #[(.int .i64 (1:Int))] 3 (0,0)) fun r17=>
 T.call 37 [(aH t11 t12 t13 t14 t15 t16),(.int .i64 (1:Int)),(.int .i64 (IntKind.wrap .i64 shift_3)),(.slice (some ⟨r17,0,none⟩) 1 1)] (.tuple [(.agg [(.int .i64),(.int .i64)]),aB]) fun (t18:(Int×Int×Unit)×Bool×Unit)=>
 T.new (.cells #[(.int .i64 (0:Int)),(.int .i64 (0:Int))] 77 (0,0)) fun r19=>
 T.store ⟨r19,0,none⟩ (.int .i64 t18.1.1) <|
 T.store ⟨r19,1,none⟩ (.int .i64 t18.1.2.1) <|
 T.new (.cells #[(.int .i64 (0:Int)),(.int .i64 (0:Int))] 77 (0,0)) fun r20=>
 T.store ⟨r20,0,none⟩ (.int .i64 (1:Int)) <|
 T.store ⟨r20,1,none⟩ (.int .i64 (IntKind.wrap .i64 shift_3)) <|
 T.join [aB]
 (chk ((3:Int) ≠ 0) <|
 chk ((3:Int) ≠ 0) <|
 cond (decide ((Int.tmod r_1 (3:Int)) >(Int.tmod t_0 (3:Int))))
 (T.out [(.bool true)])
 (chk ((3:Int) ≠ 0) <|
 chk ((3:Int) ≠ 0) <|
 cond ((Int.tmod r_1 (3:Int))==(Int.tmod t_0 (3:Int)))
 (chk ((3:Int) ≠ 0) <|
 T.out [(.bool ((Int.tmod assoc_2 (3:Int))==(0:Int)))])
 (T.out [(.bool false)]))) fun (z21:Bool×Unit)=>
 T.join []
 (cond z21.1
 (T.store ⟨r20,0,none⟩ (.int .i64 (2:Int)) <|
 T.store ⟨r20,1,none⟩ (.int .i64 (1:Int)) <|
 T.out [])
 (T.out [])) fun (z22:Unit)=>
 T.join [aB]
 (chk ((3:Int) ≠ 0) <|
 chk ((3:Int) ≠ 0) <|
 cond ((Int.tmod r_1 (3:Int))==(Int.tmod t_0 (3:Int)))
 (chk ((3:Int) ≠ 0) <|
 T.out [(.bool ((Int.tmod assoc_2 (3:Int))==(2:Int)))])
 (T.out [(.bool false)])) fun (z23:Bool×Unit)=>
 T.join []
 (cond z23.1
 (T.store ⟨r20,0,none⟩ (.int .i64 (0:Int)) <|
 T.store ⟨r20,1,none⟩ (.int .i64 (0:Int)) <|
 T.out [])
 (T.out [])) fun (z24:Unit)=>
 T.join [aB]
 (cond t1
 (T.load (.int .i64) ⟨r19,0,none⟩ fun (t26:Int)=>
 T.load (.int .i64) ⟨r19,1,none⟩ fun (t27:Int)=>
 T.load (.int .i64) ⟨r20,0,none⟩ fun (t28:Int)=>
 T.load (.int .i64) ⟨r20,1,none⟩ fun (t29:Int)=>
 cond ((t26==t28) && ((t27==t29) && true))
 (T.out [(.bool (!t18.2.1))])
 (T.out [(.bool false)]))
 (T.out [(.bool false)])) fun (z25:Bool×Unit)=>
 T.ret (.bool z25.1)
theorem Er (t_0:Int) (r_1:Int) (assoc_2:Int) (shift_3:Int):AT Tryz.prog Tryz.f11 [(.int .u8 t_0),(.int .u8 r_1),(.int .u8 assoc_2),(.int .u8 shift_3)] =C1 t_0 r_1 assoc_2 shift_3:=by kernel_rfl
noncomputable def FG:T:=
 T.new (.cells #[(.int .u8 (0:Int)),(.int .u8 (0:Int))] 5 (0,0)) fun r1=>
 T.new (.cells #[(.int .u8 (2:Int)),(.int .u8 (0:Int)),(.int .u8 (2:Int))] 5 (0,0)) fun r2=>
 T.new (.cells #[(.int .u8 (1:Int))] 5 (0,0)) fun r3=>
 T.new (.cells #[(.slice (some ⟨r2,0,none⟩) 3 3),(.slice (some ⟨r3,0,none⟩) 1 1)] 22 (0,0)) fun r4=>
 T.new (.cells #[(.int .u8 (0:Int))] 5 (0,0)) fun r5=>
 T.new (.cells #[(.int .u8 (1:Int))] 5 (0,0)) fun r6=>
 T.new (.cells #[(.int .u8 (0:Int)),(.int .u8 (0:Int)),(.slice none 0 0),(.slice none 0 0),(.slice none 0 0),(.slice none 0 0),(.slice none 0 0)] 25 (0,0)) fun r7=>
 T.store ⟨r7,0,none⟩ (.int .u8 (1:Int)) <|
 T.store ⟨r7,1,none⟩ (.int .u8 (0:Int)) <|
 T.store ⟨r7,2,none⟩ (.slice (some ⟨r1,0,none⟩) 2 2) <|
 T.store ⟨r7,3,none⟩ (.slice (some ⟨r4,0,none⟩) 2 2) <|
 T.store ⟨r7,4,none⟩ (.slice none 0 0) <|
 T.store ⟨r7,5,none⟩ (.slice (some ⟨r5,0,none⟩) 1 1) <|
 T.store ⟨r7,6,none⟩ (.slice (some ⟨r6,0,none⟩) 1 1) <|
 T.load (.int .u8) ⟨r7,0,none⟩ fun (t8:Int)=>
 T.load (.int .u8) ⟨r7,1,none⟩ fun (t9:Int)=>
 T.load .slice ⟨r7,2,none⟩ fun (t10:Slc)=>
 T.load .slice ⟨r7,3,none⟩ fun (t11:Slc)=>
 T.load .slice ⟨r7,4,none⟩ fun (t12:Slc)=>
 T.load .slice ⟨r7,5,none⟩ fun (t13:Slc)=>
 T.load .slice ⟨r7,6,none⟩ fun (t14:Slc)=>
 T.call 39 [(.agg #[(.int .u8 t8),(.int .u8 t9),(sv t10),(sv t11),(sv t12),(sv t13),(sv t14)])] (.tuple [(.agg [.slice, .slice, .slice, .slice, .slice, .slice]),aP,aP,aP,aB]) fun (t15:(Pl6)×(Option Addr)×(Option Addr)×(Option Addr)×Bool×Unit)=>
 T.new (.cells #[(.slice none 0 0),(.slice none 0 0),(.slice none 0 0),(.slice none 0 0),(.slice none 0 0),(.slice none 0 0)] 32 (0,0)) fun r16=>
 T.store ⟨r16,0,none⟩ (sv t15.1.1) <|
 T.store ⟨r16,1,none⟩ (sv t15.1.2.1) <|
 T.store ⟨r16,2,none⟩ (sv t15.1.2.2.1) <|
 T.store ⟨r16,3,none⟩ (sv t15.1.2.2.2.1) <|
 T.store ⟨r16,4,none⟩ (sv t15.1.2.2.2.2.1) <|
 T.store ⟨r16,5,none⟩ (sv t15.1.2.2.2.2.2.1) <|
 T.store ⟨r7,6,none⟩ (.slice none 0 0) <|
 T.load (.int .u8) ⟨r7,0,none⟩ fun (t17:Int)=>
 T.load (.int .u8) ⟨r7,1,none⟩ fun (t18:Int)=>
 T.load .slice ⟨r7,2,none⟩ fun (t19:Slc)=>
 T.load .slice ⟨r7,3,none⟩ fun (t20:Slc)=>
 T.load .slice ⟨r7,4,none⟩ fun (t21:Slc)=>
 T.load .slice ⟨r7,5,none⟩ fun (t22:Slc)=>
 T.load .slice ⟨r7,6,none⟩ fun (t23:Slc)=>
 T.call 39 [(.agg #[(.int .u8 t17),(.int .u8 t18),(sv t19),(sv t20),(sv t21),(sv t22),(sv t23)])] (.tuple [(.agg [.slice, .slice, .slice, .slice, .slice, .slice]),aP,aP,aP,aB]) fun (t24:(Pl6)×(Option Addr)×(Option Addr)×(Option Addr)×Bool×Unit)=>
 T.new (.cells #[(.slice none 0 0),(.slice none 0 0),(.slice none 0 0),(.slice none 0 0),(.slice none 0 0),(.slice none 0 0)] 32 (0,0)) fun r25=>
 T.store ⟨r25,0,none⟩ (sv t24.1.1) <|
 T.store ⟨r25,1,none⟩ (sv t24.1.2.1) <|
 T.store ⟨r25,2,none⟩ (sv t24.1.2.2.1) <|
 T.store ⟨r25,3,none⟩ (sv t24.1.2.2.2.1) <|
 T.store ⟨r25,4,none⟩ (sv t24.1.2.2.2.2.1) <|
 T.store ⟨r25,5,none⟩ (sv t24.1.2.2.2.2.2.1) <|
 T.join [aB]
 (cond (!t15.2.2.2.2.1)
 (T.out [(.bool true)])
 (T.out [(.bool (!t24.2.2.2.2.1))])) fun (z26:Bool×Unit)=>
 cond z26.1
 (T.ret (.bool false))
 (T.new (.cells #[(.int .i64 (3:Int)),(.int .i64 (1:Int)),(.int .i64 (3:Int))] 3 (0,0)) fun r27=>
 T.call 72 [(.pointer t15.2.1),(.int .i64 (0:Int)),(.slice (some ⟨r27,0,none⟩) 3 3)] (.one aI) fun (t28:Int)=>
 T.call 40 [(.pointer t15.2.2.2.1)] (.one aS) fun (t29:Slc)=>
 T.call 40 [(.pointer t24.2.2.2.1)] (.one aS) fun (t30:Slc)=>
 T.join [aB]
 (cond (decide (t28>(0:Int)))
 (cond (((t29.2.1:Nat):Int)==(1:Int))
 (cond (((t30.2.1:Nat):Int)==(1:Int))
 (T.call 42 [(.pointer t15.2.2.2.1),(.int .i64 t28),(.int .i64 (1:Int))] (.one (.agg [(.int .i64),(.int .i64)])) fun (t32:Int×Int×Unit)=>
 cond ((t32.1==(2:Int)) && ((t32.2.1==(1:Int)) && true))
 (T.call 42 [(.pointer t24.2.2.2.1),(.int .i64 t28),(.int .i64 (1:Int))] (.one (.agg [(.int .i64),(.int .i64)])) fun (t33:Int×Int×Unit)=>
 cond (t33.1==(1:Int))
 (deref t29.1 fun a34=>
 chk (0≤(0:Int)∧(0:Int) < (t29.2.1:Nat)) <|
 T.load .bool ((a34.add (Int.toNat (0:Int) * 7)).add 6) fun (t35:Bool)=>
 cond (!t35)
 (deref t30.1 fun a36=>
 chk (0≤(0:Int)∧(0:Int) < (t30.2.1:Nat)) <|
 T.load .bool ((a36.add (Int.toNat (0:Int) * 7)).add 6) fun (t37:Bool)=>
 cond t37
 (T.call 43 [(.pointer t15.2.2.2.1)] (.one aB) fun (t38:Bool)=>
 cond t38
 (T.call 43 [(.pointer t24.2.2.2.1)] (.one aB) fun (t39:Bool)=>
 T.out [(.bool (!t39))])
 (T.out [(.bool false)]))
 (T.out [(.bool false)]))
 (T.out [(.bool false)]))
 (T.out [(.bool false)]))
 (T.out [(.bool false)]))
 (T.out [(.bool false)]))
 (T.out [(.bool false)]))
 (T.out [(.bool false)])) fun (z31:Bool×Unit)=>
 T.ret (.bool z31.1))
theorem Hc:AT Tryz.prog Tryz.f36 [] =FG:=by kernel_rfl
noncomputable def FV (small_0:Int×Int×Slc×Slc×Slc×Slc×Slc×Unit):T:=
 T.new (.cells #[(.int .u8 small_0.1),(.int .u8 small_0.2.1),(sv small_0.2.2.1),(sv small_0.2.2.2.1),(sv small_0.2.2.2.2.1),(sv small_0.2.2.2.2.2.1),(sv small_0.2.2.2.2.2.2.1)] 25 (0,0)) fun r1=>
 T.new (.cells #[(.slice none 0 0),(.slice none 0 0),(.slice none 0 0),(.slice none 0 0),(.slice none 0 0),(.slice none 0 0)] 32 (0,0)) fun r2=>
 T.load (.int .u8) ⟨r1,0,none⟩ fun (t3:Int)=>
 T.load (.int .u8) ⟨r1,1,none⟩ fun (t4:Int)=>
 T.load .slice ⟨r1,2,none⟩ fun (t5:Slc)=>
 T.load .slice ⟨r1,3,none⟩ fun (t6:Slc)=>
 T.load .slice ⟨r1,4,none⟩ fun (t7:Slc)=>
 T.load .slice ⟨r1,5,none⟩ fun (t8:Slc)=>
 T.load .slice ⟨r1,6,none⟩ fun (t9:Slc)=>
 T.call 15 [(.agg #[(.int .u8 t3),(.int .u8 t4),(sv t5),(sv t6),(sv t7),(sv t8),(sv t9)])] (.one (.agg [.slice, .slice, .slice, .slice, .slice, .slice])) fun (t10:Pl6)=>
 T.new (.cells #[(.slice none 0 0),(.slice none 0 0),(.slice none 0 0),(.slice none 0 0),(.slice none 0 0),(.slice none 0 0)] 32 (0,0)) fun r11=>
 T.store ⟨r11,0,none⟩ (sv t10.1) <|
 T.store ⟨r11,1,none⟩ (sv t10.2.1) <|
 T.store ⟨r11,2,none⟩ (sv t10.2.2.1) <|
 T.store ⟨r11,3,none⟩ (sv t10.2.2.2.1) <|
 T.store ⟨r11,4,none⟩ (sv t10.2.2.2.2.1) <|
 T.store ⟨r11,5,none⟩ (sv t10.2.2.2.2.2.1) <|
 L6 r11 fun t12 t13 t14 t15 t16 t17=>
 T.call 16 [(aH t12 t13 t14 t15 t16 t17)] (.tuple [aI,aI]) fun (t18:Int×Int×Unit)=>
 cond (t18.2.1 !=(0:Int))
 (L6 r11 fun t19 t20 t21 t22 t23 t24=>
 T.store ⟨r2,0,none⟩ (sv t19) <|
 T.store ⟨r2,1,none⟩ (sv t20) <|
 T.store ⟨r2,2,none⟩ (sv t21) <|
 T.store ⟨r2,3,none⟩ (sv t22) <|
 T.store ⟨r2,4,none⟩ (sv t23) <|
 T.store ⟨r2,5,none⟩ (sv t24) <|
 L6 r2 fun res25 res26 res27 res28 res29 res30=>
 T.ret (.tuple #[(aH res25 res26 res27 res28 res29 res30),(.pointer none),(.pointer none),(.pointer none),(.bool false)]))
 (L6 r11 fun t31 t32 t33 t34 t35 t36=>
 T.call 68 [(aH t31 t32 t33 t34 t35 t36),(.int .i64 (300:Int)),(.int .i64 (9000:Int))] (.tuple [aP,aI]) fun (t37:(Option Addr)×Int×Unit)=>
 T.join [aB]
 (cond (Option.isNone t37.1)
 (T.out [(.bool true)])
 (T.call 20 [(.pointer t37.1)] (.one aI) fun (t39:Int)=>
 T.out [(.bool (t39==(0:Int)))])) fun (z38:Bool×Unit)=>
 cond z38.1
 (L6 r11 fun t40 t41 t42 t43 t44 t45=>
 T.store ⟨r2,0,none⟩ (sv t40) <|
 T.store ⟨r2,1,none⟩ (sv t41) <|
 T.store ⟨r2,2,none⟩ (sv t42) <|
 T.store ⟨r2,3,none⟩ (sv t43) <|
 T.store ⟨r2,4,none⟩ (sv t44) <|
 T.store ⟨r2,5,none⟩ (sv t45) <|
 L6 r2 fun res46 res47 res48 res49 res50 res51=>
 T.ret (.tuple #[(aH res46 res47 res48 res49 res50 res51),(.pointer none),(.pointer none),(.pointer none),(.bool false)]))
 (L6 r11 fun t52 t53 t54 t55 t56 t57=>
 T.call 69 [(aH t52 t53 t54 t55 t56 t57),(.pointer t37.1)] (.one aP) fun (t58:Option Addr)=>
 cond (Option.isNone t58)
 (L6 r11 fun t59 t60 t61 t62 t63 t64=>
 T.store ⟨r2,0,none⟩ (sv t59) <|
 T.store ⟨r2,1,none⟩ (sv t60) <|
 T.store ⟨r2,2,none⟩ (sv t61) <|
 T.store ⟨r2,3,none⟩ (sv t62) <|
 T.store ⟨r2,4,none⟩ (sv t63) <|
 T.store ⟨r2,5,none⟩ (sv t64) <|
 L6 r2 fun res65 res66 res67 res68 res69 res70=>
 T.ret (.tuple #[(aH res65 res66 res67 res68 res69 res70),(.pointer none),(.pointer none),(.pointer none),(.bool false)]))
 (L6 r11 fun t71 t72 t73 t74 t75 t76=>
 T.call 83 [(aH t71 t72 t73 t74 t75 t76),(.pointer t37.1),(.pointer t58)] (.one aP) fun (t77:Option Addr)=>
 L6 r11 fun t78 t79 t80 t81 t82 t83=>
 T.store ⟨r2,0,none⟩ (sv t78) <|
 T.store ⟨r2,1,none⟩ (sv t79) <|
 T.store ⟨r2,2,none⟩ (sv t80) <|
 T.store ⟨r2,3,none⟩ (sv t81) <|
 T.store ⟨r2,4,none⟩ (sv t82) <|
 T.store ⟨r2,5,none⟩ (sv t83) <|
 L6 r2 fun res84 res85 res86 res87 res88 res89=>
 T.ret (.tuple #[(aH res84 res85 res86 res87 res88 res89),(.pointer t37.1),(.pointer t58),(.pointer t77),(.bool (!(Option.isNone t77)))]))))
theorem H6 (small_0:Int×Int×Slc×Slc×Slc×Slc×Slc×Unit):AT Tryz.prog Tryz.f39 [(.agg #[(.int .u8 small_0.1),(.int .u8 small_0.2.1),(sv small_0.2.2.1),(sv small_0.2.2.2.1),(sv small_0.2.2.2.2.1),(sv small_0.2.2.2.2.2.1),(sv small_0.2.2.2.2.2.2.1)])] =FV small_0:=by kernel_rfl
noncomputable def Iv (p_0:Pl6) (term_1:Int) (shift_2:Int) (rules_3_p:Option Addr) (rules_3_n rules_3_c:Nat):T:=
 T.new (.cells #[(sv p_0.1),(sv p_0.2.1),(sv p_0.2.2.1),(sv p_0.2.2.2.1),(sv p_0.2.2.2.2.1),(sv p_0.2.2.2.2.2.1)] 32 (0,0)) fun r1=>
 T.new (.cells #[(.int .i64 (0:Int)),(.int .i64 (0:Int))] 77 (0,0)) fun r2=>
 T.new (.cells #[(.int .i64 (0:Int)),(.int .i64 (0:Int))] 77 (0,0)) fun r3=>
 T.store ⟨r3,0,none⟩ (.int .i64 (1:Int)) <|
 T.store ⟨r3,1,none⟩ (.int .i64 shift_2) <|
 T.join [aB]
 (cond (((rules_3_n:Nat):Int)==(0:Int))
 (T.out [(.bool (decide (shift_2< (0:Int))))])
 (T.out [(.bool false)])) fun (z4:Bool×Unit)=>
 cond z4.1
 (T.store ⟨r2,0,none⟩ (.int .i64 (0:Int)) <|
 T.store ⟨r2,1,none⟩ (.int .i64 (0:Int)) <|
 T.load (.int .i64) ⟨r2,0,none⟩ fun (res5:Int)=>
 T.load (.int .i64) ⟨r2,1,none⟩ fun (res6:Int)=>
 T.ret (.tuple #[(.agg #[(.int .i64 res5),(.int .i64 res6)]),(.bool false)]))
 (cond (((rules_3_n:Nat):Int)==(0:Int))
 (T.load (.int .i64) ⟨r3,0,none⟩ fun (t7:Int)=>
 T.load (.int .i64) ⟨r3,1,none⟩ fun (t8:Int)=>
 T.store ⟨r2,0,none⟩ (.int .i64 t7) <|
 T.store ⟨r2,1,none⟩ (.int .i64 t8) <|
 T.load (.int .i64) ⟨r2,0,none⟩ fun (res9:Int)=>
 T.load (.int .i64) ⟨r2,1,none⟩ fun (res10:Int)=>
 T.ret (.tuple #[(.agg #[(.int .i64 res9),(.int .i64 res10)]),(.bool false)]))
 (T.join [aB]
 (cond (((rules_3_n:Nat):Int)==(1:Int))
 (T.out [(.bool (decide (shift_2< (0:Int))))])
 (T.out [(.bool false)])) fun (z11:Bool×Unit)=>
 cond z11.1
 (deref rules_3_p fun a12=>
 chk (0≤(0:Int)∧(0:Int) < (rules_3_n:Nat)) <|
 T.load (.int .i64) (a12.add (Int.toNat (0:Int) * 1)) fun (t13:Int)=>
 T.call 80 [(.int .i64 t13)] (.one (.agg [(.int .i64),(.int .i64)])) fun (t14:Int×Int×Unit)=>
 T.store ⟨r2,0,none⟩ (.int .i64 t14.1) <|
 T.store ⟨r2,1,none⟩ (.int .i64 t14.2.1) <|
 T.load (.int .i64) ⟨r2,0,none⟩ fun (res15:Int)=>
 T.load (.int .i64) ⟨r2,1,none⟩ fun (res16:Int)=>
 T.ret (.tuple #[(.agg #[(.int .i64 res15),(.int .i64 res16)]),(.bool false)]))
 (cond (((rules_3_n:Nat):Int)==(1:Int))
 (L6 r1 fun t17 t18 t19 t20 t21 t22=>
 T.load (.int .i64) ⟨r3,0,none⟩ fun (t23:Int)=>
 T.load (.int .i64) ⟨r3,1,none⟩ fun (t24:Int)=>
 deref rules_3_p fun a25=>
 chk (0≤(0:Int)∧(0:Int) < (rules_3_n:Nat)) <|
 T.load (.int .i64) (a25.add (Int.toNat (0:Int) * 1)) fun (t26:Int)=>
 T.call 80 [(.int .i64 t26)] (.one (.agg [(.int .i64),(.int .i64)])) fun (t27:Int×Int×Unit)=>
 T.still ⟨r3,0,none⟩ (.int .i64 t23) <|
 T.still ⟨r3,1,none⟩ (.int .i64 t24) <|
 S6 r1 t17 t18 t19 t20 t21 t22<|
 T.call 81 [(aH t17 t18 t19 t20 t21 t22),(.int .i64 term_1),(.agg #[(.int .i64 t23),(.int .i64 t24)]),(.agg #[(.int .i64 t27.1),(.int .i64 t27.2.1)])] (.tuple [(.agg [(.int .i64),(.int .i64)]),aB]) fun (t28:(Int×Int×Unit)×Bool×Unit)=>
 T.store ⟨r2,0,none⟩ (.int .i64 t28.1.1) <|
 T.store ⟨r2,1,none⟩ (.int .i64 t28.1.2.1) <|
 T.load (.int .i64) ⟨r2,0,none⟩ fun (res29:Int)=>
 T.load (.int .i64) ⟨r2,1,none⟩ fun (res30:Int)=>
 T.ret (.tuple #[(.agg #[(.int .i64 res29),(.int .i64 res30)]),(.bool t28.2.1)]))
 (cond (decide (shift_2≥ (0:Int)))
 (T.load (.int .i64) ⟨r3,0,none⟩ fun (t31:Int)=>
 T.load (.int .i64) ⟨r3,1,none⟩ fun (t32:Int)=>
 T.store ⟨r2,0,none⟩ (.int .i64 t31) <|
 T.store ⟨r2,1,none⟩ (.int .i64 t32) <|
 T.load (.int .i64) ⟨r2,0,none⟩ fun (res33:Int)=>
 T.load (.int .i64) ⟨r2,1,none⟩ fun (res34:Int)=>
 T.ret (.tuple #[(.agg #[(.int .i64 res33),(.int .i64 res34)]),(.bool true)]))
 (T.call 82 [(.slice rules_3_p rules_3_n rules_3_c)] (.one aI) fun (t35:Int)=>
 T.call 80 [(.int .i64 t35)] (.one (.agg [(.int .i64),(.int .i64)])) fun (t36:Int×Int×Unit)=>
 T.store ⟨r2,0,none⟩ (.int .i64 t36.1) <|
 T.store ⟨r2,1,none⟩ (.int .i64 t36.2.1) <|
 T.load (.int .i64) ⟨r2,0,none⟩ fun (res37:Int)=>
 T.load (.int .i64) ⟨r2,1,none⟩ fun (res38:Int)=>
 T.ret (.tuple #[(.agg #[(.int .i64 res37),(.int .i64 res38)]),(.bool true)]))))))
theorem Kr (p_0:Pl6) (term_1:Int) (shift_2:Int) (rules_3_p:Option Addr) (rules_3_n rules_3_c:Nat):AT Tryz.prog Tryz.f37 [(aG p_0),(.int .i64 term_1),(.int .i64 shift_2),(.slice rules_3_p rules_3_n rules_3_c)] =Iv p_0 term_1 shift_2 rules_3_p rules_3_n rules_3_c:=by kernel_rfl
noncomputable def FW (p_0:Pl6) (term_1:Int) (shift_2:Int) (rules_3_p:Option Addr) (rules_3_n rules_3_c:Nat):T:=
 T.new (.cells #[(sv p_0.1),(sv p_0.2.1),(sv p_0.2.2.1),(sv p_0.2.2.2.1),(sv p_0.2.2.2.2.1),(sv p_0.2.2.2.2.2.1)] 32 (0,0)) fun r1=>
 T.new (.cells #[(.int .i64 (0:Int)),(.int .i64 (0:Int))] 77 (0,0)) fun r2=>
 T.block 0 [aI,aI]
 (T.loop [aI,aI] [(.int .i64 (0:Int)),(.int .i64 (0:Int))] fun (z4:Int×Int×Unit)=>
 cond (decide (z4.1< ((rules_3_n:Nat):Int)))
 (T.join [aB]
 (cond (z4.1==(0:Int))
 (T.out [(.bool true)])
 (deref rules_3_p fun a6=>
 chk (0≤z4.1∧z4.1< (rules_3_n:Nat)) <|
 T.load (.int .i64) (a6.add (Int.toNat z4.1 * 1)) fun (t7:Int)=>
 T.out [(.bool (decide (t7<z4.2.1)))])) fun (z5:Bool×Unit)=>
 T.join [aI]
 (cond z5.1
 (deref rules_3_p fun a9=>
 chk (0≤z4.1∧z4.1< (rules_3_n:Nat)) <|
 T.load (.int .i64) (a9.add (Int.toNat z4.1 * 1)) fun (t10:Int)=>
 T.out [(.int .i64 t10)])
 (T.out [(.int .i64 z4.2.1)])) fun (z8:Int×Unit)=>
 T.out [(.int .i64 (wN z4.1)),(.int .i64 z8.1)])
 (T.brk 0 [(.int .i64 z4.1),(.int .i64 z4.2.1)])) fun (z3:Int×Int×Unit)=>
 T.new (.cells #[(.int .i64 (0:Int)),(.int .i64 (0:Int))] 77 (0,0)) fun r11=>
 T.store ⟨r11,0,none⟩ (.int .i64 (1:Int)) <|
 T.store ⟨r11,1,none⟩ (.int .i64 shift_2) <|
 T.new (.cells #[(.int .i64 (0:Int)),(.int .i64 (0:Int))] 77 (0,0)) fun r12=>
 T.store ⟨r12,0,none⟩ (.int .i64 (2:Int)) <|
 T.store ⟨r12,1,none⟩ (.int .i64 z3.2.1) <|
 T.join []
 (cond (z3.2.1==(0:Int))
 (T.store ⟨r12,0,none⟩ (.int .i64 (3:Int)) <|
 T.store ⟨r12,1,none⟩ (.int .i64 (0:Int)) <|
 T.out [])
 (T.out [])) fun (z13:Unit)=>
 T.join [aB]
 (cond (decide (shift_2< (0:Int)))
 (T.out [(.bool (((rules_3_n:Nat):Int)==(0:Int)))])
 (T.out [(.bool false)])) fun (z14:Bool×Unit)=>
 cond z14.1
 (T.store ⟨r2,0,none⟩ (.int .i64 (0:Int)) <|
 T.store ⟨r2,1,none⟩ (.int .i64 (0:Int)) <|
 T.load (.int .i64) ⟨r2,0,none⟩ fun (res15:Int)=>
 T.load (.int .i64) ⟨r2,1,none⟩ fun (res16:Int)=>
 T.ret (.tuple #[(.agg #[(.int .i64 res15),(.int .i64 res16)]),(.bool false)]))
 (cond (decide (shift_2< (0:Int)))
 (T.load (.int .i64) ⟨r12,0,none⟩ fun (t17:Int)=>
 T.load (.int .i64) ⟨r12,1,none⟩ fun (t18:Int)=>
 T.store ⟨r2,0,none⟩ (.int .i64 t17) <|
 T.store ⟨r2,1,none⟩ (.int .i64 t18) <|
 T.load (.int .i64) ⟨r2,0,none⟩ fun (res19:Int)=>
 T.load (.int .i64) ⟨r2,1,none⟩ fun (res20:Int)=>
 T.ret (.tuple #[(.agg #[(.int .i64 res19),(.int .i64 res20)]),(.bool (decide (((rules_3_n:Nat):Int) >(1:Int))))]))
 (cond (((rules_3_n:Nat):Int) !=(1:Int))
 (T.load (.int .i64) ⟨r11,0,none⟩ fun (t21:Int)=>
 T.load (.int .i64) ⟨r11,1,none⟩ fun (t22:Int)=>
 T.store ⟨r2,0,none⟩ (.int .i64 t21) <|
 T.store ⟨r2,1,none⟩ (.int .i64 t22) <|
 T.load (.int .i64) ⟨r2,0,none⟩ fun (res23:Int)=>
 T.load (.int .i64) ⟨r2,1,none⟩ fun (res24:Int)=>
 T.ret (.tuple #[(.agg #[(.int .i64 res23),(.int .i64 res24)]),(.bool (decide (((rules_3_n:Nat):Int) >(1:Int))))]))
 (T.join [aB]
 (cond (decide (term_1≥ (0:Int)))
 (T.load .slice ⟨r1,3,none⟩ fun (t26:Slc)=>
 T.out [(.bool (decide (term_1< ((t26.2.1:Nat):Int))))])
 (T.out [(.bool false)])) fun (z25:Bool×Unit)=>
 T.join [aI]
 (cond z25.1
 (T.load .slice ⟨r1,3,none⟩ fun (t28:Slc)=>
 deref t28.1 fun a29=>
 chk (0≤term_1∧term_1< (t28.2.1:Nat)) <|
 T.load (.int .i64) (a29.add (Int.toNat term_1 * 1)) fun (t30:Int)=>
 T.out [(.int .i64 t30)])
 (T.out [(.int .i64 (0:Int))])) fun (z27:Int×Unit)=>
 T.join [aB]
 (cond (decide (z3.2.1≥ (0:Int)))
 (T.load .slice ⟨r1,2,none⟩ fun (t32:Slc)=>
 T.out [(.bool (decide (z3.2.1< ((t32.2.1:Nat):Int))))])
 (T.out [(.bool false)])) fun (z31:Bool×Unit)=>
 T.join [aI]
 (cond z31.1
 (T.load .slice ⟨r1,2,none⟩ fun (t34:Slc)=>
 deref t34.1 fun a35=>
 chk (0≤z3.2.1∧z3.2.1< (t34.2.1:Nat)) <|
 T.load (.int .i64) ((a35.add (Int.toNat z3.2.1 * 3)).add 2) fun (t36:Int)=>
 T.out [(.int .i64 t36)])
 (T.out [(.int .i64 (0:Int))])) fun (z33:Int×Unit)=>
 T.join [aB]
 (cond (decide (z27.1< (1:Int)))
 (T.out [(.bool true)])
 (T.out [(.bool (decide (z33.1< (1:Int))))])) fun (z37:Bool×Unit)=>
 cond z37.1
 (T.load (.int .i64) ⟨r11,0,none⟩ fun (t38:Int)=>
 T.load (.int .i64) ⟨r11,1,none⟩ fun (t39:Int)=>
 T.store ⟨r2,0,none⟩ (.int .i64 t38) <|
 T.store ⟨r2,1,none⟩ (.int .i64 t39) <|
 T.load (.int .i64) ⟨r2,0,none⟩ fun (res40:Int)=>
 T.load (.int .i64) ⟨r2,1,none⟩ fun (res41:Int)=>
 T.ret (.tuple #[(.agg #[(.int .i64 res40),(.int .i64 res41)]),(.bool true)]))
 (T.join [aB]
 (cond (decide (z33.1>z27.1))
 (T.out [(.bool true)])
 (cond (z33.1==z27.1)
 (T.load .slice ⟨r1,4,none⟩ fun (t43:Slc)=>
 deref t43.1 fun a44=>
 chk (0≤z27.1∧z27.1< (t43.2.1:Nat)) <|
 T.load (.int .i64) (a44.add (Int.toNat z27.1 * 1)) fun (t45:Int)=>
 T.out [(.bool (t45==(1:Int)))])
 (T.out [(.bool false)]))) fun (z42:Bool×Unit)=>
 cond z42.1
 (T.load (.int .i64) ⟨r12,0,none⟩ fun (t46:Int)=>
 T.load (.int .i64) ⟨r12,1,none⟩ fun (t47:Int)=>
 T.store ⟨r2,0,none⟩ (.int .i64 t46) <|
 T.store ⟨r2,1,none⟩ (.int .i64 t47) <|
 T.load (.int .i64) ⟨r2,0,none⟩ fun (res48:Int)=>
 T.load (.int .i64) ⟨r2,1,none⟩ fun (res49:Int)=>
 T.ret (.tuple #[(.agg #[(.int .i64 res48),(.int .i64 res49)]),(.bool false)]))
 (T.join [aB]
 (cond (z33.1==z27.1)
 (T.load .slice ⟨r1,4,none⟩ fun (t51:Slc)=>
 deref t51.1 fun a52=>
 chk (0≤z27.1∧z27.1< (t51.2.1:Nat)) <|
 T.load (.int .i64) (a52.add (Int.toNat z27.1 * 1)) fun (t53:Int)=>
 T.out [(.bool (t53==(3:Int)))])
 (T.out [(.bool false)])) fun (z50:Bool×Unit)=>
 cond z50.1
 (T.store ⟨r2,0,none⟩ (.int .i64 (0:Int)) <|
 T.store ⟨r2,1,none⟩ (.int .i64 (0:Int)) <|
 T.load (.int .i64) ⟨r2,0,none⟩ fun (res54:Int)=>
 T.load (.int .i64) ⟨r2,1,none⟩ fun (res55:Int)=>
 T.ret (.tuple #[(.agg #[(.int .i64 res54),(.int .i64 res55)]),(.bool false)]))
 (T.load (.int .i64) ⟨r11,0,none⟩ fun (t56:Int)=>
 T.load (.int .i64) ⟨r11,1,none⟩ fun (t57:Int)=>
 T.store ⟨r2,0,none⟩ (.int .i64 t56) <|
 T.store ⟨r2,1,none⟩ (.int .i64 t57) <|
 T.load (.int .i64) ⟨r2,0,none⟩ fun (res58:Int)=>
 T.load (.int .i64) ⟨r2,1,none⟩ fun (res59:Int)=>
 T.ret (.tuple #[(.agg #[(.int .i64 res58),(.int .i64 res59)]),(.bool false)])))))))
theorem H7 (p_0:Pl6) (term_1:Int) (shift_2:Int) (rules_3_p:Option Addr) (rules_3_n rules_3_c:Nat):AT Tryz.prog Tryz.f38 [(aG p_0),(.int .i64 term_1),(.int .i64 shift_2),(.slice rules_3_p rules_3_n rules_3_c)] =FW p_0 term_1 shift_2 rules_3_p rules_3_n rules_3_c:=by kernel_rfl
noncomputable def ER (g_0:Option Addr):T:=
 deref g_0 fun a1=>
 T.load .slice (a1.add 8) fun (t2:Slc)=>
 T.block 0 [aI,aS]
 (T.loop [aI,aS] [(.int .i64 (0:Int)),(.slice none 0 0)] fun (z4:Int×Slc×Unit)=>
 cond (decide (z4.1< ((t2.2.1:Nat):Int)))
 (deref t2.1 fun a5=>
 chk (0≤z4.1∧z4.1< (t2.2.1:Nat)) <|
 T.load (.int .i64) (a5.add (Int.toNat z4.1 * 7)) fun (t6:Int)=>
 T.load (.int .i64) ((a5.add (Int.toNat z4.1 * 7)).add 1) fun (t7:Int)=>
 T.load (.int .i64) ((a5.add (Int.toNat z4.1 * 7)).add 2) fun (t8:Int)=>
 T.load .slice ((a5.add (Int.toNat z4.1 * 7)).add 3) fun (t9:Slc)=>
 T.load (.int .i64) ((a5.add (Int.toNat z4.1 * 7)).add 4) fun (t10:Int)=>
 T.load (.int .i64) ((a5.add (Int.toNat z4.1 * 7)).add 5) fun (t11:Int)=>
 T.load .bool ((a5.add (Int.toNat z4.1 * 7)).add 6) fun (t12:Bool)=>
 T.new (.cells #[(.int .i64 (0:Int)),(.int .i64 (0:Int)),(.int .i64 (0:Int)),(.slice none 0 0),(.int .i64 (0:Int)),(.int .i64 (0:Int)),(.bool false)] 89 (0,0)) fun r13=>
 T.store ⟨r13,0,none⟩ (.int .i64 t6) <|
 T.store ⟨r13,1,none⟩ (.int .i64 t7) <|
 T.store ⟨r13,2,none⟩ (.int .i64 t8) <|
 T.store ⟨r13,3,none⟩ (sv t9) <|
 T.store ⟨r13,4,none⟩ (.int .i64 t10) <|
 T.store ⟨r13,5,none⟩ (.int .i64 t11) <|
 T.store ⟨r13,6,none⟩ (.bool t12) <|
 T.load .slice ⟨r13,3,none⟩ fun (t14:Slc)=>
 T.call 84 [(sv t14)] (.one aS) fun (t15:Slc)=>
 T.store ⟨r13,3,none⟩ (sv t15) <|
 T.load (.int .i64) ⟨r13,0,none⟩ fun (t16:Int)=>
 T.load (.int .i64) ⟨r13,1,none⟩ fun (t17:Int)=>
 T.load (.int .i64) ⟨r13,2,none⟩ fun (t18:Int)=>
 T.load .slice ⟨r13,3,none⟩ fun (t19:Slc)=>
 T.load (.int .i64) ⟨r13,4,none⟩ fun (t20:Int)=>
 T.load (.int .i64) ⟨r13,5,none⟩ fun (t21:Int)=>
 T.load .bool ⟨r13,6,none⟩ fun (t22:Bool)=>
 T.new (.cells #[(.int .i64 t16),(.int .i64 t17),(.int .i64 t18),(sv t19),(.int .i64 t20),(.int .i64 t21),(.bool t22)] 89 (0,0)) fun r23=>
 T.sem (Builtin.append_ #[84,84] 84 #[(sv z4.2.1),(.slice (some ⟨r23,0,none⟩) 1 1)]) (.one aS) fun (t24:Slc)=>
 T.out [(.int .i64 (wN z4.1)),(sv t24)])
 (T.brk 0 [(.int .i64 z4.1),(sv z4.2.1)])) fun (z3:Int×Slc×Unit)=>
 T.ret (sv z3.2.1)
theorem Gk (g_0:Option Addr):AT Tryz.prog Tryz.f40 [(.pointer g_0)] =ER g_0:=by kernel_rfl
noncomputable def Gb (g_0:Option Addr) (state_1:Int) (term_2:Int):T:=
 T.new (.cells #[(.int .i64 (0:Int)),(.int .i64 (0:Int))] 77 (0,0)) fun r1=>
 T.join [aB]
 (T.call 85 [(.pointer g_0),(.int .i64 state_1)] (.one aB) fun (t3:Bool)=>
 cond (!t3)
 (T.out [(.bool true)])
 (deref g_0 fun a4=>
 M6 a4 fun t5 t6 t7 t8 t9 t10=>
 T.call 86 [(aH t5 t6 t7 t8 t9 t10),(.int .i64 term_2)] (.one aB) fun (t11:Bool)=>
 T.out [(.bool (!t11))])) fun (z2:Bool×Unit)=>
 cond z2.1
 (T.store ⟨r1,0,none⟩ (.int .i64 (0:Int)) <|
 T.store ⟨r1,1,none⟩ (.int .i64 (0:Int)) <|
 T.load (.int .i64) ⟨r1,0,none⟩ fun (res12:Int)=>
 T.load (.int .i64) ⟨r1,1,none⟩ fun (res13:Int)=>
 T.ret (.agg #[(.int .i64 res12),(.int .i64 res13)]))
 (deref g_0 fun a14=>
 T.load .slice (a14.add 6) fun (t15:Slc)=>
 deref t15.1 fun a16=>
 chk (0≤state_1∧state_1< (t15.2.1:Nat)) <|
 T.load .slice (a16.add (Int.toNat state_1 * 1)) fun (t17:Slc)=>
 deref t17.1 fun a18=>
 chk (0≤term_2∧term_2< (t17.2.1:Nat)) <|
 T.load (.int .i64) (a18.add (Int.toNat term_2 * 2)) fun (t19:Int)=>
 T.load (.int .i64) ((a18.add (Int.toNat term_2 * 2)).add 1) fun (t20:Int)=>
 T.store ⟨r1,0,none⟩ (.int .i64 t19) <|
 T.store ⟨r1,1,none⟩ (.int .i64 t20) <|
 T.load (.int .i64) ⟨r1,0,none⟩ fun (res21:Int)=>
 T.load (.int .i64) ⟨r1,1,none⟩ fun (res22:Int)=>
 T.ret (.agg #[(.int .i64 res21),(.int .i64 res22)]))
theorem JO (g_0:Option Addr) (state_1:Int) (term_2:Int):AT Tryz.prog Tryz.f42 [(.pointer g_0),(.int .i64 state_1),(.int .i64 term_2)] =Gb g_0 state_1 term_2:=by kernel_rfl
noncomputable def FH (g_0:Option Addr):T:=
 deref g_0 fun a1=>
 T.load .slice (a1.add 8) fun (t2:Slc)=>
 T.call 87 [(sv t2),(.func (.func 88) #[] #[])] (.one aB) fun (t3:Bool)=>
 T.ret (.bool (!t3))
theorem Hd (g_0:Option Addr):AT Tryz.prog Tryz.f43 [(.pointer g_0)] =FH g_0:=by kernel_rfl
noncomputable def HC (rule_0:Int):T:=
 T.new (.cells #[(.int .i64 (0:Int)),(.int .i64 (0:Int))] 77 (0,0)) fun r1=>
 cond (rule_0==(0:Int))
 (T.store ⟨r1,0,none⟩ (.int .i64 (3:Int)) <|
 T.store ⟨r1,1,none⟩ (.int .i64 (0:Int)) <|
 T.load (.int .i64) ⟨r1,0,none⟩ fun (res2:Int)=>
 T.load (.int .i64) ⟨r1,1,none⟩ fun (res3:Int)=>
 T.ret (.agg #[(.int .i64 res2),(.int .i64 res3)]))
 (T.store ⟨r1,0,none⟩ (.int .i64 (2:Int)) <|
 T.store ⟨r1,1,none⟩ (.int .i64 rule_0) <|
 T.load (.int .i64) ⟨r1,0,none⟩ fun (res4:Int)=>
 T.load (.int .i64) ⟨r1,1,none⟩ fun (res5:Int)=>
 T.ret (.agg #[(.int .i64 res4),(.int .i64 res5)]))
theorem Jw (rule_0:Int):AT Tryz.prog Tryz.f80 [(.int .i64 rule_0)] =HC rule_0:=by kernel_rfl
noncomputable def KY (p_0:Pl6) (term_1:Int) (shift_2:Int×Int×Unit) (rule_3:Int×Int×Unit):T:=
 T.new (.cells #[(sv p_0.1),(sv p_0.2.1),(sv p_0.2.2.1),(sv p_0.2.2.2.1),(sv p_0.2.2.2.2.1),(sv p_0.2.2.2.2.2.1)] 32 (0,0)) fun r1=>
 T.new (.cells #[(.int .i64 shift_2.1),(.int .i64 shift_2.2.1)] 77 (0,0)) fun r2=>
 T.new (.cells #[(.int .i64 rule_3.1),(.int .i64 rule_3.2.1)] 77 (0,0)) fun r3=>
 T.new (.cells #[(.int .i64 (0:Int)),(.int .i64 (0:Int))] 77 (0,0)) fun r4=>
 L6 r1 fun t5 t6 t7 t8 t9 t10=>
 L6 r1 fun t11 t12 t13 t14 t15 t16=>
 T.load (.int .i64) ⟨r3,1,none⟩ fun (t17:Int)=>
 T.call 116 [(aH t5 t6 t7 t8 t9 t10),(.int .i64 term_1)] (.one aI) fun (t18:Int)=>
 T.still ⟨r3,1,none⟩ (.int .i64 t17) <|
 S6 r1 t11 t12 t13 t14 t15 t16<|
 T.call 117 [(aH t11 t12 t13 t14 t15 t16),(.int .i64 t17)] (.one aI) fun (t19:Int)=>
 T.join [aB]
 (cond (decide (t18≤(0:Int)))
 (T.out [(.bool true)])
 (T.out [(.bool (decide (t19≤(0:Int))))])) fun (z20:Bool×Unit)=>
 cond z20.1
 (T.load (.int .i64) ⟨r2,0,none⟩ fun (t21:Int)=>
 T.load (.int .i64) ⟨r2,1,none⟩ fun (t22:Int)=>
 T.store ⟨r4,0,none⟩ (.int .i64 t21) <|
 T.store ⟨r4,1,none⟩ (.int .i64 t22) <|
 T.load (.int .i64) ⟨r4,0,none⟩ fun (res23:Int)=>
 T.load (.int .i64) ⟨r4,1,none⟩ fun (res24:Int)=>
 T.ret (.tuple #[(.agg #[(.int .i64 res23),(.int .i64 res24)]),(.bool true)]))
 (T.block 0 [aB]
 (T.block 3 [aB]
 (T.block 2 [aB]
 (T.block 1 []
 (T.join [aB]
 (cond (t19==t18)
 (T.load .slice ⟨r1,4,none⟩ fun (t30:Slc)=>
 deref t30.1 fun a31=>
 chk (0≤t18∧t18< (t30.2.1:Nat)) <|
 T.load (.int .i64) (a31.add (Int.toNat t18 * 1)) fun (t32:Int)=>
 T.out [(.bool (t32==(3:Int)))])
 (T.out [(.bool false)])) fun (z29:Bool×Unit)=>
 cond z29.1
 (T.brk 1 [])
 (T.join [aB]
 (cond (t19==t18)
 (T.load .slice ⟨r1,4,none⟩ fun (t34:Slc)=>
 deref t34.1 fun a35=>
 chk (0≤t18∧t18< (t34.2.1:Nat)) <|
 T.load (.int .i64) (a35.add (Int.toNat t18 * 1)) fun (t36:Int)=>
 T.out [(.bool (t36==(1:Int)))])
 (T.out [(.bool false)])) fun (z33:Bool×Unit)=>
 cond z33.1
 (T.brk 2 [(.bool false)])
 (cond (decide (t19>t18))
 (T.brk 3 [(.bool false)])
 (T.brk 0 [(.bool false)])))) fun (z28:Unit)=>
 T.store ⟨r4,0,none⟩ (.int .i64 (0:Int)) <|
 T.store ⟨r4,1,none⟩ (.int .i64 (0:Int)) <|
 T.load (.int .i64) ⟨r4,0,none⟩ fun (res37:Int)=>
 T.load (.int .i64) ⟨r4,1,none⟩ fun (res38:Int)=>
 T.ret (.tuple #[(.agg #[(.int .i64 res37),(.int .i64 res38)]),(.bool false)])) fun (z27:Bool×Unit)=>
 T.out [(.bool z27.1)]) fun (z26:Bool×Unit)=>
 T.load (.int .i64) ⟨r3,0,none⟩ fun (t39:Int)=>
 T.load (.int .i64) ⟨r3,1,none⟩ fun (t40:Int)=>
 T.store ⟨r4,0,none⟩ (.int .i64 t39) <|
 T.store ⟨r4,1,none⟩ (.int .i64 t40) <|
 T.load (.int .i64) ⟨r4,0,none⟩ fun (res41:Int)=>
 T.load (.int .i64) ⟨r4,1,none⟩ fun (res42:Int)=>
 T.ret (.tuple #[(.agg #[(.int .i64 res41),(.int .i64 res42)]),(.bool false)])) fun (z25:Bool×Unit)=>
 T.load (.int .i64) ⟨r2,0,none⟩ fun (t43:Int)=>
 T.load (.int .i64) ⟨r2,1,none⟩ fun (t44:Int)=>
 T.store ⟨r4,0,none⟩ (.int .i64 t43) <|
 T.store ⟨r4,1,none⟩ (.int .i64 t44) <|
 T.load (.int .i64) ⟨r4,0,none⟩ fun (res45:Int)=>
 T.load (.int .i64) ⟨r4,1,none⟩ fun (res46:Int)=>
 T.ret (.tuple #[(.agg #[(.int .i64 res45),(.int .i64 res46)]),(.bool false)]))
theorem L0 (p_0:Pl6) (term_1:Int) (shift_2:Int×Int×Unit) (rule_3:Int×Int×Unit):AT Tryz.prog Tryz.f81 [(aG p_0),(.int .i64 term_1),(.agg #[(.int .i64 shift_2.1),(.int .i64 shift_2.2.1)]),(.agg #[(.int .i64 rule_3.1),(.int .i64 rule_3.2.1)])] =KY p_0 term_1 shift_2 rule_3:=by kernel_rfl
noncomputable def FI (x_0_p:Option Addr) (x_0_n x_0_c:Nat):T:=
 T.join []
 (cond (decide (((x_0_n:Nat):Int) < (1:Int)))
 (T.pan (.iface 9 (.string {data:= #[115,108,105,99,101,115,46,77,105,110,58,32,101,109,112,116,121,32,108,105,115,116] })))
 (T.out [])) fun (z1:Unit)=>
 deref x_0_p fun a2=>
 chk (0≤(0:Int)∧(0:Int) < (x_0_n:Nat)) <|
 T.load (.int .i64) (a2.add (Int.toNat (0:Int) * 1)) fun (t3:Int)=>
 T.block 0 [aI,aI]
 (T.loop [aI,aI] [(.int .i64 (1:Int)),(.int .i64 t3)] fun (z5:Int×Int×Unit)=>
 cond (decide (z5.1< ((x_0_n:Nat):Int)))
 (deref x_0_p fun a6=>
 chk (0≤z5.1∧z5.1< (x_0_n:Nat)) <|
 T.load (.int .i64) (a6.add (Int.toNat z5.1 * 1)) fun (t7:Int)=>
 T.out [(.int .i64 (wN z5.1)),(.int .i64 (if t7<z5.2.1 then t7 else z5.2.1))])
 (T.brk 0 [(.int .i64 z5.1),(.int .i64 z5.2.1)])) fun (z4:Int×Int×Unit)=>
 T.ret (.int .i64 z4.2.1)
theorem He (x_0_p:Option Addr) (x_0_n x_0_c:Nat):AT Tryz.prog Tryz.f82 [(.slice x_0_p x_0_n x_0_c)] =FI x_0_p x_0_n x_0_c:=by kernel_rfl
noncomputable def KZ (p_0:Pl6) (a_1:Option Addr) (l_2:Option Addr):T:=
 T.new (.cells #[(sv p_0.1),(sv p_0.2.1),(sv p_0.2.2.1),(sv p_0.2.2.2.1),(sv p_0.2.2.2.2.1),(sv p_0.2.2.2.2.2.1)] 32 (0,0)) fun r1=>
 L6 r1 fun t2 t3 t4 t5 t6 t7=>
 T.new (.cells #[(sv t2),(sv t3),(sv t4),(sv t5),(sv t6),(sv t7),(.slice none 0 0),(.slice none 0 0),(.slice none 0 0)] 159 (0,0)) fun r8=>
 T.call 20 [(.pointer a_1)] (.one aI) fun (t9:Int)=>
 T.block 0 [aI]
 (T.loop [aI] [(.int .i64 (0:Int))] fun (z11:Int×Unit)=>
 cond (decide (z11.1<t9))
 (T.load .slice ⟨r1,0,none⟩ fun (t12:Slc)=>
 T.block 2 [aI,aS]
 (T.loop [aI,aS] [(.int .i64 (0:Int)),(.slice none 0 0)] fun (z14:Int×Slc×Unit)=>
 cond (decide (z14.1< ((t12.2.1:Nat):Int)))
 (T.call 118 [(.pointer (some ⟨r8,0,none⟩)),(.pointer a_1),(.pointer l_2),(.int .i64 z11.1),(.int .i64 z14.1)] (.one (.agg [(.int .i64),(.int .i64)])) fun (t15:Int×Int×Unit)=>
 T.new (.cells #[(.int .i64 t15.1),(.int .i64 t15.2.1)] 77 (0,0)) fun r16=>
 T.sem (Builtin.append_ #[163,163] 163 #[(sv z14.2.1),(.slice (some ⟨r16,0,none⟩) 1 1)]) (.one aS) fun (t17:Slc)=>
 T.out [(.int .i64 (wN z14.1)),(sv t17)])
 (T.brk 2 [(.int .i64 z14.1),(sv z14.2.1)])) fun (z13:Int×Slc×Unit)=>
 T.load .slice ⟨r1,1,none⟩ fun (t18:Slc)=>
 T.block 4 [aI,aS]
 (T.loop [aI,aS] [(.int .i64 (0:Int)),(.slice none 0 0)] fun (z20:Int×Slc×Unit)=>
 cond (decide (z20.1< ((t18.2.1:Nat):Int)))
 (T.load .slice ⟨r1,0,none⟩ fun (t21:Slc)=>
 T.call 41 [(.pointer a_1),(.int .i64 z11.1),(.int .i64 (IntKind.wrap .i64 (((t21.2.1:Nat):Int) +z20.1)))] (.one aI) fun (t22:Int)=>
 T.new (.cells #[(.int .i64 t22)] 3 (0,0)) fun r23=>
 T.sem (Builtin.append_ #[30,30] 30 #[(sv z20.2.1),(.slice (some ⟨r23,0,none⟩) 1 1)]) (.one aS) fun (t24:Slc)=>
 T.out [(.int .i64 (wN z20.1)),(sv t24)])
 (T.brk 4 [(.int .i64 z20.1),(sv z20.2.1)])) fun (z19:Int×Slc×Unit)=>
 T.load .slice ⟨r8,6,none⟩ fun (t25:Slc)=>
 T.load .slice ⟨r8,7,none⟩ fun (t26:Slc)=>
 T.both
 (T.new (.cells #[(sv z13.2.1)] 163 (0,0)) fun r27=>
 T.still ⟨r8,7,none⟩ (sv t26) <|
 T.still ⟨r8,6,none⟩ (sv t25) <|
 T.both
 (T.sem (Builtin.append_ #[157,157] 157 #[(sv t25),(.slice (some ⟨r27,0,none⟩) 1 1)]) (.one aS) fun (t28:Slc)=>
 T.still ⟨r8,7,none⟩ (sv t26) <|
 T.new (.cells #[(sv z19.2.1)] 30 (0,0)) fun r29=>
 T.still ⟨r8,7,none⟩ (sv t26) <|
 T.sem (Builtin.append_ #[97,97] 97 #[(sv t26),(.slice (some ⟨r29,0,none⟩) 1 1)]) (.one aS) fun (t30:Slc)=>
 T.store ⟨r8,6,none⟩ (sv t28) <|
 T.store ⟨r8,7,none⟩ (sv t30) <|
 T.out [(.int .i64 (wN z11.1))])
 (T.new (.cells #[(sv z19.2.1)] 30 (0,0)) fun r31=>
 T.still ⟨r8,7,none⟩ (sv t26) <|
 T.still ⟨r8,6,none⟩ (sv t25) <|
 T.sem (Builtin.append_ #[157,157] 157 #[(sv t25),(.slice (some ⟨r27,0,none⟩) 1 1)]) (.one aS) fun (t32:Slc)=>
 T.still ⟨r8,7,none⟩ (sv t26) <|
 T.sem (Builtin.append_ #[97,97] 97 #[(sv t26),(.slice (some ⟨r31,0,none⟩) 1 1)]) (.one aS) fun (t33:Slc)=>
 T.store ⟨r8,6,none⟩ (sv t32) <|
 T.store ⟨r8,7,none⟩ (sv t33) <|
 T.out [(.int .i64 (wN z11.1))]))
 (T.new (.cells #[(sv z19.2.1)] 30 (0,0)) fun r34=>
 T.still ⟨r8,7,none⟩ (sv t26) <|
 T.still ⟨r8,6,none⟩ (sv t25) <|
 T.new (.cells #[(sv z13.2.1)] 163 (0,0)) fun r35=>
 T.still ⟨r8,7,none⟩ (sv t26) <|
 T.still ⟨r8,6,none⟩ (sv t25) <|
 T.sem (Builtin.append_ #[157,157] 157 #[(sv t25),(.slice (some ⟨r35,0,none⟩) 1 1)]) (.one aS) fun (t36:Slc)=>
 T.still ⟨r8,7,none⟩ (sv t26) <|
 T.sem (Builtin.append_ #[97,97] 97 #[(sv t26),(.slice (some ⟨r34,0,none⟩) 1 1)]) (.one aS) fun (t37:Slc)=>
 T.store ⟨r8,6,none⟩ (sv t36) <|
 T.store ⟨r8,7,none⟩ (sv t37) <|
 T.out [(.int .i64 (wN z11.1))]))
 (T.brk 0 [(.int .i64 z11.1)])) fun (z10:Int×Unit)=>
 T.ret (.pointer (some ⟨r8,0,none⟩))
theorem L3 (p_0:Pl6) (a_1:Option Addr) (l_2:Option Addr):AT Tryz.prog Tryz.f83 [(aG p_0),(.pointer a_1),(.pointer l_2)] =KZ p_0 a_1 l_2:=by kernel_rfl
noncomputable def Gc (g_0:Option Addr) (state_1:Int):T:=
 T.join [aB]
 (cond (decide (state_1≥ (0:Int)))
 (deref g_0 fun a2=>
 T.load .slice (a2.add 6) fun (t3:Slc)=>
 T.out [(.bool (decide (state_1< ((t3.2.1:Nat):Int))))])
 (T.out [(.bool false)])) fun (z1:Bool×Unit)=>
 T.ret (.bool z1.1)
theorem JP (g_0:Option Addr) (state_1:Int):AT Tryz.prog Tryz.f85 [(.pointer g_0),(.int .i64 state_1)] =Gc g_0 state_1:=by kernel_rfl
noncomputable def Bf (s_0_p:Option Addr) (s_0_n s_0_c:Nat):T:=
 T.call 119 [(.slice s_0_p s_0_n s_0_c),(.func (.func 88) #[] #[])] (.one aI) fun (t1:Int)=>
 T.ret (.bool (decide (t1≥ (0:Int))))
theorem CY (s_0_p:Option Addr) (s_0_n s_0_c:Nat):AT Tryz.prog Tryz.f87 [(.slice s_0_p s_0_n s_0_c),(.func (.func 88) #[] #[])] =Bf s_0_p s_0_n s_0_c:=by kernel_rfl
noncomputable def ES (c_0:Int×Int×Int×Slc×Int×Int×Bool×Unit):T:=
 T.new (.cells #[(.int .i64 c_0.1),(.int .i64 c_0.2.1),(.int .i64 c_0.2.2.1),(sv c_0.2.2.2.1),(.int .i64 c_0.2.2.2.2.1),(.int .i64 c_0.2.2.2.2.2.1),(.bool c_0.2.2.2.2.2.2.1)] 89 (0,0)) fun r1=>
 T.load .bool ⟨r1,6,none⟩ fun (t2:Bool)=>
 T.ret (.bool t2)
theorem Gl (c_0:Int×Int×Int×Slc×Int×Int×Bool×Unit):AT Tryz.prog Tryz.f88 [(.agg #[(.int .i64 c_0.1),(.int .i64 c_0.2.1),(.int .i64 c_0.2.2.1),(sv c_0.2.2.2.1),(.int .i64 c_0.2.2.2.2.1),(.int .i64 c_0.2.2.2.2.2.1),(.bool c_0.2.2.2.2.2.2.1)])] =ES c_0:=by kernel_rfl
noncomputable def Ht (p_0:Pl6) (term_1:Int):T:=
 T.new (.cells #[(sv p_0.1),(sv p_0.2.1),(sv p_0.2.2.1),(sv p_0.2.2.2.1),(sv p_0.2.2.2.2.1),(sv p_0.2.2.2.2.2.1)] 32 (0,0)) fun r1=>
 T.join [aB]
 (cond (decide (term_1< (0:Int)))
 (T.out [(.bool true)])
 (T.load .slice ⟨r1,3,none⟩ fun (t3:Slc)=>
 T.out [(.bool (decide (term_1≥ ((t3.2.1:Nat):Int))))])) fun (z2:Bool×Unit)=>
 cond z2.1
 (T.ret (.int .i64 (0:Int)))
 (T.load .slice ⟨r1,3,none⟩ fun (t4:Slc)=>
 deref t4.1 fun a5=>
 chk (0≤term_1∧term_1< (t4.2.1:Nat)) <|
 T.load (.int .i64) (a5.add (Int.toNat term_1 * 1)) fun (t6:Int)=>
 T.ret (.int .i64 t6))
theorem Ka (p_0:Pl6) (term_1:Int):AT Tryz.prog Tryz.f116 [(aG p_0),(.int .i64 term_1)] =Ht p_0 term_1:=by kernel_rfl
noncomputable def HD (p_0:Pl6) (rule_1:Int):T:=
 T.new (.cells #[(sv p_0.1),(sv p_0.2.1),(sv p_0.2.2.1),(sv p_0.2.2.2.1),(sv p_0.2.2.2.2.1),(sv p_0.2.2.2.2.2.1)] 32 (0,0)) fun r1=>
 T.join [aB]
 (cond (decide (rule_1< (0:Int)))
 (T.out [(.bool true)])
 (T.load .slice ⟨r1,2,none⟩ fun (t3:Slc)=>
 T.out [(.bool (decide (rule_1≥ ((t3.2.1:Nat):Int))))])) fun (z2:Bool×Unit)=>
 cond z2.1
 (T.ret (.int .i64 (0:Int)))
 (T.load .slice ⟨r1,2,none⟩ fun (t4:Slc)=>
 deref t4.1 fun a5=>
 chk (0≤rule_1∧rule_1< (t4.2.1:Nat)) <|
 T.load (.int .i64) ((a5.add (Int.toNat rule_1 * 3)).add 2) fun (t6:Int)=>
 T.ret (.int .i64 t6))
theorem Jy (p_0:Pl6) (rule_1:Int):AT Tryz.prog Tryz.f117 [(aG p_0),(.int .i64 rule_1)] =HD p_0 rule_1:=by kernel_rfl
noncomputable def FX (g_0:Option Addr) (a_1:Option Addr) (l_2:Option Addr) (state_3:Int) (term_4:Int):T:=
 T.new (.cells #[(.int .i64 (0:Int)),(.int .i64 (0:Int))] 77 (0,0)) fun r1=>
 T.call 41 [(.pointer a_1),(.int .i64 state_3),(.int .i64 term_4)] (.one aI) fun (t2:Int)=>
 T.call 22 [(.pointer l_2),(.int .i64 state_3)] (.one aS) fun (t3:Slc)=>
 T.block 0 [aI,aS]
 (T.loop [aI,aS] [(.int .i64 (0:Int)),(.slice none 0 0)] fun (z5:Int×Slc×Unit)=>
 cond (decide (z5.1< ((t3.2.1:Nat):Int)))
 (deref t3.1 fun a6=>
 chk (0≤z5.1∧z5.1< (t3.2.1:Nat)) <|
 T.load (.int .i64) (a6.add (Int.toNat z5.1 * 1)) fun (t7:Int)=>
 T.call 24 [(.pointer l_2),(.int .i64 state_3),(.int .i64 t7)] (.one aS) fun (t8:Slc)=>
 T.call 152 [(sv t8),(.int .i64 term_4)] (.one aB) fun (t9:Bool)=>
 T.join [aS]
 (cond t9
 (T.new (.cells #[(.int .i64 t7)] 3 (0,0)) fun r11=>
 T.sem (Builtin.append_ #[30,30] 30 #[(sv z5.2.1),(.slice (some ⟨r11,0,none⟩) 1 1)]) (.one aS) fun (t12:Slc)=>
 T.out [(sv t12)])
 (T.out [(sv z5.2.1)])) fun (z10:Slc×Unit)=>
 T.out [(.int .i64 (wN z5.1)),(sv z10.1)])
 (T.brk 0 [(.int .i64 z5.1),(sv z5.2.1)])) fun (z4:Int×Slc×Unit)=>
 deref g_0 fun a13=>
 M6 a13 fun t14 t15 t16 t17 t18 t19=>
 T.call 37 [(aH t14 t15 t16 t17 t18 t19),(.int .i64 term_4),(.int .i64 t2),(sv z4.2.1)] (.tuple [(.agg [(.int .i64),(.int .i64)]),aB]) fun (t20:(Int×Int×Unit)×Bool×Unit)=>
 T.new (.cells #[(.int .i64 (0:Int)),(.int .i64 (0:Int))] 77 (0,0)) fun r21=>
 T.store ⟨r21,0,none⟩ (.int .i64 t20.1.1) <|
 T.store ⟨r21,1,none⟩ (.int .i64 t20.1.2.1) <|
 T.join [aB]
 (cond (decide (((z4.2.1.2.1:Nat):Int) >(1:Int)))
 (T.out [(.bool true)])
 (cond (((z4.2.1.2.1:Nat):Int)==(1:Int))
 (T.out [(.bool (decide (t2≥ (0:Int))))])
 (T.out [(.bool false)]))) fun (z22:Bool×Unit)=>
 T.join []
 (cond z22.1
 (deref g_0 fun a24=>
 T.load .slice (a24.add 8) fun (t25:Slc)=>
 T.load (.int .i64) ⟨r21,0,none⟩ fun (t26:Int)=>
 T.load (.int .i64) ⟨r21,1,none⟩ fun (t27:Int)=>
 T.new (.cells #[(.int .i64 state_3),(.int .i64 term_4),(.int .i64 t2),(sv z4.2.1),(.int .i64 t26),(.int .i64 t27),(.bool t20.2.1)] 89 (0,0)) fun r28=>
 T.still (a24.add 8) (sv t25) <|
 T.sem (Builtin.append_ #[84,84] 84 #[(sv t25),(.slice (some ⟨r28,0,none⟩) 1 1)]) (.one aS) fun (t29:Slc)=>
 deref g_0 fun a30=>
 T.store (a30.add 8) (sv t29) <|
 T.out [])
 (T.out [])) fun (z23:Unit)=>
 T.load (.int .i64) ⟨r21,0,none⟩ fun (t31:Int)=>
 T.load (.int .i64) ⟨r21,1,none⟩ fun (t32:Int)=>
 T.store ⟨r1,0,none⟩ (.int .i64 t31) <|
 T.store ⟨r1,1,none⟩ (.int .i64 t32) <|
 T.load (.int .i64) ⟨r1,0,none⟩ fun (res33:Int)=>
 T.load (.int .i64) ⟨r1,1,none⟩ fun (res34:Int)=>
 T.ret (.agg #[(.int .i64 res33),(.int .i64 res34)])
theorem H8 (g_0:Option Addr) (a_1:Option Addr) (l_2:Option Addr) (state_3:Int) (term_4:Int):AT Tryz.prog Tryz.f118 [(.pointer g_0),(.pointer a_1),(.pointer l_2),(.int .i64 state_3),(.int .i64 term_4)] =FX g_0 a_1 l_2 state_3 term_4:=by kernel_rfl
noncomputable def Bq (s_0_p:Option Addr) (s_0_n s_0_c:Nat):T:=
 T.block 0 [aI,aI]
 (T.loop [aI,aI] [(.int .i64 (0:Int)),(.int .i64 (0:Int))] fun (z2:Int×Int×Unit)=>
 cond (decide (z2.1< ((s_0_n:Nat):Int)))
 (deref s_0_p fun a3=>
 chk (0≤z2.1∧z2.1< (s_0_n:Nat)) <|
 T.load (.int .i64) (a3.add (Int.toNat z2.1 * 7)) fun (t4:Int)=>
 T.load (.int .i64) ((a3.add (Int.toNat z2.1 * 7)).add 1) fun (t5:Int)=>
 T.load (.int .i64) ((a3.add (Int.toNat z2.1 * 7)).add 2) fun (t6:Int)=>
 T.load .slice ((a3.add (Int.toNat z2.1 * 7)).add 3) fun (t7:Slc)=>
 T.load (.int .i64) ((a3.add (Int.toNat z2.1 * 7)).add 4) fun (t8:Int)=>
 T.load (.int .i64) ((a3.add (Int.toNat z2.1 * 7)).add 5) fun (t9:Int)=>
 T.load .bool ((a3.add (Int.toNat z2.1 * 7)).add 6) fun (t10:Bool)=>
 T.call 88 [(.agg #[(.int .i64 t4),(.int .i64 t5),(.int .i64 t6),(sv t7),(.int .i64 t8),(.int .i64 t9),(.bool t10)])] (.one aB) fun (t11:Bool)=>
 cond t11
 (T.ret (.int .i64 z2.1))
 (T.out [(.int .i64 (wN z2.1)),(.int .i64 z2.2.1)]))
 (T.brk 0 [(.int .i64 z2.1),(.int .i64 z2.2.1)])) fun (z1:Int×Int×Unit)=>
 T.ret (.int .i64 (-1:Int))
theorem Ck (s_0_p:Option Addr) (s_0_n s_0_c:Nat):AT Tryz.prog Tryz.f119 [(.slice s_0_p s_0_n s_0_c),(.func (.func 88) #[] #[])] =Bq s_0_p s_0_n s_0_c:=by kernel_rfl
noncomputable def FJ (p_0:Pl6):T:=
 T.new (.cells #[(sv p_0.1),(sv p_0.2.1),(sv p_0.2.2.1),(sv p_0.2.2.2.1),(sv p_0.2.2.2.2.1),(sv p_0.2.2.2.2.2.1)] 32 (0,0)) fun r1=>
 L6 r1 fun t2 t3 t4 t5 t6 t7=>
 T.call 57 [(aH t2 t3 t4 t5 t6 t7)] (.one aS) fun (t8:Slc)=>
 L6 r1 fun t9 t10 t11 t12 t13 t14=>
 T.call 58 [(aH t9 t10 t11 t12 t13 t14)] (.one aS) fun (t15:Slc)=>
 T.load .slice ⟨r1,0,none⟩ fun (t16:Slc)=>
 T.block 0 [aI,aI,aI]
 (T.loop [aI,aI,aI] [(.int .i64 ((t16.2.1:Nat):Int)),(.int .i64 (0:Int)),(.int .i64 (0:Int))] fun (z18:Int×Int×Int×Unit)=>
 L6 r1 fun t19 t20 t21 t22 t23 t24=>
 T.call 59 [(aH t19 t20 t21 t22 t23 t24)] (.one aI) fun (t25:Int)=>
 cond (decide (z18.1< (IntKind.wrap .i64 (t25 - (1:Int)))))
 (deref t8.1 fun a26=>
 chk (0≤z18.1∧z18.1< (t8.2.1:Nat)) <|
 T.load .bool (a26.add (Int.toNat z18.1 * 1)) fun (t27:Bool)=>
 cond (!t27)
 (T.ret (.tuple #[(.int .i64 z18.1),(.int .i64 (18:Int))]))
 (T.out [(.int .i64 (wN z18.1)),(.int .i64 z18.2.1),(.int .i64 z18.2.2.1)]))
 (T.brk 0 [(.int .i64 z18.1),(.int .i64 z18.2.1),(.int .i64 z18.2.2.1)])) fun (z17:Int×Int×Int×Unit)=>
 T.load .slice ⟨r1,0,none⟩ fun (t28:Slc)=>
 T.block 2 [aI,aI,aI]
 (T.loop [aI,aI,aI] [(.int .i64 ((t28.2.1:Nat):Int)),(.int .i64 z17.2.1),(.int .i64 z17.2.2.1)] fun (z30:Int×Int×Int×Unit)=>
 L6 r1 fun t31 t32 t33 t34 t35 t36=>
 T.call 59 [(aH t31 t32 t33 t34 t35 t36)] (.one aI) fun (t37:Int)=>
 cond (decide (z30.1< (IntKind.wrap .i64 (t37 - (1:Int)))))
 (deref t15.1 fun a38=>
 chk (0≤z30.1∧z30.1< (t15.2.1:Nat)) <|
 T.load .bool (a38.add (Int.toNat z30.1 * 1)) fun (t39:Bool)=>
 cond (!t39)
 (T.ret (.tuple #[(.int .i64 z30.1),(.int .i64 (17:Int))]))
 (T.out [(.int .i64 (wN z30.1)),(.int .i64 z30.2.1),(.int .i64 z30.2.2.1)]))
 (T.brk 2 [(.int .i64 z30.1),(.int .i64 z30.2.1),(.int .i64 z30.2.2.1)])) fun (z29:Int×Int×Int×Unit)=>
 T.ret (.tuple #[(.int .i64 (0:Int)),(.int .i64 (0:Int))])
theorem Hf (p_0:Pl6):AT Tryz.prog Tryz.f16 [(aG p_0)] =FJ p_0:=by kernel_rfl
noncomputable def FK (p_0:Pl6):T:=
 T.new (.cells #[(sv p_0.1),(sv p_0.2.1),(sv p_0.2.2.1),(sv p_0.2.2.2.1),(sv p_0.2.2.2.2.1),(sv p_0.2.2.2.2.2.1)] 32 (0,0)) fun r1=>
 L6 r1 fun t2 t3 t4 t5 t6 t7=>
 T.call 59 [(aH t2 t3 t4 t5 t6 t7)] (.one aI) fun (t8:Int)=>
 T.sem (Instr.makeSlice 60 (.int .i64 t8) (.int .i64 t8)) (.one aS) fun (t9:Slc)=>
 T.block 0 [aI]
 (T.loop [aI] [(.int .i64 (0:Int))] fun (z11:Int×Unit)=>
 T.load .slice ⟨r1,0,none⟩ fun (t12:Slc)=>
 cond (decide (z11.1< ((t12.2.1:Nat):Int)))
 (deref t9.1 fun a13=>
 chk (0≤z11.1∧z11.1< (t9.2.1:Nat)) <|
 T.store (a13.add (Int.toNat z11.1 * 1)) (.bool true) <|
 T.out [(.int .i64 (wN z11.1))])
 (T.brk 0 [(.int .i64 z11.1)])) fun (z10:Int×Unit)=>
 T.block 2 [aB]
 (T.loop [aB] [(.bool true)] fun (z15:Bool×Unit)=>
 cond z15.1
 (T.block 4 [aI,aB]
 (T.loop [aI,aB] [(.int .i64 (0:Int)),(.bool false)] fun (z17:Int×Bool×Unit)=>
 T.load .slice ⟨r1,2,none⟩ fun (t18:Slc)=>
 cond (decide (z17.1< ((t18.2.1:Nat):Int)))
 (T.block 6 [aI,aB]
 (T.loop [aI,aB] [(.int .i64 (0:Int)),(.bool true)] fun (z20:Int×Bool×Unit)=>
 T.load .slice ⟨r1,2,none⟩ fun (t21:Slc)=>
 deref t21.1 fun a22=>
 chk (0≤z17.1∧z17.1< (t21.2.1:Nat)) <|
 T.load .slice ((a22.add (Int.toNat z17.1 * 3)).add 1) fun (t23:Slc)=>
 cond (decide (z20.1< ((t23.2.1:Nat):Int)))
 (T.join [aB]
 (cond z20.2.1
 (T.load .slice ⟨r1,2,none⟩ fun (t25:Slc)=>
 deref t25.1 fun a26=>
 chk (0≤z17.1∧z17.1< (t25.2.1:Nat)) <|
 T.load .slice ((a26.add (Int.toNat z17.1 * 3)).add 1) fun (t27:Slc)=>
 deref t27.1 fun a28=>
 chk (0≤z20.1∧z20.1< (t27.2.1:Nat)) <|
 T.load (.int .i64) (a28.add (Int.toNat z20.1 * 1)) fun (t29:Int)=>
 deref t9.1 fun a30=>
 chk (0≤t29∧t29< (t9.2.1:Nat)) <|
 T.load .bool (a30.add (Int.toNat t29 * 1)) fun (t31:Bool)=>
 T.out [(.bool t31)])
 (T.out [(.bool false)])) fun (z24:Bool×Unit)=>
 T.out [(.int .i64 (wN z20.1)),(.bool z24.1)])
 (T.brk 6 [(.int .i64 z20.1),(.bool z20.2.1)])) fun (z19:Int×Bool×Unit)=>
 T.join [aB]
 (cond z19.2.1
 (T.load .slice ⟨r1,2,none⟩ fun (t33:Slc)=>
 deref t33.1 fun a34=>
 chk (0≤z17.1∧z17.1< (t33.2.1:Nat)) <|
 T.load (.int .i64) (a34.add (Int.toNat z17.1 * 3)) fun (t35:Int)=>
 deref t9.1 fun a36=>
 chk (0≤t35∧t35< (t9.2.1:Nat)) <|
 T.load .bool (a36.add (Int.toNat t35 * 1)) fun (t37:Bool)=>
 T.out [(.bool (!t37))])
 (T.out [(.bool false)])) fun (z32:Bool×Unit)=>
 T.join [aB]
 (cond z32.1
 (T.load .slice ⟨r1,2,none⟩ fun (t39:Slc)=>
 deref t39.1 fun a40=>
 chk (0≤z17.1∧z17.1< (t39.2.1:Nat)) <|
 T.load (.int .i64) (a40.add (Int.toNat z17.1 * 3)) fun (t41:Int)=>
 deref t9.1 fun a42=>
 chk (0≤t41∧t41< (t9.2.1:Nat)) <|
 T.store (a42.add (Int.toNat t41 * 1)) (.bool true) <|
 T.out [(.bool true)])
 (T.out [(.bool z17.2.1)])) fun (z38:Bool×Unit)=>
 T.out [(.int .i64 (wN z17.1)),(.bool z38.1)])
 (T.brk 4 [(.int .i64 z17.1),(.bool z17.2.1)])) fun (z16:Int×Bool×Unit)=>
 T.out [(.bool z16.2.1)])
 (T.brk 2 [(.bool z15.1)])) fun (z14:Bool×Unit)=>
 T.ret (sv t9)
theorem Hg (p_0:Pl6):AT Tryz.prog Tryz.f57 [(aG p_0)] =FK p_0:=by kernel_rfl
noncomputable def FY (p_0:Pl6):T:=
 T.new (.cells #[(sv p_0.1),(sv p_0.2.1),(sv p_0.2.2.1),(sv p_0.2.2.2.1),(sv p_0.2.2.2.2.1),(sv p_0.2.2.2.2.2.1)] 32 (0,0)) fun r1=>
 L6 r1 fun t2 t3 t4 t5 t6 t7=>
 T.call 59 [(aH t2 t3 t4 t5 t6 t7)] (.one aI) fun (t8:Int)=>
 T.sem (Instr.makeSlice 60 (.int .i64 t8) (.int .i64 t8)) (.one aS) fun (t9:Slc)=>
 L6 r1 fun t10 t11 t12 t13 t14 t15=>
 T.call 59 [(aH t10 t11 t12 t13 t14 t15)] (.one aI) fun (t16:Int)=>
 deref t9.1 fun a17=>
 chk (0≤(IntKind.wrap .i64 (t16 - (1:Int)))∧(IntKind.wrap .i64 (t16 - (1:Int))) < (t9.2.1:Nat)) <|
 T.store (a17.add (Int.toNat (IntKind.wrap .i64 (t16 - (1:Int))) * 1)) (.bool true) <|
 T.block 0 [aB]
 (T.loop [aB] [(.bool true)] fun (z19:Bool×Unit)=>
 cond z19.1
 (T.block 2 [aI,aB]
 (T.loop [aI,aB] [(.int .i64 (0:Int)),(.bool false)] fun (z21:Int×Bool×Unit)=>
 T.load .slice ⟨r1,2,none⟩ fun (t22:Slc)=>
 cond (decide (z21.1< ((t22.2.1:Nat):Int)))
 (T.block 4 [aI,aB]
 (T.loop [aI,aB] [(.int .i64 (0:Int)),(.bool z21.2.1)] fun (z24:Int×Bool×Unit)=>
 T.load .slice ⟨r1,2,none⟩ fun (t25:Slc)=>
 deref t25.1 fun a26=>
 chk (0≤z21.1∧z21.1< (t25.2.1:Nat)) <|
 T.load .slice ((a26.add (Int.toNat z21.1 * 3)).add 1) fun (t27:Slc)=>
 cond (decide (z24.1< ((t27.2.1:Nat):Int)))
 (T.join [aB]
 (T.load .slice ⟨r1,2,none⟩ fun (t29:Slc)=>
 deref t29.1 fun a30=>
 chk (0≤z21.1∧z21.1< (t29.2.1:Nat)) <|
 T.load (.int .i64) (a30.add (Int.toNat z21.1 * 3)) fun (t31:Int)=>
 deref t9.1 fun a32=>
 chk (0≤t31∧t31< (t9.2.1:Nat)) <|
 T.load .bool (a32.add (Int.toNat t31 * 1)) fun (t33:Bool)=>
 cond t33
 (T.load .slice ⟨r1,2,none⟩ fun (t34:Slc)=>
 deref t34.1 fun a35=>
 chk (0≤z21.1∧z21.1< (t34.2.1:Nat)) <|
 T.load .slice ((a35.add (Int.toNat z21.1 * 3)).add 1) fun (t36:Slc)=>
 deref t36.1 fun a37=>
 chk (0≤z24.1∧z24.1< (t36.2.1:Nat)) <|
 T.load (.int .i64) (a37.add (Int.toNat z24.1 * 1)) fun (t38:Int)=>
 deref t9.1 fun a39=>
 chk (0≤t38∧t38< (t9.2.1:Nat)) <|
 T.load .bool (a39.add (Int.toNat t38 * 1)) fun (t40:Bool)=>
 T.out [(.bool (!t40))])
 (T.out [(.bool false)])) fun (z28:Bool×Unit)=>
 T.join [aB]
 (cond z28.1
 (T.load .slice ⟨r1,2,none⟩ fun (t42:Slc)=>
 deref t42.1 fun a43=>
 chk (0≤z21.1∧z21.1< (t42.2.1:Nat)) <|
 T.load .slice ((a43.add (Int.toNat z21.1 * 3)).add 1) fun (t44:Slc)=>
 deref t44.1 fun a45=>
 chk (0≤z24.1∧z24.1< (t44.2.1:Nat)) <|
 T.load (.int .i64) (a45.add (Int.toNat z24.1 * 1)) fun (t46:Int)=>
 deref t9.1 fun a47=>
 chk (0≤t46∧t46< (t9.2.1:Nat)) <|
 T.store (a47.add (Int.toNat t46 * 1)) (.bool true) <|
 T.out [(.bool true)])
 (T.out [(.bool z24.2.1)])) fun (z41:Bool×Unit)=>
 T.out [(.int .i64 (wN z24.1)),(.bool z41.1)])
 (T.brk 4 [(.int .i64 z24.1),(.bool z24.2.1)])) fun (z23:Int×Bool×Unit)=>
 T.out [(.int .i64 (wN z21.1)),(.bool z23.2.1)])
 (T.brk 2 [(.int .i64 z21.1),(.bool z21.2.1)])) fun (z20:Int×Bool×Unit)=>
 T.out [(.bool z20.2.1)])
 (T.brk 0 [(.bool z19.1)])) fun (z18:Bool×Unit)=>
 T.ret (sv t9)
theorem H9 (p_0:Pl6):AT Tryz.prog Tryz.f58 [(aG p_0)] =FY p_0:=by kernel_rfl
noncomputable def FL (p_0:Pl6):T:=
 T.new (.cells #[(sv p_0.1),(sv p_0.2.1),(sv p_0.2.2.1),(sv p_0.2.2.2.1),(sv p_0.2.2.2.2.1),(sv p_0.2.2.2.2.2.1)] 32 (0,0)) fun r1=>
 T.load .slice ⟨r1,0,none⟩ fun (t2:Slc)=>
 T.load .slice ⟨r1,1,none⟩ fun (t3:Slc)=>
 T.ret (.int .i64 (IntKind.wrap .i64 ((IntKind.wrap .i64 (((t2.2.1:Nat):Int) +((t3.2.1:Nat):Int))) +(1:Int))))
theorem Hh (p_0:Pl6):AT Tryz.prog Tryz.f59 [(aG p_0)] =FL p_0:=by kernel_rfl
end Go.Proofs.YteolcjbobmpdiaaGreatDoor
