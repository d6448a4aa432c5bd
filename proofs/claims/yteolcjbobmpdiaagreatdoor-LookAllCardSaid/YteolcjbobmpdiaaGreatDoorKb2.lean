/-
  DenS, DenD, Den, Base, Sim0, Sim1, Sim2, EngP, EngO, put together.
  Conditions: none; each part tells its own.
-/
import Derived.Test.YteolcjbobmpdiaaGreatDoorKb1
import Derived.Test.YteolcjbobmpdiaaGreatDoorProg
import Derived.KernelRfl
namespace Go.Proofs.YteolcjbobmpdiaaGreatDoor
open Go Go.Eng
set_option linter.unusedVariables false
set_option maxRecDepth 100000
noncomputable def Dz (s_0:Int×Int×Slc×Slc×Slc×Slc×Slc×Unit) (rules_1:Int) (right_2:Int):T:=
 T.new (.cells #[(.int .u8 s_0.1),(.int .u8 s_0.2.1),(sv s_0.2.2.1),(sv s_0.2.2.2.1),(sv s_0.2.2.2.2.1),(sv s_0.2.2.2.2.2.1),(sv s_0.2.2.2.2.2.2.1)] 25 (0,0)) fun r1=>
 T.join [aB]
 (T.load .slice ⟨r1,2,none⟩ fun (t3:Slc)=>
 cond (decide (((t3.2.1:Nat):Int) >rules_1))
 (T.out [(.bool true)])
 (T.load .slice ⟨r1,5,none⟩ fun (t4:Slc)=>
 T.out [(.bool (decide (((t4.2.1:Nat):Int) >(5:Int))))])) fun (z2:Bool×Unit)=>
 cond z2.1
 (T.ret (.bool false))
 (T.block 0 [aI,aB]
 (T.loop [aI,aB] [(.int .i64 (0:Int)),(.bool false)] fun (z6:Int×Bool×Unit)=>
 T.load .slice ⟨r1,3,none⟩ fun (t7:Slc)=>
 cond (decide (z6.1< ((t7.2.1:Nat):Int)))
 (T.load .slice ⟨r1,3,none⟩ fun (t8:Slc)=>
 deref t8.1 fun a9=>
 chk (0≤z6.1∧z6.1< (t8.2.1:Nat)) <|
 T.load .slice (a9.add (Int.toNat z6.1 * 1)) fun (t10:Slc)=>
 cond (decide (((t10.2.1:Nat):Int) >right_2))
 (T.ret (.bool false))
 (T.out [(.int .i64 (wN z6.1)),(.bool z6.2.1)]))
 (T.brk 0 [(.int .i64 z6.1),(.bool z6.2.1)])) fun (z5:Int×Bool×Unit)=>
 T.ret (.bool true))
theorem F8 (s_0:Int×Int×Slc×Slc×Slc×Slc×Slc×Unit) (rules_1:Int) (right_2:Int):Ab Tryz.prog Tryz.f14 [(.agg #[(.int .u8 s_0.1),(.int .u8 s_0.2.1),(sv s_0.2.2.1),(sv s_0.2.2.2.1),(sv s_0.2.2.2.2.1),(sv s_0.2.2.2.2.2.1),(sv s_0.2.2.2.2.2.2.1)]),(.int .i64 rules_1),(.int .i64 right_2)] =Dz s_0 rules_1 right_2:=by kernel_rfl
noncomputable def Dm (s_0:Int×Int×Slc×Slc×Slc×Slc×Slc×Unit):T:=
 T.new (.cells #[(.int .u8 s_0.1),(.int .u8 s_0.2.1),(sv s_0.2.2.1),(sv s_0.2.2.2.1),(sv s_0.2.2.2.2.1),(sv s_0.2.2.2.2.2.1),(sv s_0.2.2.2.2.2.2.1)] 25 (0,0)) fun r1=>
 T.new (.cells #[(.slice none 0 0),(.slice none 0 0),(.slice none 0 0),(.slice none 0 0),(.slice none 0 0),(.slice none 0 0)] 32 (0,0)) fun r2=>
 T.load (.int .u8) ⟨r1,0,none⟩ fun (t3:Int)=>
 T.load (.int .u8) ⟨r1,1,none⟩ fun (t4:Int)=>
 T.load .slice ⟨r1,2,none⟩ fun (t5:Slc)=>
 T.load .slice ⟨r1,3,none⟩ fun (t6:Slc)=>
 T.load .slice ⟨r1,4,none⟩ fun (t7:Slc)=>
 T.load .slice ⟨r1,5,none⟩ fun (t8:Slc)=>
 T.load .slice ⟨r1,6,none⟩ fun (t9:Slc)=>
 T.call 56 [(.agg #[(.int .u8 t3),(.int .u8 t4),(sv t5),(sv t6),(sv t7),(sv t8),(sv t9)])] (.one (.agg [.slice, .slice, .slice, .string, .slice])) fun (t10:Slc×Slc×Slc×ByteArray×Slc×Unit)=>
 T.call 55 [(.agg #[(sv t10.1),(sv t10.2.1),(sv t10.2.2.1),(.string t10.2.2.2.1),(sv t10.2.2.2.2.1)])] (.tuple [(.agg [.slice, .slice, .slice, .slice, .slice, .slice]),aI,(.atom .string)]) fun (t11:(Pl6)×Int×ByteArray×Unit)=>
 T.new (.cells #[(.slice none 0 0),(.slice none 0 0),(.slice none 0 0),(.slice none 0 0),(.slice none 0 0),(.slice none 0 0)] 32 (0,0)) fun r12=>
 T.store ⟨r12,0,none⟩ (sv t11.1.1) <|
 T.store ⟨r12,1,none⟩ (sv t11.1.2.1) <|
 T.store ⟨r12,2,none⟩ (sv t11.1.2.2.1) <|
 T.store ⟨r12,3,none⟩ (sv t11.1.2.2.2.1) <|
 T.store ⟨r12,4,none⟩ (sv t11.1.2.2.2.2.1) <|
 T.store ⟨r12,5,none⟩ (sv t11.1.2.2.2.2.2.1) <|
 L6 r12 fun t13 t14 t15 t16 t17 t18=>
 T.store ⟨r2,0,none⟩ (sv t13) <|
 T.store ⟨r2,1,none⟩ (sv t14) <|
 T.store ⟨r2,2,none⟩ (sv t15) <|
 T.store ⟨r2,3,none⟩ (sv t16) <|
 T.store ⟨r2,4,none⟩ (sv t17) <|
 T.store ⟨r2,5,none⟩ (sv t18) <|
 L6 r2 fun res19 res20 res21 res22 res23 res24=>
 T.ret (aH res19 res20 res21 res22 res23 res24)
theorem Fu (s_0:Int×Int×Slc×Slc×Slc×Slc×Slc×Unit):Ab Tryz.prog Tryz.f15 [(.agg #[(.int .u8 s_0.1),(.int .u8 s_0.2.1),(sv s_0.2.2.1),(sv s_0.2.2.2.1),(sv s_0.2.2.2.2.1),(sv s_0.2.2.2.2.2.1),(sv s_0.2.2.2.2.2.2.1)])] =Dm s_0:=by kernel_rfl
noncomputable def Ga (l_0_p:Option Addr) (l_0_n l_0_c:Nat) (x_1:Int):T:=
 T.block 0 [aI,aB]
 (T.loop [aI,aB] [(.int .i64 (0:Int)),(.bool false)] fun (z2:Int×Bool×Unit)=>
 cond (decide (z2.1< ((l_0_n:Nat):Int)))
 (deref l_0_p fun a3=>
 chk (0≤z2.1∧z2.1< (l_0_n:Nat)) <|
 T.load (.int .i64) (a3.add (Int.toNat z2.1 * 1)) fun (t4:Int)=>
 cond (t4==x_1)
 (T.ret (.bool true))
 (T.out [(.int .i64 (wN z2.1)),(.bool z2.2.1)]))
 (T.brk 0 [(.int .i64 z2.1),(.bool z2.2.1)])) fun (z1:Int×Bool×Unit)=>
 T.ret (.bool false)
theorem Jo (l_0_p:Option Addr) (l_0_n l_0_c:Nat) (x_1:Int):Ab Tryz.prog Tryz.f31 [(.slice l_0_p l_0_n l_0_c),(.int .i64 x_1)] =Ga l_0_p l_0_n l_0_c x_1:=by kernel_rfl
noncomputable def Iu (p_0:Pl6) (states_1:Int) (items_2:Int):T:=
 T.new (.cells #[(sv p_0.1),(sv p_0.2.1),(sv p_0.2.2.1),(sv p_0.2.2.2.1),(sv p_0.2.2.2.2.1),(sv p_0.2.2.2.2.2.1)] 32 (0,0)) fun r1=>
 L6 r1 fun t2 t3 t4 t5 t6 t7=>
 T.new (.cells #[(sv t2),(sv t3),(sv t4),(sv t5),(sv t6),(sv t7),(.slice none 0 0),(.int .i64 (0:Int))] 131 (0,0)) fun r8=>
 T.new (.cells #[(.pointer none)] 41 (0,0)) fun r9=>
 T.store ⟨r9,0,none⟩ (.pointer (some ⟨r8,0,none⟩)) <|
 T.call 98 [(.int .i64 states_1)] (.one aP) fun (t10:Option Addr)=>
 T.call 98 [(.int .i64 items_2)] (.one aP) fun (t11:Option Addr)=>
 T.new (.cells #[(.pointer none)] 183 (0,0)) fun r12=>
 T.new (.cells #[(.pointer none)] 183 (0,0)) fun r13=>
 T.store ⟨r12,0,none⟩ (.pointer t10) <|
 T.store ⟨r13,0,none⟩ (.pointer t11) <|
 T.new (.map #[] 0) fun r14=>
 T.new (.cells #[(.map none)] 185 (0,0)) fun r15=>
 T.store ⟨r15,0,none⟩ (.map (some r14)) <|
 T.new (.cells #[(.int .i64 (0:Int)),(.int .i64 (0:Int))] 70 (0,0)) fun r16=>
 T.call 99 [(.slice (some ⟨r16,0,none⟩) 1 1),(.int .i64 (-1:Int)),(.int .i64 (-1:Int)),(.pointer (some ⟨r15,0,none⟩)),(.pointer (some ⟨r9,0,none⟩)),(.pointer (some ⟨r12,0,none⟩)),(.pointer (some ⟨r13,0,none⟩))] (.tuple [aI,aI]) fun (t17:Int×Int×Unit)=>
 cond (t17.2.1 !=(0:Int))
 (T.ret (.tuple #[(.pointer none),(.int .i64 t17.2.1)]))
 (T.block 0 [aI,aI,aP]
 (T.loop [aI,aI,aP] [(.int .i64 (0:Int)),(.int .i64 (0:Int)),(.pointer none)] fun (z19:Int×Int×(Option Addr)×Unit)=>
 T.load .pointer ⟨r9,0,none⟩ fun (t20:Option Addr)=>
 deref t20 fun a21=>
 T.load .slice (a21.add 6) fun (t22:Slc)=>
 cond (decide (z19.1< ((t22.2.1:Nat):Int)))
 (T.load .pointer ⟨r9,0,none⟩ fun (t23:Option Addr)=>
 deref t23 fun a24=>
 T.load .slice (a24.add 6) fun (t25:Slc)=>
 deref t25.1 fun a26=>
 chk (0≤z19.1∧z19.1< (t25.2.1:Nat)) <|
 T.load .slice ((a26.add (Int.toNat z19.1 * 5)).add 1) fun (t27:Slc)=>
 T.load .pointer ⟨r9,0,none⟩ fun (t28:Option Addr)=>
 T.call 103 [(.pointer t28),(sv t27)] (.one aS) fun (t29:Slc)=>
 T.block 2 [aI,aI,aP]
 (T.loop [aI,aI,aP] [(.int .i64 (0:Int)),(.int .i64 z19.2.1),(.pointer z19.2.2.1)] fun (z31:Int×Int×(Option Addr)×Unit)=>
 cond (decide (z31.1< ((t29.2.1:Nat):Int)))
 (deref t29.1 fun a32=>
 chk (0≤z31.1∧z31.1< (t29.2.1:Nat)) <|
 T.load (.int .i64) (a32.add (Int.toNat z31.1 * 1)) fun (t33:Int)=>
 T.load .pointer ⟨r9,0,none⟩ fun (t34:Option Addr)=>
 T.call 104 [(.pointer t34),(sv t27),(.int .i64 t33)] (.one aS) fun (t35:Slc)=>
 T.call 99 [(sv t35),(.int .i64 z19.1),(.int .i64 t33),(.pointer (some ⟨r15,0,none⟩)),(.pointer (some ⟨r9,0,none⟩)),(.pointer (some ⟨r12,0,none⟩)),(.pointer (some ⟨r13,0,none⟩))] (.tuple [aI,aI]) fun (t36:Int×Int×Unit)=>
 cond (t36.2.1 !=(0:Int))
 (T.ret (.tuple #[(.pointer none),(.int .i64 t36.2.1)]))
 (T.load .pointer ⟨r9,0,none⟩ fun (t37:Option Addr)=>
 deref t37 fun a38=>
 T.load .slice (a38.add 6) fun (t39:Slc)=>
 T.load .pointer ⟨r9,0,none⟩ fun (t40:Option Addr)=>
 deref t40 fun a41=>
 T.load .slice (a41.add 6) fun (t42:Slc)=>
 deref t42.1 fun a43=>
 chk (0≤z19.1∧z19.1< (t42.2.1:Nat)) <|
 T.load .slice ((a43.add (Int.toNat z19.1 * 5)).add 2) fun (t44:Slc)=>
 T.new (.cells #[(.int .i64 t33),(.int .i64 t36.1)] 73 (0,0)) fun r45=>
 T.still ((a43.add (Int.toNat z19.1 * 5)).add 2) (sv t44) <|
 T.still (a41.add 6) (sv t42) <|
 T.still ⟨r9,0,none⟩ (.pointer t40) <|
 T.still (a38.add 6) (sv t39) <|
 T.still ⟨r9,0,none⟩ (.pointer t37) <|
 T.sem (Builtin.append_ #[54,54] 54 #[(sv t44),(.slice (some ⟨r45,0,none⟩) 1 1)]) (.one aS) fun (t46:Slc)=>
 T.still (a38.add 6) (sv t39) <|
 T.still ⟨r9,0,none⟩ (.pointer t37) <|
 deref t39.1 fun a47=>
 chk (0≤z19.1∧z19.1< (t39.2.1:Nat)) <|
 T.store ((a47.add (Int.toNat z19.1 * 5)).add 2) (sv t46) <|
 T.out [(.int .i64 (wN z31.1)),(.int .i64 z31.2.1),(.pointer z31.2.2.1)]))
 (T.brk 2 [(.int .i64 z31.1),(.int .i64 z31.2.1),(.pointer z31.2.2.1)])) fun (z30:Int×Int×(Option Addr)×Unit)=>
 T.out [(.int .i64 (wN z19.1)),(.int .i64 z30.2.1),(.pointer z30.2.2.1)])
 (T.brk 0 [(.int .i64 z19.1),(.int .i64 z19.2.1),(.pointer z19.2.2.1)])) fun (z18:Int×Int×(Option Addr)×Unit)=>
 T.load .pointer ⟨r9,0,none⟩ fun (t48:Option Addr)=>
 T.load .pointer ⟨r13,0,none⟩ fun (t49:Option Addr)=>
 T.call 105 [(.pointer t49)] (.one aI) fun (t50:Int)=>
 T.still ⟨r9,0,none⟩ (.pointer t48) <|
 deref t48 fun a51=>
 T.store (a51.add 7) (.int .i64 t50) <|
 T.load .pointer ⟨r9,0,none⟩ fun (t52:Option Addr)=>
 T.ret (.tuple #[(.pointer t52),(.int .i64 (0:Int))]))
theorem LR (p_0:Pl6) (states_1:Int) (items_2:Int):Ab Tryz.prog Tryz.f68 [(aG p_0),(.int .i64 states_1),(.int .i64 items_2)] =Iu p_0 states_1 items_2:=by kernel_rfl
noncomputable def Gb (a_0:Option Addr):T:=
 deref a_0 fun a1=>
 T.load .slice (a1.add 6) fun (t2:Slc)=>
 T.ret (.int .i64 ((t2.2.1:Nat):Int))
theorem Jp (a_0:Option Addr):Ab Tryz.prog Tryz.f20 [(.pointer a_0)] =Gb a_0:=by kernel_rfl
noncomputable def Fa (a_0:Option Addr) (n_1:Int):T:=
 T.call 78 [(.pointer a_0),(.int .i64 n_1)] (.one (.agg [.slice, .slice, .slice,(.int .i64),(.int .i64)])) fun (t1:Slc×Slc×Slc×Int×Int×Unit)=>
 T.call 77 [(sv t1.2.1)] (.one aS) fun (t2:Slc)=>
 T.ret (sv t2)
theorem IK (a_0:Option Addr) (n_1:Int):Ab Tryz.prog Tryz.f32 [(.pointer a_0),(.int .i64 n_1)] =Fa a_0 n_1:=by kernel_rfl
noncomputable def Fb (a_0:Option Addr) (n_1:Int):T:=
 T.call 78 [(.pointer a_0),(.int .i64 n_1)] (.one (.agg [.slice, .slice, .slice,(.int .i64),(.int .i64)])) fun (t1:Slc×Slc×Slc×Int×Int×Unit)=>
 T.call 79 [(sv t1.2.2.1)] (.one aS) fun (t2:Slc)=>
 T.ret (sv t2)
theorem IL (a_0:Option Addr) (n_1:Int):Ab Tryz.prog Tryz.f34 [(.pointer a_0),(.int .i64 n_1)] =Fb a_0 n_1:=by kernel_rfl
noncomputable def G8 (a_0:Option Addr) (n_1:Int) (sym_2:Int):T:=
 T.call 78 [(.pointer a_0),(.int .i64 n_1)] (.one (.agg [.slice, .slice, .slice,(.int .i64),(.int .i64)])) fun (t1:Slc×Slc×Slc×Int×Int×Unit)=>
 T.block 0 [aI,aI]
 (T.loop [aI,aI] [(.int .i64 (0:Int)),(.int .i64 (0:Int))] fun (z3:Int×Int×Unit)=>
 cond (decide (z3.1< ((t1.2.2.1.2.1:Nat):Int)))
 (deref t1.2.2.1.1 fun a4=>
 chk (0≤z3.1∧z3.1< (t1.2.2.1.2.1:Nat)) <|
 T.load (.int .i64) (a4.add (Int.toNat z3.1 * 2)) fun (t5:Int)=>
 T.load (.int .i64) ((a4.add (Int.toNat z3.1 * 2)).add 1) fun (t6:Int)=>
 T.new (.cells #[(.int .i64 (0:Int)),(.int .i64 (0:Int))] 73 (0,0)) fun r7=>
 T.store ⟨r7,0,none⟩ (.int .i64 t5) <|
 T.store ⟨r7,1,none⟩ (.int .i64 t6) <|
 T.load (.int .i64) ⟨r7,0,none⟩ fun (t8:Int)=>
 cond (t8==sym_2)
 (T.load (.int .i64) ⟨r7,1,none⟩ fun (t9:Int)=>
 T.ret (.int .i64 t9))
 (T.out [(.int .i64 (wN z3.1)),(.int .i64 z3.2.1)]))
 (T.brk 0 [(.int .i64 z3.1),(.int .i64 z3.2.1)])) fun (z2:Int×Int×Unit)=>
 T.ret (.int .i64 (-1:Int))
theorem KR (a_0:Option Addr) (n_1:Int) (sym_2:Int):Ab Tryz.prog Tryz.f41 [(.pointer a_0),(.int .i64 n_1),(.int .i64 sym_2)] =G8 a_0 n_1 sym_2:=by kernel_rfl
noncomputable def F9 (a_0:Option Addr) (n_1:Int) (seq_2_p:Option Addr) (seq_2_n seq_2_c:Nat):T:=
 T.join [aB]
 (cond (decide (n_1< (0:Int)))
 (T.out [(.bool true)])
 (deref a_0 fun a2=>
 T.load .slice (a2.add 6) fun (t3:Slc)=>
 T.out [(.bool (decide (n_1≥ ((t3.2.1:Nat):Int))))])) fun (z1:Bool×Unit)=>
 cond z1.1
 (T.ret (.int .i64 (-1:Int)))
 (T.block 0 [aI,aI]
 (T.loop [aI,aI] [(.int .i64 (0:Int)),(.int .i64 n_1)] fun (z5:Int×Int×Unit)=>
 cond (decide (z5.1< ((seq_2_n:Nat):Int)))
 (deref seq_2_p fun a6=>
 chk (0≤z5.1∧z5.1< (seq_2_n:Nat)) <|
 T.load (.int .i64) (a6.add (Int.toNat z5.1 * 1)) fun (t7:Int)=>
 T.call 41 [(.pointer a_0),(.int .i64 z5.2.1),(.int .i64 t7)] (.one aI) fun (t8:Int)=>
 cond (decide (t8< (0:Int)))
 (T.brk 0 [(.int .i64 z5.1),(.int .i64 t8)])
 (T.out [(.int .i64 (wN z5.1)),(.int .i64 t8)]))
 (T.brk 0 [(.int .i64 z5.1),(.int .i64 z5.2.1)])) fun (z4:Int×Int×Unit)=>
 T.ret (.int .i64 z4.2.1))
theorem Iv (a_0:Option Addr) (n_1:Int) (seq_2_p:Option Addr) (seq_2_n seq_2_c:Nat):Ab Tryz.prog Tryz.f72 [(.pointer a_0),(.int .i64 n_1),(.slice seq_2_p seq_2_n seq_2_c)] =F9 a_0 n_1 seq_2_p seq_2_n seq_2_c:=by kernel_rfl
noncomputable def G9 (a_0:Option Addr) (n_1:Int):T:=
 T.new (.cells #[(.slice none 0 0),(.slice none 0 0),(.slice none 0 0),(.int .i64 (0:Int)),(.int .i64 (0:Int))] 150 (0,0)) fun r1=>
 T.join [aB]
 (cond (decide (n_1< (0:Int)))
 (T.out [(.bool true)])
 (deref a_0 fun a3=>
 T.load .slice (a3.add 6) fun (t4:Slc)=>
 T.out [(.bool (decide (n_1≥ ((t4.2.1:Nat):Int))))])) fun (z2:Bool×Unit)=>
 cond z2.1
 (T.store ⟨r1,0,none⟩ (.slice none 0 0) <|
 T.store ⟨r1,1,none⟩ (.slice none 0 0) <|
 T.store ⟨r1,2,none⟩ (.slice none 0 0) <|
 T.store ⟨r1,3,none⟩ (.int .i64 (0:Int)) <|
 T.store ⟨r1,4,none⟩ (.int .i64 (0:Int)) <|
 T.load .slice ⟨r1,0,none⟩ fun (res5:Slc)=>
 T.load .slice ⟨r1,1,none⟩ fun (res6:Slc)=>
 T.load .slice ⟨r1,2,none⟩ fun (res7:Slc)=>
 T.load (.int .i64) ⟨r1,3,none⟩ fun (res8:Int)=>
 T.load (.int .i64) ⟨r1,4,none⟩ fun (res9:Int)=>
 T.ret (.agg #[(sv res5),(sv res6),(sv res7),(.int .i64 res8),(.int .i64 res9)]))
 (deref a_0 fun a10=>
 T.load .slice (a10.add 6) fun (t11:Slc)=>
 deref t11.1 fun a12=>
 chk (0≤n_1∧n_1< (t11.2.1:Nat)) <|
 T.load .slice (a12.add (Int.toNat n_1 * 5)) fun (t13:Slc)=>
 T.load .slice ((a12.add (Int.toNat n_1 * 5)).add 1) fun (t14:Slc)=>
 T.load .slice ((a12.add (Int.toNat n_1 * 5)).add 2) fun (t15:Slc)=>
 T.load (.int .i64) ((a12.add (Int.toNat n_1 * 5)).add 3) fun (t16:Int)=>
 T.load (.int .i64) ((a12.add (Int.toNat n_1 * 5)).add 4) fun (t17:Int)=>
 T.store ⟨r1,0,none⟩ (sv t13) <|
 T.store ⟨r1,1,none⟩ (sv t14) <|
 T.store ⟨r1,2,none⟩ (sv t15) <|
 T.store ⟨r1,3,none⟩ (.int .i64 t16) <|
 T.store ⟨r1,4,none⟩ (.int .i64 t17) <|
 T.load .slice ⟨r1,0,none⟩ fun (res18:Slc)=>
 T.load .slice ⟨r1,1,none⟩ fun (res19:Slc)=>
 T.load .slice ⟨r1,2,none⟩ fun (res20:Slc)=>
 T.load (.int .i64) ⟨r1,3,none⟩ fun (res21:Int)=>
 T.load (.int .i64) ⟨r1,4,none⟩ fun (res22:Int)=>
 T.ret (.agg #[(sv res18),(sv res19),(sv res20),(.int .i64 res21),(.int .i64 res22)]))
theorem KS (a_0:Option Addr) (n_1:Int):Ab Tryz.prog Tryz.f78 [(.pointer a_0),(.int .i64 n_1)] =G9 a_0 n_1:=by kernel_rfl
noncomputable def FE (a_0:Option Addr) (x_1:Int×Int×Unit):T:=
 T.new (.cells #[(.int .i64 x_1.1),(.int .i64 x_1.2.1)] 70 (0,0)) fun r1=>
 deref a_0 fun a2=>
 T.load .slice (a2.add 2) fun (t3:Slc)=>
 T.load (.int .i64) ⟨r1,0,none⟩ fun (t4:Int)=>
 deref t3.1 fun a5=>
 chk (0≤t4∧t4< (t3.2.1:Nat)) <|
 T.load .slice ((a5.add (Int.toNat t4 * 3)).add 1) fun (t6:Slc)=>
 T.load (.int .i64) ⟨r1,1,none⟩ fun (t7:Int)=>
 cond (decide (t7≥ ((t6.2.1:Nat):Int)))
 (T.ret (.int .i64 (-1:Int)))
 (T.load (.int .i64) ⟨r1,1,none⟩ fun (t8:Int)=>
 deref t6.1 fun a9=>
 chk (0≤t8∧t8< (t6.2.1:Nat)) <|
 T.load (.int .i64) (a9.add (Int.toNat t8 * 1)) fun (t10:Int)=>
 T.ret (.int .i64 t10))
theorem Hf (a_0:Option Addr) (x_1:Int×Int×Unit):Ab Tryz.prog Tryz.f126 [(.pointer a_0),(.agg #[(.int .i64 x_1.1),(.int .i64 x_1.2.1)])] =FE a_0 x_1:=by kernel_rfl
noncomputable def El (a_0:Option Addr) (kernel_1_p:Option Addr) (kernel_1_n kernel_1_c:Nat):T:=
 T.call 77 [(.slice kernel_1_p kernel_1_n kernel_1_c)] (.one aS) fun (t1:Slc)=>
 T.new (.map #[] 0) fun r2=>
 T.block 0 [aI,aS]
 (T.loop [aI,aS] [(.int .i64 (0:Int)),(sv t1)] fun (z4:Int×Slc×Unit)=>
 cond (decide (z4.1< ((z4.2.1.2.1:Nat):Int)))
 (T.block 1 [aS]
 (deref z4.2.1.1 fun a6=>
 chk (0≤z4.1∧z4.1< (z4.2.1.2.1:Nat)) <|
 T.load (.int .i64) (a6.add (Int.toNat z4.1 * 2)) fun (t7:Int)=>
 T.load (.int .i64) ((a6.add (Int.toNat z4.1 * 2)).add 1) fun (t8:Int)=>
 T.call 126 [(.pointer a_0),(.agg #[(.int .i64 t7),(.int .i64 t8)])] (.one aI) fun (t9:Int)=>
 T.join [aB]
 (cond (decide (t9< (0:Int)))
 (T.out [(.bool true)])
 (deref a_0 fun a11=>
 M6 a11 fun t12 t13 t14 t15 t16 t17=>
 T.call 86 [(aH t12 t13 t14 t15 t16 t17),(.int .i64 t9)] (.one aB) fun (t18:Bool)=>
 cond t18
 (T.out [(.bool true)])
 (T.sem (Instr.lookup 213 (.map (some r2)) (.int .i64 t9) false) (.one aB) fun (t19:Bool)=>
 T.out [(.bool t19)]))) fun (z10:Bool×Unit)=>
 cond z10.1
 (T.brk 1 [(sv z4.2.1)])
 (T.sem (Sem.bind (Instr.mapUpdate 213 (.map (some r2)) (.int .i64 t9) (.bool true)) fun _=> .pure undef) (.tuple []) fun (u20:Unit)=>
 deref a_0 fun a21=>
 T.load .slice (a21.add 2) fun (t22:Slc)=>
 T.block 2 [aI,aS]
 (T.loop [aI,aS] [(.int .i64 (0:Int)),(sv z4.2.1)] fun (z24:Int×Slc×Unit)=>
 cond (decide (z24.1< ((t22.2.1:Nat):Int)))
 (deref t22.1 fun a25=>
 chk (0≤z24.1∧z24.1< (t22.2.1:Nat)) <|
 T.load (.int .i64) (a25.add (Int.toNat z24.1 * 3)) fun (t26:Int)=>
 T.load .slice ((a25.add (Int.toNat z24.1 * 3)).add 1) fun (t27:Slc)=>
 T.load (.int .i64) ((a25.add (Int.toNat z24.1 * 3)).add 2) fun (t28:Int)=>
 T.new (.cells #[(.int .i64 (0:Int)),(.slice none 0 0),(.int .i64 (0:Int))] 65 (0,0)) fun r29=>
 T.store ⟨r29,0,none⟩ (.int .i64 t26) <|
 T.store ⟨r29,1,none⟩ (sv t27) <|
 T.store ⟨r29,2,none⟩ (.int .i64 t28) <|
 T.new (.cells #[(.int .i64 (0:Int)),(.int .i64 (0:Int))] 70 (0,0)) fun r30=>
 T.store ⟨r30,0,none⟩ (.int .i64 z24.1) <|
 T.store ⟨r30,1,none⟩ (.int .i64 (0:Int)) <|
 T.join [aB]
 (T.load (.int .i64) ⟨r29,0,none⟩ fun (t32:Int)=>
 cond (t32==t9)
 (T.load (.int .i64) ⟨r30,0,none⟩ fun (t33:Int)=>
 T.load (.int .i64) ⟨r30,1,none⟩ fun (t34:Int)=>
 T.call 115 [(sv z24.2.1),(.agg #[(.int .i64 t33),(.int .i64 t34)])] (.one aB) fun (t35:Bool)=>
 T.out [(.bool (!t35))])
 (T.out [(.bool false)])) fun (z31:Bool×Unit)=>
 T.join [aS]
 (cond z31.1
 (T.load (.int .i64) ⟨r30,0,none⟩ fun (t37:Int)=>
 T.load (.int .i64) ⟨r30,1,none⟩ fun (t38:Int)=>
 T.new (.cells #[(.int .i64 t37),(.int .i64 t38)] 70 (0,0)) fun r39=>
 T.sem (Builtin.append_ #[67,67] 67 #[(sv z24.2.1),(.slice (some ⟨r39,0,none⟩) 1 1)]) (.one aS) fun (t40:Slc)=>
 T.out [(sv t40)])
 (T.out [(sv z24.2.1)])) fun (z36:Slc×Unit)=>
 T.out [(.int .i64 (wN z24.1)),(sv z36.1)])
 (T.brk 2 [(.int .i64 z24.1),(sv z24.2.1)])) fun (z23:Int×Slc×Unit)=>
 T.out [(sv z23.2.1)])) fun (z5:Slc×Unit)=>
 T.out [(.int .i64 (wN z4.1)),(sv z5.1)])
 (T.brk 0 [(.int .i64 z4.1),(sv z4.2.1)])) fun (z3:Int×Slc×Unit)=>
 T.call 127 [(sv z3.2.1),(.func (.func 128) #[] #[])] (.tuple []) fun (t41:Unit)=>
 T.ret (sv z3.2.1)
theorem HA (a_0:Option Addr) (kernel_1_p:Option Addr) (kernel_1_n kernel_1_c:Nat):Ab Tryz.prog Tryz.f101 [(.pointer a_0),(.slice kernel_1_p kernel_1_n kernel_1_c)] =El a_0 kernel_1_p kernel_1_n kernel_1_c:=by kernel_rfl
noncomputable def Em (a_0:Option Addr) (items_1_p:Option Addr) (items_1_n items_1_c:Nat):T:=
 T.block 0 [aI,aS]
 (T.loop [aI,aS] [(.int .i64 (0:Int)),(.slice none 0 0)] fun (z2:Int×Slc×Unit)=>
 cond (decide (z2.1< ((items_1_n:Nat):Int)))
 (deref items_1_p fun a3=>
 chk (0≤z2.1∧z2.1< (items_1_n:Nat)) <|
 T.load (.int .i64) (a3.add (Int.toNat z2.1 * 2)) fun (t4:Int)=>
 T.load (.int .i64) ((a3.add (Int.toNat z2.1 * 2)).add 1) fun (t5:Int)=>
 T.new (.cells #[(.int .i64 (0:Int)),(.int .i64 (0:Int))] 70 (0,0)) fun r6=>
 T.store ⟨r6,0,none⟩ (.int .i64 t4) <|
 T.store ⟨r6,1,none⟩ (.int .i64 t5) <|
 T.load (.int .i64) ⟨r6,0,none⟩ fun (t7:Int)=>
 T.load (.int .i64) ⟨r6,1,none⟩ fun (t8:Int)=>
 T.call 126 [(.pointer a_0),(.agg #[(.int .i64 t7),(.int .i64 t8)])] (.one aI) fun (t9:Int)=>
 T.join [aS]
 (cond (decide (t9≥ (0:Int)))
 (T.new (.cells #[(.int .i64 t9)] 3 (0,0)) fun r11=>
 T.sem (Builtin.append_ #[30,30] 30 #[(sv z2.2.1),(.slice (some ⟨r11,0,none⟩) 1 1)]) (.one aS) fun (t12:Slc)=>
 T.out [(sv t12)])
 (T.out [(sv z2.2.1)])) fun (z10:Slc×Unit)=>
 T.out [(.int .i64 (wN z2.1)),(sv z10.1)])
 (T.brk 0 [(.int .i64 z2.1),(sv z2.2.1)])) fun (z1:Int×Slc×Unit)=>
 T.call 130 [(sv z1.2.1)] (.tuple []) fun (t13:Unit)=>
 T.call 131 [(sv z1.2.1)] (.one aS) fun (t14:Slc)=>
 T.ret (sv t14)
theorem HB (a_0:Option Addr) (items_1_p:Option Addr) (items_1_n items_1_c:Nat):Ab Tryz.prog Tryz.f103 [(.pointer a_0),(.slice items_1_p items_1_n items_1_c)] =Em a_0 items_1_p items_1_n items_1_c:=by kernel_rfl
noncomputable def GA (a_0:Option Addr) (items_1_p:Option Addr) (items_1_n items_1_c:Nat) (sym_2:Int):T:=
 T.block 0 [aI,aS]
 (T.loop [aI,aS] [(.int .i64 (0:Int)),(.slice none 0 0)] fun (z2:Int×Slc×Unit)=>
 cond (decide (z2.1< ((items_1_n:Nat):Int)))
 (deref items_1_p fun a3=>
 chk (0≤z2.1∧z2.1< (items_1_n:Nat)) <|
 T.load (.int .i64) (a3.add (Int.toNat z2.1 * 2)) fun (t4:Int)=>
 T.load (.int .i64) ((a3.add (Int.toNat z2.1 * 2)).add 1) fun (t5:Int)=>
 T.new (.cells #[(.int .i64 (0:Int)),(.int .i64 (0:Int))] 70 (0,0)) fun r6=>
 T.store ⟨r6,0,none⟩ (.int .i64 t4) <|
 T.store ⟨r6,1,none⟩ (.int .i64 t5) <|
 T.load (.int .i64) ⟨r6,0,none⟩ fun (t7:Int)=>
 T.load (.int .i64) ⟨r6,1,none⟩ fun (t8:Int)=>
 T.call 126 [(.pointer a_0),(.agg #[(.int .i64 t7),(.int .i64 t8)])] (.one aI) fun (t9:Int)=>
 T.join [aS]
 (cond (t9==sym_2)
 (T.load (.int .i64) ⟨r6,0,none⟩ fun (t11:Int)=>
 T.load (.int .i64) ⟨r6,1,none⟩ fun (t12:Int)=>
 T.new (.cells #[(.int .i64 t11),(.int .i64 (wN t12))] 70 (0,0)) fun r13=>
 T.sem (Builtin.append_ #[67,67] 67 #[(sv z2.2.1),(.slice (some ⟨r13,0,none⟩) 1 1)]) (.one aS) fun (t14:Slc)=>
 T.out [(sv t14)])
 (T.out [(sv z2.2.1)])) fun (z10:Slc×Unit)=>
 T.out [(.int .i64 (wN z2.1)),(sv z10.1)])
 (T.brk 0 [(.int .i64 z2.1),(sv z2.2.1)])) fun (z1:Int×Slc×Unit)=>
 T.ret (sv z1.2.1)
theorem Iw (a_0:Option Addr) (items_1_p:Option Addr) (items_1_n items_1_c:Nat) (sym_2:Int):Ab Tryz.prog Tryz.f104 [(.pointer a_0),(.slice items_1_p items_1_n items_1_c),(.int .i64 sym_2)] =GA a_0 items_1_p items_1_n items_1_c sym_2:=by kernel_rfl
noncomputable def Cm (s_0_p:Option Addr) (s_0_n s_0_c:Nat):T:=
 cond (Option.isNone s_0_p)
 (T.ret (.slice none 0 0))
 (T.new (.cells #[] 70 (0,0)) fun r1=>
 T.sem (Builtin.append_ #[67,67] 67 #[(.slice (some ⟨r1,0,none⟩) 0 0),(.slice s_0_p s_0_n s_0_c)]) (.one aS) fun (t2:Slc)=>
 T.ret (sv t2))
theorem EB (s_0_p:Option Addr) (s_0_n s_0_c:Nat):Ab Tryz.prog Tryz.f77 [(.slice s_0_p s_0_n s_0_c)] =Cm s_0_p s_0_n s_0_c:=by kernel_rfl
noncomputable def Cn (s_0_p:Option Addr) (s_0_n s_0_c:Nat):T:=
 cond (Option.isNone s_0_p)
 (T.ret (.slice none 0 0))
 (T.new (.cells #[] 73 (0,0)) fun r1=>
 T.sem (Builtin.append_ #[54,54] 54 #[(.slice (some ⟨r1,0,none⟩) 0 0),(.slice s_0_p s_0_n s_0_c)]) (.one aS) fun (t2:Slc)=>
 T.ret (sv t2))
theorem EC (s_0_p:Option Addr) (s_0_n s_0_c:Nat):Ab Tryz.prog Tryz.f79 [(.slice s_0_p s_0_n s_0_c)] =Cn s_0_p s_0_n s_0_c:=by kernel_rfl
noncomputable def Gc (g_0:Slc×Slc×Slc×ByteArray×Slc×Unit):T:=
 T.new (.cells #[(sv g_0.1),(sv g_0.2.1),(sv g_0.2.2.1),(.string g_0.2.2.2.1),(sv g_0.2.2.2.2.1)] 107 (0,0)) fun r1=>
 T.new (.cells #[(.slice none 0 0),(.slice none 0 0),(.slice none 0 0),(.slice none 0 0),(.slice none 0 0),(.slice none 0 0)] 32 (0,0)) fun r2=>
 T.load .slice ⟨r1,0,none⟩ fun (t3:Slc)=>
 T.load .slice ⟨r1,1,none⟩ fun (t4:Slc)=>
 T.load .slice ⟨r1,2,none⟩ fun (t5:Slc)=>
 T.load .string ⟨r1,3,none⟩ fun (t6:ByteArray)=>
 T.load .slice ⟨r1,4,none⟩ fun (t7:Slc)=>
 T.call 92 [(.agg #[(sv t3),(sv t4),(sv t5),(.string t6),(sv t7)])] (.one aB) fun (t8:Bool)=>
 cond (!t8)
 (T.store ⟨r2,0,none⟩ (.slice none 0 0) <|
 T.store ⟨r2,1,none⟩ (.slice none 0 0) <|
 T.store ⟨r2,2,none⟩ (.slice none 0 0) <|
 T.store ⟨r2,3,none⟩ (.slice none 0 0) <|
 T.store ⟨r2,4,none⟩ (.slice none 0 0) <|
 T.store ⟨r2,5,none⟩ (.slice none 0 0) <|
 L6 r2 fun res9 res10 res11 res12 res13 res14=>
 T.ret (.tuple #[(aH res9 res10 res11 res12 res13 res14),(.int .i64 (1:Int)),(.string {data:= #[] })]))
 (T.new (.cells #[(.string {data:= #[36,101,110,100] })] 9 (0,0)) fun r15=>
 T.new (.cells #[(.int .i64 (0:Int))] 3 (0,0)) fun r16=>
 T.new (.cells #[(.int .i64 (0:Int))] 3 (0,0)) fun r17=>
 T.new (.cells #[(.string {data:= #[] })] 9 (0,0)) fun r18=>
 T.new (.cells #[(.slice none 0 0),(.slice none 0 0),(.slice none 0 0),(.slice none 0 0),(.slice none 0 0),(.slice none 0 0)] 32 (0,0)) fun r19=>
 T.store ⟨r19,0,none⟩ (.slice (some ⟨r15,0,none⟩) 1 1) <|
 T.store ⟨r19,1,none⟩ (.slice none 0 0) <|
 T.store ⟨r19,2,none⟩ (.slice none 0 0) <|
 T.store ⟨r19,3,none⟩ (.slice (some ⟨r16,0,none⟩) 1 1) <|
 T.store ⟨r19,4,none⟩ (.slice (some ⟨r17,0,none⟩) 1 1) <|
 T.store ⟨r19,5,none⟩ (.slice (some ⟨r18,0,none⟩) 1 1) <|
 T.block 0 [aI]
 (T.loop [aI] [(.int .i64 (0:Int))] fun (z21:Int×Unit)=>
 T.load .slice ⟨r1,4,none⟩ fun (t22:Slc)=>
 cond (decide (z21.1< ((t22.2.1:Nat):Int)))
 (T.load .slice ⟨r19,1,none⟩ fun (t23:Slc)=>
 T.load .slice ⟨r1,4,none⟩ fun (t24:Slc)=>
 deref t24.1 fun a25=>
 chk (0≤z21.1∧z21.1< (t24.2.1:Nat)) <|
 T.load .string (a25.add (Int.toNat z21.1 * 4)) fun (t26:ByteArray)=>
 T.call 93 [(sv t23),(.string t26)] (.one aI) fun (t27:Int)=>
 T.join []
 (cond (decide (t27< (0:Int)))
 (T.load .slice ⟨r19,1,none⟩ fun (t29:Slc)=>
 T.load .slice ⟨r1,4,none⟩ fun (t30:Slc)=>
 deref t30.1 fun a31=>
 chk (0≤z21.1∧z21.1< (t30.2.1:Nat)) <|
 T.load .string (a31.add (Int.toNat z21.1 * 4)) fun (t32:ByteArray)=>
 T.new (.cells #[(.string t32)] 9 (0,0)) fun r33=>
 T.still ⟨r19,1,none⟩ (sv t29) <|
 T.sem (Builtin.append_ #[28,28] 28 #[(sv t29),(.slice (some ⟨r33,0,none⟩) 1 1)]) (.one aS) fun (t34:Slc)=>
 T.store ⟨r19,1,none⟩ (sv t34) <|
 T.out [])
 (T.out [])) fun (z28:Unit)=>
 T.load .slice ⟨r19,5,none⟩ fun (t35:Slc)=>
 T.load .slice ⟨r1,4,none⟩ fun (t36:Slc)=>
 deref t36.1 fun a37=>
 chk (0≤z21.1∧z21.1< (t36.2.1:Nat)) <|
 T.load .string ((a37.add (Int.toNat z21.1 * 4)).add 3) fun (t38:ByteArray)=>
 T.new (.cells #[(.string t38)] 9 (0,0)) fun r39=>
 T.still ⟨r19,5,none⟩ (sv t35) <|
 T.sem (Builtin.append_ #[28,28] 28 #[(sv t35),(.slice (some ⟨r39,0,none⟩) 1 1)]) (.one aS) fun (t40:Slc)=>
 T.store ⟨r19,5,none⟩ (sv t40) <|
 T.out [(.int .i64 (wN z21.1))])
 (T.brk 0 [(.int .i64 z21.1)])) fun (z20:Int×Unit)=>
 T.block 2 [aI,(.atom .string),aI]
 (T.loop [aI,(.atom .string),aI] [(.int .i64 (0:Int)),(.string {data:= #[] }),(.int .i64 (0:Int))] fun (z42:Int×ByteArray×Int×Unit)=>
 T.load .slice ⟨r1,0,none⟩ fun (t43:Slc)=>
 cond (decide (z42.1< ((t43.2.1:Nat):Int)))
 (T.load .slice ⟨r19,1,none⟩ fun (t44:Slc)=>
 T.load .slice ⟨r1,0,none⟩ fun (t45:Slc)=>
 deref t45.1 fun a46=>
 chk (0≤z42.1∧z42.1< (t45.2.1:Nat)) <|
 T.load .string (a46.add (Int.toNat z42.1 * 4)) fun (t47:ByteArray)=>
 T.call 93 [(sv t44),(.string t47)] (.one aI) fun (t48:Int)=>
 cond (decide (t48≥ (0:Int)))
 (T.load .slice ⟨r1,0,none⟩ fun (t49:Slc)=>
 deref t49.1 fun a50=>
 chk (0≤z42.1∧z42.1< (t49.2.1:Nat)) <|
 T.load .string (a50.add (Int.toNat z42.1 * 4)) fun (t51:ByteArray)=>
 T.store ⟨r2,0,none⟩ (.slice none 0 0) <|
 T.store ⟨r2,1,none⟩ (.slice none 0 0) <|
 T.store ⟨r2,2,none⟩ (.slice none 0 0) <|
 T.store ⟨r2,3,none⟩ (.slice none 0 0) <|
 T.store ⟨r2,4,none⟩ (.slice none 0 0) <|
 T.store ⟨r2,5,none⟩ (.slice none 0 0) <|
 T.still (a50.add (Int.toNat z42.1 * 4)) (.string t51) <|
 T.still ⟨r1,0,none⟩ (sv t49) <|
 L6 r2 fun res52 res53 res54 res55 res56 res57=>
 T.ret (.tuple #[(aH res52 res53 res54 res55 res56 res57),(.int .i64 (15:Int)),(.string t51)]))
 (T.load .slice ⟨r19,0,none⟩ fun (t58:Slc)=>
 T.load .slice ⟨r1,0,none⟩ fun (t59:Slc)=>
 deref t59.1 fun a60=>
 chk (0≤z42.1∧z42.1< (t59.2.1:Nat)) <|
 T.load .string (a60.add (Int.toNat z42.1 * 4)) fun (t61:ByteArray)=>
 T.new (.cells #[(.string t61)] 9 (0,0)) fun r62=>
 T.still ⟨r19,0,none⟩ (sv t58) <|
 T.sem (Builtin.append_ #[28,28] 28 #[(sv t58),(.slice (some ⟨r62,0,none⟩) 1 1)]) (.one aS) fun (t63:Slc)=>
 T.store ⟨r19,0,none⟩ (sv t63) <|
 T.load .slice ⟨r19,3,none⟩ fun (t64:Slc)=>
 T.load .slice ⟨r1,0,none⟩ fun (t65:Slc)=>
 T.load .slice ⟨r1,1,none⟩ fun (t66:Slc)=>
 T.load .slice ⟨r1,2,none⟩ fun (t67:Slc)=>
 T.load .string ⟨r1,3,none⟩ fun (t68:ByteArray)=>
 T.load .slice ⟨r1,4,none⟩ fun (t69:Slc)=>
 T.load .slice ⟨r1,0,none⟩ fun (t70:Slc)=>
 deref t70.1 fun a71=>
 chk (0≤z42.1∧z42.1< (t70.2.1:Nat)) <|
 T.load .string (a71.add (Int.toNat z42.1 * 4)) fun (t72:ByteArray)=>
 T.call 94 [(.agg #[(sv t65),(sv t66),(sv t67),(.string t68),(sv t69)]),(.string t72)] (.one aI) fun (t73:Int)=>
 T.still ⟨r19,3,none⟩ (sv t64) <|
 T.new (.cells #[(.int .i64 t73)] 3 (0,0)) fun r74=>
 T.still ⟨r19,3,none⟩ (sv t64) <|
 T.sem (Builtin.append_ #[30,30] 30 #[(sv t64),(.slice (some ⟨r74,0,none⟩) 1 1)]) (.one aS) fun (t75:Slc)=>
 T.store ⟨r19,3,none⟩ (sv t75) <|
 T.out [(.int .i64 (wN z42.1)),(.string z42.2.1),(.int .i64 z42.2.2.1)]))
 (T.brk 2 [(.int .i64 z42.1),(.string z42.2.1),(.int .i64 z42.2.2.1)])) fun (z41:Int×ByteArray×Int×Unit)=>
 T.block 4 [aI]
 (T.loop [aI] [(.int .i64 (0:Int))] fun (z77:Int×Unit)=>
 T.load .slice ⟨r1,2,none⟩ fun (t78:Slc)=>
 cond (decide (z77.1< ((t78.2.1:Nat):Int)))
 (T.load .slice ⟨r19,4,none⟩ fun (t79:Slc)=>
 T.load .slice ⟨r1,2,none⟩ fun (t80:Slc)=>
 deref t80.1 fun a81=>
 chk (0≤z77.1∧z77.1< (t80.2.1:Nat)) <|
 T.load (.int .i64) (a81.add (Int.toNat z77.1 * 2)) fun (t82:Int)=>
 T.new (.cells #[(.int .i64 t82)] 3 (0,0)) fun r83=>
 T.still ⟨r19,4,none⟩ (sv t79) <|
 T.sem (Builtin.append_ #[30,30] 30 #[(sv t79),(.slice (some ⟨r83,0,none⟩) 1 1)]) (.one aS) fun (t84:Slc)=>
 T.store ⟨r19,4,none⟩ (sv t84) <|
 T.out [(.int .i64 (wN z77.1))])
 (T.brk 4 [(.int .i64 z77.1)])) fun (z76:Int×Unit)=>
 T.load .slice ⟨r19,0,none⟩ fun (t85:Slc)=>
 T.load .slice ⟨r19,1,none⟩ fun (t86:Slc)=>
 L6 r19 fun t87 t88 t89 t90 t91 t92=>
 T.load .string ⟨r1,3,none⟩ fun (t93:ByteArray)=>
 T.call 95 [(aH t87 t88 t89 t90 t91 t92),(.string t93)] (.one aI) fun (t94:Int)=>
 T.new (.cells #[(.int .i64 t94)] 3 (0,0)) fun r95=>
 T.new (.cells #[(.int .i64 (IntKind.wrap .i64 (((t85.2.1:Nat):Int) +((t86.2.1:Nat):Int)))),(.slice (some ⟨r95,0,none⟩) 1 1),(.int .i64 (0:Int))] 65 (0,0)) fun r96=>
 T.store ⟨r19,2,none⟩ (.slice (some ⟨r96,0,none⟩) 1 1) <|
 T.block 6 [aI,(.atom .string),aI]
 (T.loop [aI,(.atom .string),aI] [(.int .i64 (0:Int)),(.string z41.2.1),(.int .i64 z41.2.2.1)] fun (z98:Int×ByteArray×Int×Unit)=>
 T.load .slice ⟨r1,4,none⟩ fun (t99:Slc)=>
 cond (decide (z98.1< ((t99.2.1:Nat):Int)))
 (T.load .slice ⟨r1,4,none⟩ fun (t100:Slc)=>
 deref t100.1 fun a101=>
 chk (0≤z98.1∧z98.1< (t100.2.1:Nat)) <|
 T.load .string (a101.add (Int.toNat z98.1 * 4)) fun (t102:ByteArray)=>
 T.load .slice ((a101.add (Int.toNat z98.1 * 4)).add 1) fun (t103:Slc)=>
 T.load .string ((a101.add (Int.toNat z98.1 * 4)).add 2) fun (t104:ByteArray)=>
 T.load .string ((a101.add (Int.toNat z98.1 * 4)).add 3) fun (t105:ByteArray)=>
 T.new (.cells #[(.string {data:= #[] }),(.slice none 0 0),(.string {data:= #[] }),(.string {data:= #[] })] 172 (0,0)) fun r106=>
 T.store ⟨r106,0,none⟩ (.string t102) <|
 T.store ⟨r106,1,none⟩ (sv t103) <|
 T.store ⟨r106,2,none⟩ (.string t104) <|
 T.store ⟨r106,3,none⟩ (.string t105) <|
 L6 r19 fun t107 t108 t109 t110 t111 t112=>
 T.load .string ⟨r106,0,none⟩ fun (t113:ByteArray)=>
 T.call 95 [(aH t107 t108 t109 t110 t111 t112),(.string t113)] (.one aI) fun (t114:Int)=>
 T.new (.cells #[(.int .i64 (0:Int)),(.slice none 0 0),(.int .i64 (0:Int))] 65 (0,0)) fun r115=>
 T.store ⟨r115,0,none⟩ (.int .i64 t114) <|
 T.store ⟨r115,1,none⟩ (.slice none 0 0) <|
 T.store ⟨r115,2,none⟩ (.int .i64 (0:Int)) <|
 T.block 8 [aI,(.atom .string),aI]
 (T.loop [aI,(.atom .string),aI] [(.int .i64 (0:Int)),(.string z98.2.1),(.int .i64 z98.2.2.1)] fun (z117:Int×ByteArray×Int×Unit)=>
 T.load .slice ⟨r106,1,none⟩ fun (t118:Slc)=>
 cond (decide (z117.1< ((t118.2.1:Nat):Int)))
 (L6 r19 fun t119 t120 t121 t122 t123 t124=>
 T.load .slice ⟨r106,1,none⟩ fun (t125:Slc)=>
 deref t125.1 fun a126=>
 chk (0≤z117.1∧z117.1< (t125.2.1:Nat)) <|
 T.load .string (a126.add (Int.toNat z117.1 * 1)) fun (t127:ByteArray)=>
 T.call 95 [(aH t119 t120 t121 t122 t123 t124),(.string t127)] (.one aI) fun (t128:Int)=>
 cond (decide (t128< (0:Int)))
 (T.load .slice ⟨r106,1,none⟩ fun (t129:Slc)=>
 deref t129.1 fun a130=>
 chk (0≤z117.1∧z117.1< (t129.2.1:Nat)) <|
 T.load .string (a130.add (Int.toNat z117.1 * 1)) fun (t131:ByteArray)=>
 T.store ⟨r2,0,none⟩ (.slice none 0 0) <|
 T.store ⟨r2,1,none⟩ (.slice none 0 0) <|
 T.store ⟨r2,2,none⟩ (.slice none 0 0) <|
 T.store ⟨r2,3,none⟩ (.slice none 0 0) <|
 T.store ⟨r2,4,none⟩ (.slice none 0 0) <|
 T.store ⟨r2,5,none⟩ (.slice none 0 0) <|
 T.still (a130.add (Int.toNat z117.1 * 1)) (.string t131) <|
 T.still ⟨r106,1,none⟩ (sv t129) <|
 L6 r2 fun res132 res133 res134 res135 res136 res137=>
 T.ret (.tuple #[(aH res132 res133 res134 res135 res136 res137),(.int .i64 (16:Int)),(.string t131)]))
 (T.load .slice ⟨r115,1,none⟩ fun (t138:Slc)=>
 T.new (.cells #[(.int .i64 t128)] 3 (0,0)) fun r139=>
 T.sem (Builtin.append_ #[30,30] 30 #[(sv t138),(.slice (some ⟨r139,0,none⟩) 1 1)]) (.one aS) fun (t140:Slc)=>
 T.store ⟨r115,1,none⟩ (sv t140) <|
 T.load .slice ⟨r19,0,none⟩ fun (t141:Slc)=>
 T.join []
 (cond (decide (t128< ((t141.2.1:Nat):Int)))
 (T.load .slice ⟨r19,3,none⟩ fun (t143:Slc)=>
 deref t143.1 fun a144=>
 chk (0≤t128∧t128< (t143.2.1:Nat)) <|
 T.load (.int .i64) (a144.add (Int.toNat t128 * 1)) fun (t145:Int)=>
 T.store ⟨r115,2,none⟩ (.int .i64 t145) <|
 T.out [])
 (T.out [])) fun (z142:Unit)=>
 T.out [(.int .i64 (wN z117.1)),(.string z117.2.1),(.int .i64 z117.2.2.1)]))
 (T.brk 8 [(.int .i64 z117.1),(.string z117.2.1),(.int .i64 z117.2.2.1)])) fun (z116:Int×ByteArray×Int×Unit)=>
 T.load .string ⟨r106,2,none⟩ fun (t146:ByteArray)=>
 T.join [(.atom .string),aI]
 (cond (!(ByteArray.toList t146==ByteArray.toList {data:= #[] }))
 (T.load .slice ⟨r1,0,none⟩ fun (t148:Slc)=>
 T.load .slice ⟨r1,1,none⟩ fun (t149:Slc)=>
 T.load .slice ⟨r1,2,none⟩ fun (t150:Slc)=>
 T.load .string ⟨r1,3,none⟩ fun (t151:ByteArray)=>
 T.load .slice ⟨r1,4,none⟩ fun (t152:Slc)=>
 T.load .string ⟨r106,2,none⟩ fun (t153:ByteArray)=>
 T.call 94 [(.agg #[(sv t148),(sv t149),(sv t150),(.string t151),(sv t152)]),(.string t153)] (.one aI) fun (t154:Int)=>
 T.store ⟨r115,2,none⟩ (.int .i64 t154) <|
 T.load (.int .i64) ⟨r115,2,none⟩ fun (t155:Int)=>
 cond (t155==(0:Int))
 (T.load .string ⟨r106,2,none⟩ fun (t156:ByteArray)=>
 T.store ⟨r2,0,none⟩ (.slice none 0 0) <|
 T.store ⟨r2,1,none⟩ (.slice none 0 0) <|
 T.store ⟨r2,2,none⟩ (.slice none 0 0) <|
 T.store ⟨r2,3,none⟩ (.slice none 0 0) <|
 T.store ⟨r2,4,none⟩ (.slice none 0 0) <|
 T.store ⟨r2,5,none⟩ (.slice none 0 0) <|
 T.still ⟨r106,2,none⟩ (.string t156) <|
 L6 r2 fun res157 res158 res159 res160 res161 res162=>
 T.ret (.tuple #[(aH res157 res158 res159 res160 res161 res162),(.int .i64 (16:Int)),(.string t156)]))
 (T.out [(.string z116.2.1),(.int .i64 z116.2.2.1)]))
 (T.out [(.string z116.2.1),(.int .i64 z116.2.2.1)])) fun (z147:ByteArray×Int×Unit)=>
 T.load .slice ⟨r19,2,none⟩ fun (t163:Slc)=>
 T.load (.int .i64) ⟨r115,0,none⟩ fun (t164:Int)=>
 T.load .slice ⟨r115,1,none⟩ fun (t165:Slc)=>
 T.load (.int .i64) ⟨r115,2,none⟩ fun (t166:Int)=>
 T.new (.cells #[(.int .i64 t164),(sv t165),(.int .i64 t166)] 65 (0,0)) fun r167=>
 T.sem (Builtin.append_ #[29,29] 29 #[(sv t163),(.slice (some ⟨r167,0,none⟩) 1 1)]) (.one aS) fun (t168:Slc)=>
 T.store ⟨r19,2,none⟩ (sv t168) <|
 T.out [(.int .i64 (wN z98.1)),(.string z147.1),(.int .i64 z147.2.1)])
 (T.brk 6 [(.int .i64 z98.1),(.string z98.2.1),(.int .i64 z98.2.2.1)])) fun (z97:Int×ByteArray×Int×Unit)=>
 T.load .slice ⟨r19,1,none⟩ fun (t169:Slc)=>
 T.load .string ⟨r1,3,none⟩ fun (t170:ByteArray)=>
 T.call 93 [(sv t169),(.string t170)] (.one aI) fun (t171:Int)=>
 cond (decide (t171< (0:Int)))
 (T.load .string ⟨r1,3,none⟩ fun (t172:ByteArray)=>
 T.store ⟨r2,0,none⟩ (.slice none 0 0) <|
 T.store ⟨r2,1,none⟩ (.slice none 0 0) <|
 T.store ⟨r2,2,none⟩ (.slice none 0 0) <|
 T.store ⟨r2,3,none⟩ (.slice none 0 0) <|
 T.store ⟨r2,4,none⟩ (.slice none 0 0) <|
 T.store ⟨r2,5,none⟩ (.slice none 0 0) <|
 T.still ⟨r1,3,none⟩ (.string t172) <|
 L6 r2 fun res173 res174 res175 res176 res177 res178=>
 T.ret (.tuple #[(aH res173 res174 res175 res176 res177 res178),(.int .i64 (16:Int)),(.string t172)]))
 (L6 r19 fun t179 t180 t181 t182 t183 t184=>
 T.store ⟨r2,0,none⟩ (sv t179) <|
 T.store ⟨r2,1,none⟩ (sv t180) <|
 T.store ⟨r2,2,none⟩ (sv t181) <|
 T.store ⟨r2,3,none⟩ (sv t182) <|
 T.store ⟨r2,4,none⟩ (sv t183) <|
 T.store ⟨r2,5,none⟩ (sv t184) <|
 L6 r2 fun res185 res186 res187 res188 res189 res190=>
 T.ret (.tuple #[(aH res185 res186 res187 res188 res189 res190),(.int .i64 (0:Int)),(.string {data:= #[] })])))
theorem Jq (g_0:Slc×Slc×Slc×ByteArray×Slc×Unit):Ab Tryz.prog Tryz.f55 [(.agg #[(sv g_0.1),(sv g_0.2.1),(sv g_0.2.2.1),(.string g_0.2.2.2.1),(sv g_0.2.2.2.2.1)])] =Gc g_0:=by kernel_rfl
noncomputable def DB (s_0:Int×Int×Slc×Slc×Slc×Slc×Slc×Unit):T:=
 T.new (.cells #[(.int .u8 s_0.1),(.int .u8 s_0.2.1),(sv s_0.2.2.1),(sv s_0.2.2.2.1),(sv s_0.2.2.2.2.1),(sv s_0.2.2.2.2.2.1),(sv s_0.2.2.2.2.2.2.1)] 25 (0,0)) fun r1=>
 T.new (.cells #[(.slice none 0 0),(.slice none 0 0),(.slice none 0 0),(.string {data:= #[] }),(.slice none 0 0)] 107 (0,0)) fun r2=>
 T.load (.int .u8) ⟨r1,0,none⟩ fun (t3:Int)=>
 chk ((5:Int) ≠ 0) <|
 T.load (.int .u8) ⟨r1,1,none⟩ fun (t4:Int)=>
 chk ((4:Int) ≠ 0) <|
 T.new (.cells #[(.slice none 0 0),(.slice none 0 0),(.slice none 0 0),(.string {data:= #[] }),(.slice none 0 0)] 107 (0,0)) fun r5=>
 T.store ⟨r5,0,none⟩ (.slice none 0 0) <|
 T.store ⟨r5,1,none⟩ (.slice none 0 0) <|
 T.store ⟨r5,2,none⟩ (.slice none 0 0) <|
 T.store ⟨r5,3,none⟩ (.string {data:= #[83] }) <|
 T.store ⟨r5,4,none⟩ (.slice none 0 0) <|
 T.block 0 [aI]
 (T.loop [aI] [(.int .i64 (0:Int))] fun (z7:Int×Unit)=>
 T.load .slice ⟨r1,5,none⟩ fun (t8:Slc)=>
 cond (decide (z7.1< ((t8.2.1:Nat):Int)))
 (T.load .slice ⟨r5,2,none⟩ fun (t9:Slc)=>
 T.load .slice ⟨r1,5,none⟩ fun (t10:Slc)=>
 deref t10.1 fun a11=>
 chk (0≤z7.1∧z7.1< (t10.2.1:Nat)) <|
 T.load (.int .u8) (a11.add (Int.toNat z7.1 * 1)) fun (t12:Int)=>
 chk ((3:Int) ≠ 0) <|
 chk (0≤z7.1∧z7.1≤(wN z7.1)∧(wN z7.1) ≤(ByteArray.size {data:= #[112,113,114,115,116] } :Nat)) <|
 T.new (.cells #[(.string (ByteArray.extract {data:= #[112,113,114,115,116] } (Int.toNat z7.1) (Int.toNat (wN z7.1))))] 9 (0,0)) fun r13=>
 T.still (a11.add (Int.toNat z7.1 * 1)) (.int .u8 t12) <|
 T.still ⟨r1,5,none⟩ (sv t10) <|
 T.still ⟨r5,2,none⟩ (sv t9) <|
 T.new (.cells #[(.int .i64 (IntKind.wrap .i64 ((IntKind.wrap .i64 (Int.tmod t12 (3:Int))) +(1:Int)))),(.slice (some ⟨r13,0,none⟩) 1 1)] 179 (0,0)) fun r14=>
 T.still ⟨r5,2,none⟩ (sv t9) <|
 T.sem (Builtin.append_ #[104,104] 104 #[(sv t9),(.slice (some ⟨r14,0,none⟩) 1 1)]) (.one aS) fun (t15:Slc)=>
 T.store ⟨r5,2,none⟩ (sv t15) <|
 T.out [(.int .i64 (wN z7.1))])
 (T.brk 0 [(.int .i64 z7.1)])) fun (z6:Int×Unit)=>
 T.block 2 [aI]
 (T.loop [aI] [(.int .i64 (0:Int))] fun (z17:Int×Unit)=>
 cond (decide (z17.1< (IntKind.wrap .i64 ((IntKind.wrap .i64 (Int.tmod t3 (5:Int))) +(1:Int)))))
 (chk (0≤z17.1∧z17.1≤(wN z17.1)∧(wN z17.1) ≤(ByteArray.size {data:= #[97,98,99,100,101] } :Nat)) <|
 T.load .slice ⟨r5,0,none⟩ fun (t18:Slc)=>
 T.new (.cells #[(.string (ByteArray.extract {data:= #[97,98,99,100,101] } (Int.toNat z17.1) (Int.toNat (wN z17.1)))),(.string (ByteArray.extract {data:= #[97,98,99,100,101] } (Int.toNat z17.1) (Int.toNat (wN z17.1)))),(.string {data:= #[] }),(.bool false)] 176 (0,0)) fun r19=>
 T.sem (Builtin.append_ #[102,102] 102 #[(sv t18),(.slice (some ⟨r19,0,none⟩) 1 1)]) (.one aS) fun (t20:Slc)=>
 T.store ⟨r5,0,none⟩ (sv t20) <|
 T.load .slice ⟨r1,6,none⟩ fun (t21:Slc)=>
 T.join []
 (cond (decide (z17.1< ((t21.2.1:Nat):Int)))
 (T.load .slice ⟨r1,6,none⟩ fun (t23:Slc)=>
 deref t23.1 fun a24=>
 chk (0≤z17.1∧z17.1< (t23.2.1:Nat)) <|
 T.load (.int .u8) (a24.add (Int.toNat z17.1 * 1)) fun (t25:Int)=>
 T.load .slice ⟨r5,2,none⟩ fun (t26:Slc)=>
 chk ((IntKind.wrap .i64 (((t26.2.1:Nat):Int) +(1:Int))) ≠ 0) <|
 T.join []
 (cond (decide ((Int.tmod (IntKind.wrap .i64 t25) (IntKind.wrap .i64 (((t26.2.1:Nat):Int) +(1:Int)))) >(0:Int)))
 (T.load .slice ⟨r5,2,none⟩ fun (t28:Slc)=>
 T.load .slice ⟨r5,2,none⟩ fun (t29:Slc)=>
 deref t29.1 fun a30=>
 chk (0≤(IntKind.wrap .i64 ((Int.tmod (IntKind.wrap .i64 t25) (IntKind.wrap .i64 (((t26.2.1:Nat):Int) +(1:Int)))) - (1:Int)))∧(IntKind.wrap .i64 ((Int.tmod (IntKind.wrap .i64 t25) (IntKind.wrap .i64 (((t26.2.1:Nat):Int) +(1:Int)))) - (1:Int))) < (t29.2.1:Nat)) <|
 T.load .slice ((a30.add (Int.toNat (IntKind.wrap .i64 ((Int.tmod (IntKind.wrap .i64 t25) (IntKind.wrap .i64 (((t26.2.1:Nat):Int) +(1:Int)))) - (1:Int))) * 2)).add 1) fun (t31:Slc)=>
 T.both
 (T.new (.cells #[] 9 (0,0)) fun r32=>
 T.still ((a30.add (Int.toNat (IntKind.wrap .i64 ((Int.tmod (IntKind.wrap .i64 t25) (IntKind.wrap .i64 (((t26.2.1:Nat):Int) +(1:Int)))) - (1:Int))) * 2)).add 1) (sv t31) <|
 T.still ⟨r5,2,none⟩ (sv t29) <|
 T.still ⟨r5,2,none⟩ (sv t28) <|
 T.both
 (T.sem (Builtin.append_ #[28,28] 28 #[(.slice (some ⟨r32,0,none⟩) 0 0),(sv t31)]) (.one aS) fun (t33:Slc)=>
 T.still ⟨r5,2,none⟩ (sv t28) <|
 T.new (.cells #[(.string (ByteArray.extract {data:= #[97,98,99,100,101] } (Int.toNat z17.1) (Int.toNat (wN z17.1))))] 9 (0,0)) fun r34=>
 T.still ⟨r5,2,none⟩ (sv t28) <|
 T.sem (Builtin.append_ #[28,28] 28 #[(sv t33),(.slice (some ⟨r34,0,none⟩) 1 1)]) (.one aS) fun (t35:Slc)=>
 T.still ⟨r5,2,none⟩ (sv t28) <|
 deref t28.1 fun a36=>
 chk (0≤(IntKind.wrap .i64 ((Int.tmod (IntKind.wrap .i64 t25) (IntKind.wrap .i64 (((t26.2.1:Nat):Int) +(1:Int)))) - (1:Int)))∧(IntKind.wrap .i64 ((Int.tmod (IntKind.wrap .i64 t25) (IntKind.wrap .i64 (((t26.2.1:Nat):Int) +(1:Int)))) - (1:Int))) < (t28.2.1:Nat)) <|
 T.store ((a36.add (Int.toNat (IntKind.wrap .i64 ((Int.tmod (IntKind.wrap .i64 t25) (IntKind.wrap .i64 (((t26.2.1:Nat):Int) +(1:Int)))) - (1:Int))) * 2)).add 1) (sv t35) <|
 T.out [])
 (T.new (.cells #[(.string (ByteArray.extract {data:= #[97,98,99,100,101] } (Int.toNat z17.1) (Int.toNat (wN z17.1))))] 9 (0,0)) fun r37=>
 T.still ((a30.add (Int.toNat (IntKind.wrap .i64 ((Int.tmod (IntKind.wrap .i64 t25) (IntKind.wrap .i64 (((t26.2.1:Nat):Int) +(1:Int)))) - (1:Int))) * 2)).add 1) (sv t31) <|
 T.still ⟨r5,2,none⟩ (sv t29) <|
 T.still ⟨r5,2,none⟩ (sv t28) <|
 T.sem (Builtin.append_ #[28,28] 28 #[(.slice (some ⟨r32,0,none⟩) 0 0),(sv t31)]) (.one aS) fun (t38:Slc)=>
 T.still ⟨r5,2,none⟩ (sv t28) <|
 T.sem (Builtin.append_ #[28,28] 28 #[(sv t38),(.slice (some ⟨r37,0,none⟩) 1 1)]) (.one aS) fun (t39:Slc)=>
 T.still ⟨r5,2,none⟩ (sv t28) <|
 deref t28.1 fun a40=>
 chk (0≤(IntKind.wrap .i64 ((Int.tmod (IntKind.wrap .i64 t25) (IntKind.wrap .i64 (((t26.2.1:Nat):Int) +(1:Int)))) - (1:Int)))∧(IntKind.wrap .i64 ((Int.tmod (IntKind.wrap .i64 t25) (IntKind.wrap .i64 (((t26.2.1:Nat):Int) +(1:Int)))) - (1:Int))) < (t28.2.1:Nat)) <|
 T.store ((a40.add (Int.toNat (IntKind.wrap .i64 ((Int.tmod (IntKind.wrap .i64 t25) (IntKind.wrap .i64 (((t26.2.1:Nat):Int) +(1:Int)))) - (1:Int))) * 2)).add 1) (sv t39) <|
 T.out []))
 (T.new (.cells #[(.string (ByteArray.extract {data:= #[97,98,99,100,101] } (Int.toNat z17.1) (Int.toNat (wN z17.1))))] 9 (0,0)) fun r41=>
 T.still ((a30.add (Int.toNat (IntKind.wrap .i64 ((Int.tmod (IntKind.wrap .i64 t25) (IntKind.wrap .i64 (((t26.2.1:Nat):Int) +(1:Int)))) - (1:Int))) * 2)).add 1) (sv t31) <|
 T.still ⟨r5,2,none⟩ (sv t29) <|
 T.still ⟨r5,2,none⟩ (sv t28) <|
 T.new (.cells #[] 9 (0,0)) fun r42=>
 T.still ((a30.add (Int.toNat (IntKind.wrap .i64 ((Int.tmod (IntKind.wrap .i64 t25) (IntKind.wrap .i64 (((t26.2.1:Nat):Int) +(1:Int)))) - (1:Int))) * 2)).add 1) (sv t31) <|
 T.still ⟨r5,2,none⟩ (sv t29) <|
 T.still ⟨r5,2,none⟩ (sv t28) <|
 T.sem (Builtin.append_ #[28,28] 28 #[(.slice (some ⟨r42,0,none⟩) 0 0),(sv t31)]) (.one aS) fun (t43:Slc)=>
 T.still ⟨r5,2,none⟩ (sv t28) <|
 T.sem (Builtin.append_ #[28,28] 28 #[(sv t43),(.slice (some ⟨r41,0,none⟩) 1 1)]) (.one aS) fun (t44:Slc)=>
 T.still ⟨r5,2,none⟩ (sv t28) <|
 deref t28.1 fun a45=>
 chk (0≤(IntKind.wrap .i64 ((Int.tmod (IntKind.wrap .i64 t25) (IntKind.wrap .i64 (((t26.2.1:Nat):Int) +(1:Int)))) - (1:Int)))∧(IntKind.wrap .i64 ((Int.tmod (IntKind.wrap .i64 t25) (IntKind.wrap .i64 (((t26.2.1:Nat):Int) +(1:Int)))) - (1:Int))) < (t28.2.1:Nat)) <|
 T.store ((a45.add (Int.toNat (IntKind.wrap .i64 ((Int.tmod (IntKind.wrap .i64 t25) (IntKind.wrap .i64 (((t26.2.1:Nat):Int) +(1:Int)))) - (1:Int))) * 2)).add 1) (sv t44) <|
 T.out []))
 (T.out [])) fun (z27:Unit)=>
 T.out [])
 (T.out [])) fun (z22:Unit)=>
 T.out [(.int .i64 (wN z17.1))])
 (T.brk 2 [(.int .i64 z17.1)])) fun (z16:Int×Unit)=>
 T.block 4 [aI]
 (T.loop [aI] [(.int .i64 (0:Int))] fun (z47:Int×Unit)=>
 T.load .slice ⟨r1,2,none⟩ fun (t48:Slc)=>
 cond (decide (z47.1< ((t48.2.1:Nat):Int)))
 (T.load .slice ⟨r1,2,none⟩ fun (t49:Slc)=>
 deref t49.1 fun a50=>
 chk (0≤z47.1∧z47.1< (t49.2.1:Nat)) <|
 T.load (.int .u8) (a50.add (Int.toNat z47.1 * 1)) fun (t51:Int)=>
 chk ((IntKind.wrap .i64 ((IntKind.wrap .i64 (Int.tmod t4 (4:Int))) +(1:Int))) ≠ 0) <|
 T.load .slice ⟨r1,2,none⟩ fun (t52:Slc)=>
 deref t52.1 fun a53=>
 chk (0≤z47.1∧z47.1< (t52.2.1:Nat)) <|
 T.load (.int .u8) (a53.add (Int.toNat z47.1 * 1)) fun (t54:Int)=>
 chk ((IntKind.wrap .i64 ((IntKind.wrap .i64 (Int.tmod t4 (4:Int))) +(1:Int))) ≠ 0) <|
 chk (0≤(Int.tmod (IntKind.wrap .i64 t51) (IntKind.wrap .i64 ((IntKind.wrap .i64 (Int.tmod t4 (4:Int))) +(1:Int))))∧(Int.tmod (IntKind.wrap .i64 t51) (IntKind.wrap .i64 ((IntKind.wrap .i64 (Int.tmod t4 (4:Int))) +(1:Int)))) ≤(IntKind.wrap .i64 ((Int.tmod (IntKind.wrap .i64 t54) (IntKind.wrap .i64 ((IntKind.wrap .i64 (Int.tmod t4 (4:Int))) +(1:Int)))) +(1:Int)))∧(IntKind.wrap .i64 ((Int.tmod (IntKind.wrap .i64 t54) (IntKind.wrap .i64 ((IntKind.wrap .i64 (Int.tmod t4 (4:Int))) +(1:Int)))) +(1:Int))) ≤(ByteArray.size {data:= #[83,84,85,86] } :Nat)) <|
 T.new (.cells #[(.string {data:= #[] }),(.slice none 0 0),(.string {data:= #[] }),(.string {data:= #[] })] 172 (0,0)) fun r55=>
 T.still (a53.add (Int.toNat z47.1 * 1)) (.int .u8 t54) <|
 T.still ⟨r1,2,none⟩ (sv t52) <|
 T.still (a50.add (Int.toNat z47.1 * 1)) (.int .u8 t51) <|
 T.still ⟨r1,2,none⟩ (sv t49) <|
 T.store ⟨r55,0,none⟩ (.string (ByteArray.extract {data:= #[83,84,85,86] } (Int.toNat (Int.tmod (IntKind.wrap .i64 t51) (IntKind.wrap .i64 ((IntKind.wrap .i64 (Int.tmod t4 (4:Int))) +(1:Int))))) (Int.toNat (IntKind.wrap .i64 ((Int.tmod (IntKind.wrap .i64 t54) (IntKind.wrap .i64 ((IntKind.wrap .i64 (Int.tmod t4 (4:Int))) +(1:Int)))) +(1:Int)))))) <|
 T.store ⟨r55,1,none⟩ (.slice none 0 0) <|
 T.store ⟨r55,2,none⟩ (.string {data:= #[] }) <|
 T.store ⟨r55,3,none⟩ (.string {data:= #[] }) <|
 T.load .slice ⟨r1,3,none⟩ fun (t56:Slc)=>
 T.join []
 (cond (decide (z47.1< ((t56.2.1:Nat):Int)))
 (T.block 6 [aI]
 (T.loop [aI] [(.int .i64 (0:Int))] fun (z59:Int×Unit)=>
 T.load .slice ⟨r1,3,none⟩ fun (t60:Slc)=>
 deref t60.1 fun a61=>
 chk (0≤z47.1∧z47.1< (t60.2.1:Nat)) <|
 T.load .slice (a61.add (Int.toNat z47.1 * 1)) fun (t62:Slc)=>
 cond (decide (z59.1< ((t62.2.1:Nat):Int)))
 (T.load .slice ⟨r1,3,none⟩ fun (t63:Slc)=>
 deref t63.1 fun a64=>
 chk (0≤z47.1∧z47.1< (t63.2.1:Nat)) <|
 T.load .slice (a64.add (Int.toNat z47.1 * 1)) fun (t65:Slc)=>
 deref t65.1 fun a66=>
 chk (0≤z59.1∧z59.1< (t65.2.1:Nat)) <|
 T.load (.int .u8) (a66.add (Int.toNat z59.1 * 1)) fun (t67:Int)=>
 chk ((IntKind.wrap .i64 ((IntKind.wrap .i64 ((IntKind.wrap .i64 (Int.tmod t3 (5:Int))) +(1:Int))) +(IntKind.wrap .i64 ((IntKind.wrap .i64 (Int.tmod t4 (4:Int))) +(1:Int))))) ≠ 0) <|
 chk ((5:Int) ≠ 0) <|
 chk ((5:Int) ≠ 0) <|
 chk (0≤(Int.tmod (Int.tmod (IntKind.wrap .i64 t67) (IntKind.wrap .i64 ((IntKind.wrap .i64 ((IntKind.wrap .i64 (Int.tmod t3 (5:Int))) +(1:Int))) +(IntKind.wrap .i64 ((IntKind.wrap .i64 (Int.tmod t4 (4:Int))) +(1:Int)))))) (5:Int))∧(Int.tmod (Int.tmod (IntKind.wrap .i64 t67) (IntKind.wrap .i64 ((IntKind.wrap .i64 ((IntKind.wrap .i64 (Int.tmod t3 (5:Int))) +(1:Int))) +(IntKind.wrap .i64 ((IntKind.wrap .i64 (Int.tmod t4 (4:Int))) +(1:Int)))))) (5:Int)) ≤(IntKind.wrap .i64 ((Int.tmod (Int.tmod (IntKind.wrap .i64 t67) (IntKind.wrap .i64 ((IntKind.wrap .i64 ((IntKind.wrap .i64 (Int.tmod t3 (5:Int))) +(1:Int))) +(IntKind.wrap .i64 ((IntKind.wrap .i64 (Int.tmod t4 (4:Int))) +(1:Int)))))) (5:Int)) +(1:Int)))∧(IntKind.wrap .i64 ((Int.tmod (Int.tmod (IntKind.wrap .i64 t67) (IntKind.wrap .i64 ((IntKind.wrap .i64 ((IntKind.wrap .i64 (Int.tmod t3 (5:Int))) +(1:Int))) +(IntKind.wrap .i64 ((IntKind.wrap .i64 (Int.tmod t4 (4:Int))) +(1:Int)))))) (5:Int)) +(1:Int))) ≤(ByteArray.size {data:= #[97,98,99,100,101] } :Nat)) <|
 T.join [(.atom .string)]
 (cond (decide ((Int.tmod (IntKind.wrap .i64 t67) (IntKind.wrap .i64 ((IntKind.wrap .i64 ((IntKind.wrap .i64 (Int.tmod t3 (5:Int))) +(1:Int))) +(IntKind.wrap .i64 ((IntKind.wrap .i64 (Int.tmod t4 (4:Int))) +(1:Int)))))) ≥ (IntKind.wrap .i64 ((IntKind.wrap .i64 (Int.tmod t3 (5:Int))) +(1:Int)))))
 (chk (0≤(IntKind.wrap .i64 ((Int.tmod (IntKind.wrap .i64 t67) (IntKind.wrap .i64 ((IntKind.wrap .i64 ((IntKind.wrap .i64 (Int.tmod t3 (5:Int))) +(1:Int))) +(IntKind.wrap .i64 ((IntKind.wrap .i64 (Int.tmod t4 (4:Int))) +(1:Int)))))) - (IntKind.wrap .i64 ((IntKind.wrap .i64 (Int.tmod t3 (5:Int))) +(1:Int)))))∧(IntKind.wrap .i64 ((Int.tmod (IntKind.wrap .i64 t67) (IntKind.wrap .i64 ((IntKind.wrap .i64 ((IntKind.wrap .i64 (Int.tmod t3 (5:Int))) +(1:Int))) +(IntKind.wrap .i64 ((IntKind.wrap .i64 (Int.tmod t4 (4:Int))) +(1:Int)))))) - (IntKind.wrap .i64 ((IntKind.wrap .i64 (Int.tmod t3 (5:Int))) +(1:Int))))) ≤(IntKind.wrap .i64 ((IntKind.wrap .i64 ((Int.tmod (IntKind.wrap .i64 t67) (IntKind.wrap .i64 ((IntKind.wrap .i64 ((IntKind.wrap .i64 (Int.tmod t3 (5:Int))) +(1:Int))) +(IntKind.wrap .i64 ((IntKind.wrap .i64 (Int.tmod t4 (4:Int))) +(1:Int)))))) - (IntKind.wrap .i64 ((IntKind.wrap .i64 (Int.tmod t3 (5:Int))) +(1:Int))))) +(1:Int)))∧(IntKind.wrap .i64 ((IntKind.wrap .i64 ((Int.tmod (IntKind.wrap .i64 t67) (IntKind.wrap .i64 ((IntKind.wrap .i64 ((IntKind.wrap .i64 (Int.tmod t3 (5:Int))) +(1:Int))) +(IntKind.wrap .i64 ((IntKind.wrap .i64 (Int.tmod t4 (4:Int))) +(1:Int)))))) - (IntKind.wrap .i64 ((IntKind.wrap .i64 (Int.tmod t3 (5:Int))) +(1:Int))))) +(1:Int))) ≤(ByteArray.size {data:= #[83,84,85,86] } :Nat)) <|
 T.out [(.string (ByteArray.extract {data:= #[83,84,85,86] } (Int.toNat (IntKind.wrap .i64 ((Int.tmod (IntKind.wrap .i64 t67) (IntKind.wrap .i64 ((IntKind.wrap .i64 ((IntKind.wrap .i64 (Int.tmod t3 (5:Int))) +(1:Int))) +(IntKind.wrap .i64 ((IntKind.wrap .i64 (Int.tmod t4 (4:Int))) +(1:Int)))))) - (IntKind.wrap .i64 ((IntKind.wrap .i64 (Int.tmod t3 (5:Int))) +(1:Int)))))) (Int.toNat (IntKind.wrap .i64 ((IntKind.wrap .i64 ((Int.tmod (IntKind.wrap .i64 t67) (IntKind.wrap .i64 ((IntKind.wrap .i64 ((IntKind.wrap .i64 (Int.tmod t3 (5:Int))) +(1:Int))) +(IntKind.wrap .i64 ((IntKind.wrap .i64 (Int.tmod t4 (4:Int))) +(1:Int)))))) - (IntKind.wrap .i64 ((IntKind.wrap .i64 (Int.tmod t3 (5:Int))) +(1:Int))))) +(1:Int))))))])
 (T.out [(.string (ByteArray.extract {data:= #[97,98,99,100,101] } (Int.toNat (Int.tmod (Int.tmod (IntKind.wrap .i64 t67) (IntKind.wrap .i64 ((IntKind.wrap .i64 ((IntKind.wrap .i64 (Int.tmod t3 (5:Int))) +(1:Int))) +(IntKind.wrap .i64 ((IntKind.wrap .i64 (Int.tmod t4 (4:Int))) +(1:Int)))))) (5:Int))) (Int.toNat (IntKind.wrap .i64 ((Int.tmod (Int.tmod (IntKind.wrap .i64 t67) (IntKind.wrap .i64 ((IntKind.wrap .i64 ((IntKind.wrap .i64 (Int.tmod t3 (5:Int))) +(1:Int))) +(IntKind.wrap .i64 ((IntKind.wrap .i64 (Int.tmod t4 (4:Int))) +(1:Int)))))) (5:Int)) +(1:Int))))))])) fun (z68:ByteArray×Unit)=>
 T.load .slice ⟨r55,1,none⟩ fun (t69:Slc)=>
 T.new (.cells #[(.string z68.1)] 9 (0,0)) fun r70=>
 T.sem (Builtin.append_ #[28,28] 28 #[(sv t69),(.slice (some ⟨r70,0,none⟩) 1 1)]) (.one aS) fun (t71:Slc)=>
 T.store ⟨r55,1,none⟩ (sv t71) <|
 T.out [(.int .i64 (wN z59.1))])
 (T.brk 6 [(.int .i64 z59.1)])) fun (z58:Int×Unit)=>
 T.out [])
 (T.out [])) fun (z57:Unit)=>
 T.load .slice ⟨r1,4,none⟩ fun (t72:Slc)=>
 T.join []
 (cond (decide (z47.1< ((t72.2.1:Nat):Int)))
 (T.load .slice ⟨r1,4,none⟩ fun (t74:Slc)=>
 deref t74.1 fun a75=>
 chk (0≤z47.1∧z47.1< (t74.2.1:Nat)) <|
 T.load (.int .u8) (a75.add (Int.toNat z47.1 * 1)) fun (t76:Int)=>
 T.load .slice ⟨r5,2,none⟩ fun (t77:Slc)=>
 chk ((IntKind.wrap .i64 (((t77.2.1:Nat):Int) +(1:Int))) ≠ 0) <|
 T.join []
 (cond (decide ((Int.tmod (IntKind.wrap .i64 t76) (IntKind.wrap .i64 (((t77.2.1:Nat):Int) +(1:Int)))) >(0:Int)))
 (chk (0≤(IntKind.wrap .i64 ((Int.tmod (IntKind.wrap .i64 t76) (IntKind.wrap .i64 (((t77.2.1:Nat):Int) +(1:Int)))) - (1:Int)))∧(IntKind.wrap .i64 ((Int.tmod (IntKind.wrap .i64 t76) (IntKind.wrap .i64 (((t77.2.1:Nat):Int) +(1:Int)))) - (1:Int))) ≤(Int.tmod (IntKind.wrap .i64 t76) (IntKind.wrap .i64 (((t77.2.1:Nat):Int) +(1:Int))))∧(Int.tmod (IntKind.wrap .i64 t76) (IntKind.wrap .i64 (((t77.2.1:Nat):Int) +(1:Int)))) ≤(ByteArray.size {data:= #[112,113,114,115,116] } :Nat)) <|
 T.store ⟨r55,2,none⟩ (.string (ByteArray.extract {data:= #[112,113,114,115,116] } (Int.toNat (IntKind.wrap .i64 ((Int.tmod (IntKind.wrap .i64 t76) (IntKind.wrap .i64 (((t77.2.1:Nat):Int) +(1:Int)))) - (1:Int)))) (Int.toNat (Int.tmod (IntKind.wrap .i64 t76) (IntKind.wrap .i64 (((t77.2.1:Nat):Int) +(1:Int))))))) <|
 T.out [])
 (T.out [])) fun (z78:Unit)=>
 T.out [])
 (T.out [])) fun (z73:Unit)=>
 T.load .slice ⟨r5,4,none⟩ fun (t79:Slc)=>
 T.load .string ⟨r55,0,none⟩ fun (t80:ByteArray)=>
 T.load .slice ⟨r55,1,none⟩ fun (t81:Slc)=>
 T.load .string ⟨r55,2,none⟩ fun (t82:ByteArray)=>
 T.load .string ⟨r55,3,none⟩ fun (t83:ByteArray)=>
 T.new (.cells #[(.string t80),(sv t81),(.string t82),(.string t83)] 172 (0,0)) fun r84=>
 T.sem (Builtin.append_ #[105,105] 105 #[(sv t79),(.slice (some ⟨r84,0,none⟩) 1 1)]) (.one aS) fun (t85:Slc)=>
 T.store ⟨r5,4,none⟩ (sv t85) <|
 T.out [(.int .i64 (wN z47.1))])
 (T.brk 4 [(.int .i64 z47.1)])) fun (z46:Int×Unit)=>
 T.block 8 [aI]
 (T.loop [aI] [(.int .i64 (0:Int))] fun (z87:Int×Unit)=>
 cond (decide (z87.1< (IntKind.wrap .i64 ((IntKind.wrap .i64 (Int.tmod t4 (4:Int))) +(1:Int)))))
 (chk (0≤z87.1∧z87.1≤(wN z87.1)∧(wN z87.1) ≤(ByteArray.size {data:= #[83,84,85,86] } :Nat)) <|
 T.block 10 [aI,aB]
 (T.loop [aI,aB] [(.int .i64 (0:Int)),(.bool false)] fun (z89:Int×Bool×Unit)=>
 T.load .slice ⟨r5,4,none⟩ fun (t90:Slc)=>
 cond (decide (z89.1< ((t90.2.1:Nat):Int)))
 (T.join [aB]
 (cond z89.2.1
 (T.out [(.bool true)])
 (T.load .slice ⟨r5,4,none⟩ fun (t92:Slc)=>
 deref t92.1 fun a93=>
 chk (0≤z89.1∧z89.1< (t92.2.1:Nat)) <|
 T.load .string (a93.add (Int.toNat z89.1 * 4)) fun (t94:ByteArray)=>
 T.out [(.bool (ByteArray.toList t94==ByteArray.toList (ByteArray.extract {data:= #[83,84,85,86] } (Int.toNat z87.1) (Int.toNat (wN z87.1)))))])) fun (z91:Bool×Unit)=>
 T.out [(.int .i64 (wN z89.1)),(.bool z91.1)])
 (T.brk 10 [(.int .i64 z89.1),(.bool z89.2.1)])) fun (z88:Int×Bool×Unit)=>
 T.join []
 (cond (!z88.2.1)
 (T.load .slice ⟨r5,4,none⟩ fun (t96:Slc)=>
 T.new (.cells #[(.string (ByteArray.extract {data:= #[83,84,85,86] } (Int.toNat z87.1) (Int.toNat (wN z87.1)))),(.slice none 0 0),(.string {data:= #[] }),(.string {data:= #[] })] 172 (0,0)) fun r97=>
 T.sem (Builtin.append_ #[105,105] 105 #[(sv t96),(.slice (some ⟨r97,0,none⟩) 1 1)]) (.one aS) fun (t98:Slc)=>
 T.store ⟨r5,4,none⟩ (sv t98) <|
 T.out [])
 (T.out [])) fun (z95:Unit)=>
 T.out [(.int .i64 (wN z87.1))])
 (T.brk 8 [(.int .i64 z87.1)])) fun (z86:Int×Unit)=>
 T.load .slice ⟨r5,0,none⟩ fun (t99:Slc)=>
 T.load .slice ⟨r5,1,none⟩ fun (t100:Slc)=>
 T.load .slice ⟨r5,2,none⟩ fun (t101:Slc)=>
 T.load .string ⟨r5,3,none⟩ fun (t102:ByteArray)=>
 T.load .slice ⟨r5,4,none⟩ fun (t103:Slc)=>
 T.store ⟨r2,0,none⟩ (sv t99) <|
 T.store ⟨r2,1,none⟩ (sv t100) <|
 T.store ⟨r2,2,none⟩ (sv t101) <|
 T.store ⟨r2,3,none⟩ (.string t102) <|
 T.store ⟨r2,4,none⟩ (sv t103) <|
 T.load .slice ⟨r2,0,none⟩ fun (res104:Slc)=>
 T.load .slice ⟨r2,1,none⟩ fun (res105:Slc)=>
 T.load .slice ⟨r2,2,none⟩ fun (res106:Slc)=>
 T.load .string ⟨r2,3,none⟩ fun (res107:ByteArray)=>
 T.load .slice ⟨r2,4,none⟩ fun (res108:Slc)=>
 T.ret (.agg #[(sv res104),(sv res105),(sv res106),(.string res107),(sv res108)])
theorem Ex (s_0:Int×Int×Slc×Slc×Slc×Slc×Slc×Unit):Ab Tryz.prog Tryz.f56 [(.agg #[(.int .u8 s_0.1),(.int .u8 s_0.2.1),(sv s_0.2.2.1),(sv s_0.2.2.2.1),(sv s_0.2.2.2.2.1),(sv s_0.2.2.2.2.2.1),(sv s_0.2.2.2.2.2.2.1)])] =DB s_0:=by kernel_rfl
noncomputable def Lw (limit_0:Int):T:=
 T.call 124 [(.int .i64 limit_0)] (.one aI) fun (t1:Int)=>
 T.new (.cells #[(.int .i64 t1),(.int .i64 (0:Int)),(.int .i64 (0:Int))] 211 (0,0)) fun r2=>
 T.ret (.pointer (some ⟨r2,0,none⟩))
theorem NH (limit_0:Int):Ab Tryz.prog Tryz.f98 [(.int .i64 limit_0)] =Lw limit_0:=by kernel_rfl
noncomputable def HC (kernel_0_p:Option Addr) (kernel_0_n kernel_0_c:Nat) (from_1:Int) (with_2:Int) (c_3:Nat) (c_4:Nat) (c_5:Nat) (c_6:Nat):T:=
 T.load .map ⟨c_3,0,none⟩ fun (t1:Option Nat)=>
 T.call 100 [(.slice kernel_0_p kernel_0_n kernel_0_c)] (.one (.atom .string)) fun (t2:ByteArray)=>
 T.still ⟨c_3,0,none⟩ (.map t1) <|
 T.sem (Instr.lookup 185 (.map t1) (.string t2) true) (.tuple [aI,aB]) fun (t3:Int×Bool×Unit)=>
 cond t3.2.1
 (T.ret (.tuple #[(.int .i64 t3.1),(.int .i64 (0:Int))]))
 (T.load .pointer ⟨c_4,0,none⟩ fun (t4:Option Addr)=>
 T.call 101 [(.pointer t4),(.slice kernel_0_p kernel_0_n kernel_0_c)] (.one aS) fun (t5:Slc)=>
 T.new (.cells #[(.slice none 0 0),(.slice none 0 0),(.slice none 0 0),(.int .i64 (0:Int)),(.int .i64 (0:Int))] 150 (0,0)) fun r6=>
 T.store ⟨r6,0,none⟩ (.slice kernel_0_p kernel_0_n kernel_0_c) <|
 T.store ⟨r6,1,none⟩ (sv t5) <|
 T.store ⟨r6,2,none⟩ (.slice none 0 0) <|
 T.store ⟨r6,3,none⟩ (.int .i64 from_1) <|
 T.store ⟨r6,4,none⟩ (.int .i64 with_2) <|
 T.load .pointer ⟨c_5,0,none⟩ fun (t7:Option Addr)=>
 T.call 102 [(.pointer t7),(.int .i64 (1:Int))] (.one aI) fun (t8:Int)=>
 T.join [aI]
 (cond (t8==(0:Int))
 (T.load .pointer ⟨c_6,0,none⟩ fun (t10:Option Addr)=>
 T.load .slice ⟨r6,1,none⟩ fun (t11:Slc)=>
 T.call 102 [(.pointer t10),(.int .i64 ((t11.2.1:Nat):Int))] (.one aI) fun (t12:Int)=>
 T.out [(.int .i64 t12)])
 (T.out [(.int .i64 t8)])) fun (z9:Int×Unit)=>
 T.load .map ⟨c_3,0,none⟩ fun (t13:Option Nat)=>
 T.load .pointer ⟨c_4,0,none⟩ fun (t14:Option Addr)=>
 deref t14 fun a15=>
 T.load .slice (a15.add 6) fun (t16:Slc)=>
 T.call 100 [(.slice kernel_0_p kernel_0_n kernel_0_c)] (.one (.atom .string)) fun (t17:ByteArray)=>
 T.still (a15.add 6) (sv t16) <|
 T.still ⟨c_4,0,none⟩ (.pointer t14) <|
 T.still ⟨c_3,0,none⟩ (.map t13) <|
 T.sem (Sem.bind (Instr.mapUpdate 185 (.map t13) (.string t17) (.int .i64 ((t16.2.1:Nat):Int))) fun _=> .pure undef) (.tuple []) fun (u18:Unit)=>
 T.load .pointer ⟨c_4,0,none⟩ fun (t19:Option Addr)=>
 T.load .pointer ⟨c_4,0,none⟩ fun (t20:Option Addr)=>
 deref t20 fun a21=>
 T.load .slice (a21.add 6) fun (t22:Slc)=>
 T.load .slice ⟨r6,0,none⟩ fun (t23:Slc)=>
 T.load .slice ⟨r6,1,none⟩ fun (t24:Slc)=>
 T.load .slice ⟨r6,2,none⟩ fun (t25:Slc)=>
 T.load (.int .i64) ⟨r6,3,none⟩ fun (t26:Int)=>
 T.load (.int .i64) ⟨r6,4,none⟩ fun (t27:Int)=>
 T.new (.cells #[(sv t23),(sv t24),(sv t25),(.int .i64 t26),(.int .i64 t27)] 150 (0,0)) fun r28=>
 T.still (a21.add 6) (sv t22) <|
 T.still ⟨c_4,0,none⟩ (.pointer t20) <|
 T.still ⟨c_4,0,none⟩ (.pointer t19) <|
 T.sem (Builtin.append_ #[129,129] 129 #[(sv t22),(.slice (some ⟨r28,0,none⟩) 1 1)]) (.one aS) fun (t29:Slc)=>
 T.still ⟨c_4,0,none⟩ (.pointer t19) <|
 deref t19 fun a30=>
 T.store (a30.add 6) (sv t29) <|
 T.load .pointer ⟨c_4,0,none⟩ fun (t31:Option Addr)=>
 deref t31 fun a32=>
 T.load .slice (a32.add 6) fun (t33:Slc)=>
 T.ret (.tuple #[(.int .i64 (IntKind.wrap .i64 (((t33.2.1:Nat):Int) - (1:Int)))),(.int .i64 z9.1)]))
theorem KT (kernel_0_p:Option Addr) (kernel_0_n kernel_0_c:Nat) (from_1:Int) (with_2:Int) (c_3:Nat) (c_4:Nat) (c_5:Nat) (c_6:Nat):Ab Tryz.prog Tryz.f99 [(.slice kernel_0_p kernel_0_n kernel_0_c),(.int .i64 from_1),(.int .i64 with_2),(.pointer (some ⟨c_3,0,none⟩)),(.pointer (some ⟨c_4,0,none⟩)),(.pointer (some ⟨c_5,0,none⟩)),(.pointer (some ⟨c_6,0,none⟩))] =HC kernel_0_p kernel_0_n kernel_0_c from_1 with_2 c_3 c_4 c_5 c_6:=by kernel_rfl
noncomputable def Km (kernel_0_p:Option Addr) (kernel_0_n kernel_0_c:Nat):T:=
 T.block 0 [aI,aS]
 (T.loop [aI,aS] [(.int .i64 (0:Int)),(.slice none 0 0)] fun (z2:Int×Slc×Unit)=>
 cond (decide (z2.1< ((kernel_0_n:Nat):Int)))
 (deref kernel_0_p fun a3=>
 chk (0≤z2.1∧z2.1< (kernel_0_n:Nat)) <|
 T.load (.int .i64) (a3.add (Int.toNat z2.1 * 2)) fun (t4:Int)=>
 T.load (.int .i64) ((a3.add (Int.toNat z2.1 * 2)).add 1) fun (t5:Int)=>
 T.new (.cells #[(.int .i64 (0:Int)),(.int .i64 (0:Int))] 70 (0,0)) fun r6=>
 T.store ⟨r6,0,none⟩ (.int .i64 t4) <|
 T.store ⟨r6,1,none⟩ (.int .i64 t5) <|
 T.load (.int .i64) ⟨r6,0,none⟩ fun (t7:Int)=>
 T.call 125 [(sv z2.2.1),(.int .i64 t7),(.int .i64 (10:Int))] (.one aS) fun (t8:Slc)=>
 T.new (.cells #[(.int .u8 (46:Int))] 5 (0,0)) fun r9=>
 T.sem (Builtin.append_ #[22,22] 22 #[(sv t8),(.slice (some ⟨r9,0,none⟩) 1 1)]) (.one aS) fun (t10:Slc)=>
 T.load (.int .i64) ⟨r6,1,none⟩ fun (t11:Int)=>
 T.call 125 [(sv t10),(.int .i64 t11),(.int .i64 (10:Int))] (.one aS) fun (t12:Slc)=>
 T.new (.cells #[(.int .u8 (32:Int))] 5 (0,0)) fun r13=>
 T.sem (Builtin.append_ #[22,22] 22 #[(sv t12),(.slice (some ⟨r13,0,none⟩) 1 1)]) (.one aS) fun (t14:Slc)=>
 T.out [(.int .i64 (wN z2.1)),(sv t14)])
 (T.brk 0 [(.int .i64 z2.1),(sv z2.2.1)])) fun (z1:Int×Slc×Unit)=>
 T.sem (convert 22 9 (sv z1.2.1)) (.one (.atom .string)) fun (t15:ByteArray)=>
 T.ret (.string t15)
theorem MU (kernel_0_p:Option Addr) (kernel_0_n kernel_0_c:Nat):Ab Tryz.prog Tryz.f100 [(.slice kernel_0_p kernel_0_n kernel_0_c)] =Km kernel_0_p kernel_0_n kernel_0_c:=by kernel_rfl
noncomputable def GB (m_0:Option Addr) (n_1:Int):T:=
 cond (decide (n_1< (0:Int)))
 (T.ret (.int .i64 (1:Int)))
 (T.call 129 [(.pointer m_0)] (.one aI) fun (t1:Int)=>
 cond (decide (n_1>t1))
 (T.ret (.int .i64 (5:Int)))
 (deref m_0 fun a2=>
 T.load (.int .i64) (a2.add 1) fun (t3:Int)=>
 deref m_0 fun a4=>
 T.store (a4.add 1) (.int .i64 (IntKind.wrap .i64 (t3+n_1))) <|
 deref m_0 fun a5=>
 T.load (.int .i64) (a5.add 2) fun (t6:Int)=>
 deref m_0 fun a7=>
 T.load (.int .i64) (a7.add 1) fun (t8:Int)=>
 deref m_0 fun a9=>
 T.store (a9.add 2) (.int .i64 (if t8>t6 then t8 else t6)) <|
 T.ret (.int .i64 (0:Int))))
theorem Ix (m_0:Option Addr) (n_1:Int):Ab Tryz.prog Tryz.f102 [(.pointer m_0),(.int .i64 n_1)] =GB m_0 n_1:=by kernel_rfl
noncomputable def GC (m_0:Option Addr):T:=
 deref m_0 fun a1=>
 T.load (.int .i64) (a1.add 1) fun (t2:Int)=>
 T.ret (.int .i64 t2)
theorem Iy (m_0:Option Addr):Ab Tryz.prog Tryz.f105 [(.pointer m_0)] =GC m_0:=by kernel_rfl
noncomputable def GD (m_0:Option Addr):T:=
 deref m_0 fun a1=>
 T.load (.int .i64) a1 fun (t2:Int)=>
 deref m_0 fun a3=>
 T.load (.int .i64) (a3.add 1) fun (t4:Int)=>
 T.ret (.int .i64 (IntKind.wrap .i64 (t2 - t4)))
theorem Iz (m_0:Option Addr):Ab Tryz.prog Tryz.f129 [(.pointer m_0)] =GD m_0:=by kernel_rfl
noncomputable def Kn (n_0:Int):T:=
 T.ret (.int .i64 (if (if (1099511627776:Int) <n_0 then (1099511627776:Int) else n_0) >(0:Int) then (if (1099511627776:Int) <n_0 then (1099511627776:Int) else n_0) else (0:Int)))
theorem MV (n_0:Int):Ab Tryz.prog Tryz.f124 [(.int .i64 n_0)] =Kn n_0:=by kernel_rfl
noncomputable def FF (g_0:Slc×Slc×Slc×ByteArray×Slc×Unit):T:=
 T.new (.cells #[(sv g_0.1),(sv g_0.2.1),(sv g_0.2.2.1),(.string g_0.2.2.2.1),(sv g_0.2.2.2.2.1)] 107 (0,0)) fun r1=>
 T.join [aB]
 (T.load .slice ⟨r1,0,none⟩ fun (t3:Slc)=>
 cond (decide (((t3.2.1:Nat):Int) >(20:Int)))
 (T.out [(.bool true)])
 (T.load .slice ⟨r1,1,none⟩ fun (t4:Slc)=>
 cond (decide (((t4.2.1:Nat):Int) >(4:Int)))
 (T.out [(.bool true)])
 (T.load .slice ⟨r1,2,none⟩ fun (t5:Slc)=>
 cond (decide (((t5.2.1:Nat):Int) >(10:Int)))
 (T.out [(.bool true)])
 (T.load .slice ⟨r1,4,none⟩ fun (t6:Slc)=>
 cond (decide (((t6.2.1:Nat):Int) < (1:Int)))
 (T.out [(.bool true)])
 (T.load .slice ⟨r1,4,none⟩ fun (t7:Slc)=>
 cond (decide (((t7.2.1:Nat):Int) >(40:Int)))
 (T.out [(.bool true)])
 (T.load .string ⟨r1,3,none⟩ fun (t8:ByteArray)=>
 T.call 120 [(.string t8)] (.one aB) fun (t9:Bool)=>
 T.out [(.bool (!t9))])))))) fun (z2:Bool×Unit)=>
 cond z2.1
 (T.ret (.bool false))
 (T.block 0 [aI,aS,aB]
 (T.loop [aI,aS,aB] [(.int .i64 (0:Int)),(.slice none 0 0),(.bool false)] fun (z11:Int×Slc×Bool×Unit)=>
 T.load .slice ⟨r1,0,none⟩ fun (t12:Slc)=>
 cond (decide (z11.1< ((t12.2.1:Nat):Int)))
 (T.load .slice ⟨r1,0,none⟩ fun (t13:Slc)=>
 deref t13.1 fun a14=>
 chk (0≤z11.1∧z11.1< (t13.2.1:Nat)) <|
 T.load .string (a14.add (Int.toNat z11.1 * 4)) fun (t15:ByteArray)=>
 T.new (.cells #[(.string t15)] 9 (0,0)) fun r16=>
 T.sem (Builtin.append_ #[28,28] 28 #[(sv z11.2.1),(.slice (some ⟨r16,0,none⟩) 1 1)]) (.one aS) fun (t17:Slc)=>
 T.load .slice ⟨r1,0,none⟩ fun (t18:Slc)=>
 deref t18.1 fun a19=>
 chk (0≤z11.1∧z11.1< (t18.2.1:Nat)) <|
 T.load .string ((a19.add (Int.toNat z11.1 * 4)).add 1) fun (t20:ByteArray)=>
 T.load .string (((a19.add (Int.toNat z11.1 * 4)).add 1).add 1) fun (t21:ByteArray)=>
 T.load .bool (((a19.add (Int.toNat z11.1 * 4)).add 1).add 2) fun (t22:Bool)=>
 T.call 121 [(.agg #[(.string t20),(.string t21),(.bool t22)])] (.one aB) fun (t23:Bool)=>
 cond (!t23)
 (T.ret (.bool false))
 (T.out [(.int .i64 (wN z11.1)),(sv t17),(.bool z11.2.2.1)]))
 (T.brk 0 [(.int .i64 z11.1),(sv z11.2.1),(.bool z11.2.2.1)])) fun (z10:Int×Slc×Bool×Unit)=>
 T.block 2 [aI,aB]
 (T.loop [aI,aB] [(.int .i64 (0:Int)),(.bool z10.2.2.1)] fun (z25:Int×Bool×Unit)=>
 T.load .slice ⟨r1,1,none⟩ fun (t26:Slc)=>
 cond (decide (z25.1< ((t26.2.1:Nat):Int)))
 (T.load .slice ⟨r1,1,none⟩ fun (t27:Slc)=>
 deref t27.1 fun a28=>
 chk (0≤z25.1∧z25.1< (t27.2.1:Nat)) <|
 T.load .string (a28.add (Int.toNat z25.1 * 3)) fun (t29:ByteArray)=>
 T.load .string ((a28.add (Int.toNat z25.1 * 3)).add 1) fun (t30:ByteArray)=>
 T.load .bool ((a28.add (Int.toNat z25.1 * 3)).add 2) fun (t31:Bool)=>
 T.call 121 [(.agg #[(.string t29),(.string t30),(.bool t31)])] (.one aB) fun (t32:Bool)=>
 cond (!t32)
 (T.ret (.bool false))
 (T.out [(.int .i64 (wN z25.1)),(.bool z25.2.1)]))
 (T.brk 2 [(.int .i64 z25.1),(.bool z25.2.1)])) fun (z24:Int×Bool×Unit)=>
 T.block 4 [aI,aS,aB]
 (T.loop [aI,aS,aB] [(.int .i64 (0:Int)),(.slice none 0 0),(.bool z24.2.1)] fun (z34:Int×Slc×Bool×Unit)=>
 T.load .slice ⟨r1,2,none⟩ fun (t35:Slc)=>
 cond (decide (z34.1< ((t35.2.1:Nat):Int)))
 (T.load .slice ⟨r1,2,none⟩ fun (t36:Slc)=>
 deref t36.1 fun a37=>
 chk (0≤z34.1∧z34.1< (t36.2.1:Nat)) <|
 T.load (.int .i64) (a37.add (Int.toNat z34.1 * 2)) fun (t38:Int)=>
 T.load .slice ((a37.add (Int.toNat z34.1 * 2)).add 1) fun (t39:Slc)=>
 T.new (.cells #[(.int .i64 (0:Int)),(.slice none 0 0)] 179 (0,0)) fun r40=>
 T.store ⟨r40,0,none⟩ (.int .i64 t38) <|
 T.store ⟨r40,1,none⟩ (sv t39) <|
 T.load .slice ⟨r40,1,none⟩ fun (t41:Slc)=>
 T.sem (Builtin.append_ #[28,28] 28 #[(sv z34.2.1),(sv t41)]) (.one aS) fun (t42:Slc)=>
 T.join [aB]
 (T.load (.int .i64) ⟨r40,0,none⟩ fun (t44:Int)=>
 cond (decide (t44< (1:Int)))
 (T.out [(.bool true)])
 (T.load (.int .i64) ⟨r40,0,none⟩ fun (t45:Int)=>
 cond (decide (t45>(3:Int)))
 (T.out [(.bool true)])
 (T.load .slice ⟨r40,1,none⟩ fun (t46:Slc)=>
 T.out [(.bool (((t46.2.1:Nat):Int)==(0:Int)))]))) fun (z43:Bool×Unit)=>
 cond z43.1
 (T.ret (.bool false))
 (T.out [(.int .i64 (wN z34.1)),(sv t42),(.bool z34.2.2.1)]))
 (T.brk 4 [(.int .i64 z34.1),(sv z34.2.1),(.bool z34.2.2.1)])) fun (z33:Int×Slc×Bool×Unit)=>
 T.block 6 [aI,aB]
 (T.loop [aI,aB] [(.int .i64 (0:Int)),(.bool z33.2.2.1)] fun (z48:Int×Bool×Unit)=>
 T.load .slice ⟨r1,4,none⟩ fun (t49:Slc)=>
 cond (decide (z48.1< ((t49.2.1:Nat):Int)))
 (T.load .slice ⟨r1,4,none⟩ fun (t50:Slc)=>
 deref t50.1 fun a51=>
 chk (0≤z48.1∧z48.1< (t50.2.1:Nat)) <|
 T.load .string (a51.add (Int.toNat z48.1 * 4)) fun (t52:ByteArray)=>
 T.load .slice ((a51.add (Int.toNat z48.1 * 4)).add 1) fun (t53:Slc)=>
 T.load .string ((a51.add (Int.toNat z48.1 * 4)).add 2) fun (t54:ByteArray)=>
 T.load .string ((a51.add (Int.toNat z48.1 * 4)).add 3) fun (t55:ByteArray)=>
 T.new (.cells #[(.string {data:= #[] }),(.slice none 0 0),(.string {data:= #[] }),(.string {data:= #[] })] 172 (0,0)) fun r56=>
 T.store ⟨r56,0,none⟩ (.string t52) <|
 T.store ⟨r56,1,none⟩ (sv t53) <|
 T.store ⟨r56,2,none⟩ (.string t54) <|
 T.store ⟨r56,3,none⟩ (.string t55) <|
 T.join [aB]
 (T.load .string ⟨r56,0,none⟩ fun (t58:ByteArray)=>
 T.call 120 [(.string t58)] (.one aB) fun (t59:Bool)=>
 cond (!t59)
 (T.out [(.bool true)])
 (T.load .slice ⟨r56,1,none⟩ fun (t60:Slc)=>
 cond (decide (((t60.2.1:Nat):Int) >(8:Int)))
 (T.out [(.bool true)])
 (T.load .string ⟨r56,2,none⟩ fun (t61:ByteArray)=>
 cond (!(ByteArray.toList t61==ByteArray.toList {data:= #[] }))
 (T.load .string ⟨r56,2,none⟩ fun (t62:ByteArray)=>
 T.call 120 [(.string t62)] (.one aB) fun (t63:Bool)=>
 cond (!t63)
 (T.out [(.bool true)])
 (T.load .string ⟨r56,3,none⟩ fun (t64:ByteArray)=>
 T.call 122 [(.string t64)] (.one aB) fun (t65:Bool)=>
 T.out [(.bool (!t65))]))
 (T.load .string ⟨r56,3,none⟩ fun (t66:ByteArray)=>
 T.call 122 [(.string t66)] (.one aB) fun (t67:Bool)=>
 T.out [(.bool (!t67))])))) fun (z57:Bool×Unit)=>
 cond z57.1
 (T.ret (.bool false))
 (T.block 8 [aI,aB]
 (T.loop [aI,aB] [(.int .i64 (0:Int)),(.bool z48.2.1)] fun (z69:Int×Bool×Unit)=>
 T.load .slice ⟨r56,1,none⟩ fun (t70:Slc)=>
 cond (decide (z69.1< ((t70.2.1:Nat):Int)))
 (T.load .slice ⟨r56,1,none⟩ fun (t71:Slc)=>
 deref t71.1 fun a72=>
 chk (0≤z69.1∧z69.1< (t71.2.1:Nat)) <|
 T.load .string (a72.add (Int.toNat z69.1 * 1)) fun (t73:ByteArray)=>
 T.call 120 [(.string t73)] (.one aB) fun (t74:Bool)=>
 cond (!t74)
 (T.ret (.bool false))
 (T.out [(.int .i64 (wN z69.1)),(.bool z69.2.1)]))
 (T.brk 8 [(.int .i64 z69.1),(.bool z69.2.1)])) fun (z68:Int×Bool×Unit)=>
 T.out [(.int .i64 (wN z48.1)),(.bool z68.2.1)]))
 (T.brk 6 [(.int .i64 z48.1),(.bool z48.2.1)])) fun (z47:Int×Bool×Unit)=>
 T.join [aB]
 (T.call 123 [(sv z10.2.1)] (.one aB) fun (t76:Bool)=>
 cond t76
 (T.call 123 [(sv z33.2.1)] (.one aB) fun (t77:Bool)=>
 T.out [(.bool t77)])
 (T.out [(.bool false)])) fun (z75:Bool×Unit)=>
 T.ret (.bool z75.1))
theorem Hg (g_0:Slc×Slc×Slc×ByteArray×Slc×Unit):Ab Tryz.prog Tryz.f92 [(.agg #[(sv g_0.1),(sv g_0.2.1),(sv g_0.2.2.1),(.string g_0.2.2.2.1),(sv g_0.2.2.2.2.1)])] =FF g_0:=by kernel_rfl
noncomputable def DU (l_0_p:Option Addr) (l_0_n l_0_c:Nat) (s_1:ByteArray):T:=
 T.block 0 [aI,aI]
 (T.loop [aI,aI] [(.int .i64 (0:Int)),(.int .i64 (0:Int))] fun (z2:Int×Int×Unit)=>
 cond (decide (z2.1< ((l_0_n:Nat):Int)))
 (deref l_0_p fun a3=>
 chk (0≤z2.1∧z2.1< (l_0_n:Nat)) <|
 T.load .string (a3.add (Int.toNat z2.1 * 1)) fun (t4:ByteArray)=>
 cond (ByteArray.toList t4==ByteArray.toList s_1)
 (T.ret (.int .i64 z2.1))
 (T.out [(.int .i64 (wN z2.1)),(.int .i64 z2.2.1)]))
 (T.brk 0 [(.int .i64 z2.1),(.int .i64 z2.2.1)])) fun (z1:Int×Int×Unit)=>
 T.ret (.int .i64 (-1:Int))
theorem EV (l_0_p:Option Addr) (l_0_n l_0_c:Nat) (s_1:ByteArray):Ab Tryz.prog Tryz.f93 [(.slice l_0_p l_0_n l_0_c),(.string s_1)] =DU l_0_p l_0_n l_0_c s_1:=by kernel_rfl
noncomputable def FG (g_0:Slc×Slc×Slc×ByteArray×Slc×Unit) (name_1:ByteArray):T:=
 T.new (.cells #[(sv g_0.1),(sv g_0.2.1),(sv g_0.2.2.1),(.string g_0.2.2.2.1),(sv g_0.2.2.2.2.1)] 107 (0,0)) fun r1=>
 T.block 0 [aI,aI]
 (T.loop [aI,aI] [(.int .i64 (0:Int)),(.int .i64 (0:Int))] fun (z3:Int×Int×Unit)=>
 T.load .slice ⟨r1,2,none⟩ fun (t4:Slc)=>
 cond (decide (z3.1< ((t4.2.1:Nat):Int)))
 (T.load .slice ⟨r1,2,none⟩ fun (t5:Slc)=>
 deref t5.1 fun a6=>
 chk (0≤z3.1∧z3.1< (t5.2.1:Nat)) <|
 T.load .slice ((a6.add (Int.toNat z3.1 * 2)).add 1) fun (t7:Slc)=>
 T.call 93 [(sv t7),(.string name_1)] (.one aI) fun (t8:Int)=>
 cond (decide (t8≥ (0:Int)))
 (T.ret (.int .i64 (wN z3.1)))
 (T.out [(.int .i64 (wN z3.1)),(.int .i64 z3.2.1)]))
 (T.brk 0 [(.int .i64 z3.1),(.int .i64 z3.2.1)])) fun (z2:Int×Int×Unit)=>
 T.ret (.int .i64 (0:Int))
theorem Hh (g_0:Slc×Slc×Slc×ByteArray×Slc×Unit) (name_1:ByteArray):Ab Tryz.prog Tryz.f94 [(.agg #[(sv g_0.1),(sv g_0.2.1),(sv g_0.2.2.1),(.string g_0.2.2.2.1),(sv g_0.2.2.2.2.1)]),(.string name_1)] =FG g_0 name_1:=by kernel_rfl
noncomputable def GE (p_0:Pl6) (name_1:ByteArray):T:=
 T.new (.cells #[(sv p_0.1),(sv p_0.2.1),(sv p_0.2.2.1),(sv p_0.2.2.2.1),(sv p_0.2.2.2.2.1),(sv p_0.2.2.2.2.2.1)] 32 (0,0)) fun r1=>
 T.load .slice ⟨r1,0,none⟩ fun (t2:Slc)=>
 T.call 93 [(sv t2),(.string name_1)] (.one aI) fun (t3:Int)=>
 cond (decide (t3≥ (0:Int)))
 (T.ret (.int .i64 t3))
 (T.load .slice ⟨r1,1,none⟩ fun (t4:Slc)=>
 T.call 93 [(sv t4),(.string name_1)] (.one aI) fun (t5:Int)=>
 cond (decide (t5≥ (0:Int)))
 (T.load .slice ⟨r1,0,none⟩ fun (t6:Slc)=>
 T.ret (.int .i64 (IntKind.wrap .i64 (((t6.2.1:Nat):Int) +t5))))
 (T.ret (.int .i64 (-1:Int))))
theorem I2 (p_0:Pl6) (name_1:ByteArray):Ab Tryz.prog Tryz.f95 [(aG p_0),(.string name_1)] =GE p_0 name_1:=by kernel_rfl
noncomputable def Ko (p_0:Pl6) (sym_1:Int):T:=
 T.new (.cells #[(sv p_0.1),(sv p_0.2.1),(sv p_0.2.2.1),(sv p_0.2.2.2.1),(sv p_0.2.2.2.2.1),(sv p_0.2.2.2.2.2.1)] 32 (0,0)) fun r1=>
 T.join [aB]
 (cond (decide (sym_1≥ (0:Int)))
 (T.load .slice ⟨r1,0,none⟩ fun (t3:Slc)=>
 T.out [(.bool (decide (sym_1< ((t3.2.1:Nat):Int))))])
 (T.out [(.bool false)])) fun (z2:Bool×Unit)=>
 T.ret (.bool z2.1)
theorem MW (p_0:Pl6) (sym_1:Int):Ab Tryz.prog Tryz.f86 [(aG p_0),(.int .i64 sym_1)] =Ko p_0 sym_1:=by kernel_rfl
noncomputable def Bl (s_0_p:Option Addr) (s_0_n s_0_c:Nat) (v_1:Int×Int×Unit):T:=
 T.new (.cells #[(.int .i64 v_1.1),(.int .i64 v_1.2.1)] 70 (0,0)) fun r1=>
 T.load (.int .i64) ⟨r1,0,none⟩ fun (t2:Int)=>
 T.load (.int .i64) ⟨r1,1,none⟩ fun (t3:Int)=>
 T.call 151 [(.slice s_0_p s_0_n s_0_c),(.agg #[(.int .i64 t2),(.int .i64 t3)])] (.one aI) fun (t4:Int)=>
 T.ret (.bool (decide (t4≥ (0:Int))))
theorem CL (s_0_p:Option Addr) (s_0_n s_0_c:Nat) (v_1:Int×Int×Unit):Ab Tryz.prog Tryz.f115 [(.slice s_0_p s_0_n s_0_c),(.agg #[(.int .i64 v_1.1),(.int .i64 v_1.2.1)])] =Bl s_0_p s_0_n s_0_c v_1:=by kernel_rfl
noncomputable def Fc (s_0:ByteArray):T:=
 T.join [aB]
 (cond (decide (((ByteArray.size s_0:Nat):Int) ≤(32:Int)))
 (T.call 153 [(.string s_0)] (.one aB) fun (t2:Bool)=>
 T.out [(.bool t2)])
 (T.out [(.bool false)])) fun (z1:Bool×Unit)=>
 T.ret (.bool z1.1)
theorem IM (s_0:ByteArray):Ab Tryz.prog Tryz.f120 [(.string s_0)] =Fc s_0:=by kernel_rfl
noncomputable def EW (p_0:ByteArray×ByteArray×Bool×Unit):T:=
 T.new (.cells #[(.string p_0.1),(.string p_0.2.1),(.bool p_0.2.2.1)] 174 (0,0)) fun r1=>
 T.load .string ⟨r1,0,none⟩ fun (t2:ByteArray)=>
 cond (!(ByteArray.toList t2==ByteArray.toList {data:= #[] }))
 (T.join [aB]
 (T.load .string ⟨r1,0,none⟩ fun (t4:ByteArray)=>
 cond (decide (((ByteArray.size t4:Nat):Int) ≤(32:Int)))
 (T.load .string ⟨r1,1,none⟩ fun (t5:ByteArray)=>
 cond (ByteArray.toList t5==ByteArray.toList {data:= #[] })
 (T.load .bool ⟨r1,2,none⟩ fun (t6:Bool)=>
 T.out [(.bool (!t6))])
 (T.out [(.bool false)]))
 (T.out [(.bool false)])) fun (z3:Bool×Unit)=>
 T.ret (.bool z3.1))
 (T.block 0 [aI,aB]
 (T.loop [aI,aB] [(.int .i64 (1:Int)),(.bool false)] fun (z8:Int×Bool×Unit)=>
 T.load .string ⟨r1,1,none⟩ fun (t9:ByteArray)=>
 cond (decide (z8.1< ((ByteArray.size t9:Nat):Int)))
 (T.load .string ⟨r1,1,none⟩ fun (t10:ByteArray)=>
 chk (0≤z8.1∧z8.1< (ByteArray.size t10:Nat)) <|
 T.load .string ⟨r1,1,none⟩ fun (t11:ByteArray)=>
 chk (0≤(IntKind.wrap .i64 (z8.1 - (1:Int)))∧(IntKind.wrap .i64 (z8.1 - (1:Int))) < (ByteArray.size t11:Nat)) <|
 cond (decide (((UInt8.toNat (D7 t10 (Int.toNat z8.1)):Nat):Int) ≤((UInt8.toNat (D7 t11 (Int.toNat (IntKind.wrap .i64 (z8.1 - (1:Int))))):Nat):Int)))
 (T.ret (.bool false))
 (T.out [(.int .i64 (wN z8.1)),(.bool z8.2.1)]))
 (T.brk 0 [(.int .i64 z8.1),(.bool z8.2.1)])) fun (z7:Int×Bool×Unit)=>
 T.load .string ⟨r1,1,none⟩ fun (t12:ByteArray)=>
 T.ret (.bool (!(ByteArray.toList t12==ByteArray.toList {data:= #[] }))))
theorem Gy (p_0:ByteArray×ByteArray×Bool×Unit):Ab Tryz.prog Tryz.f121 [(.agg #[(.string p_0.1),(.string p_0.2.1),(.bool p_0.2.2.1)])] =EW p_0:=by kernel_rfl
noncomputable def En (s_0:ByteArray):T:=
 cond (decide (((ByteArray.size s_0:Nat):Int) >(200:Int)))
 (T.ret (.bool false))
 (T.block 0 [aI,aI,aB]
 (T.loop [aI,aI,aB] [(.int .i64 (0:Int)),(.int .i64 (1:Int)),(.bool false)] fun (z2:Int×Int×Bool×Unit)=>
 cond (decide (z2.1< ((ByteArray.size s_0:Nat):Int)))
 (chk (0≤z2.1∧z2.1< (ByteArray.size s_0:Nat)) <|
 T.join [aI]
 (cond (((UInt8.toNat (D7 s_0 (Int.toNat z2.1)):Nat):Int)==(123:Int))
 (T.out [(.int .i64 (wN z2.2.1))])
 (T.out [(.int .i64 z2.2.1)])) fun (z3:Int×Unit)=>
 chk (0≤z2.1∧z2.1< (ByteArray.size s_0:Nat)) <|
 T.join [aI]
 (cond (((UInt8.toNat (D7 s_0 (Int.toNat z2.1)):Nat):Int)==(125:Int))
 (T.out [(.int .i64 (IntKind.wrap .i64 (z3.1 - (1:Int))))])
 (T.out [(.int .i64 z3.1)])) fun (z4:Int×Unit)=>
 T.join [aB]
 (cond (decide (z4.1>(4:Int)))
 (T.out [(.bool true)])
 (T.out [(.bool (z4.1==(0:Int)))])) fun (z5:Bool×Unit)=>
 cond z5.1
 (T.ret (.bool false))
 (T.out [(.int .i64 (wN z2.1)),(.int .i64 z4.1),(.bool z2.2.2.1)]))
 (T.brk 0 [(.int .i64 z2.1),(.int .i64 z2.2.1),(.bool z2.2.2.1)])) fun (z1:Int×Int×Bool×Unit)=>
 T.ret (.bool (z1.2.1==(1:Int))))
theorem HD (s_0:ByteArray):Ab Tryz.prog Tryz.f122 [(.string s_0)] =En s_0:=by kernel_rfl
noncomputable def Fe (l_0_p:Option Addr) (l_0_n l_0_c:Nat):T:=
 T.block 0 [aI,aB]
 (T.loop [aI,aB] [(.int .i64 (0:Int)),(.bool false)] fun (z2:Int×Bool×Unit)=>
 cond (decide (z2.1< ((l_0_n:Nat):Int)))
 (deref l_0_p fun a3=>
 chk (0≤z2.1∧z2.1< (l_0_n:Nat)) <|
 T.load .string (a3.add (Int.toNat z2.1 * 1)) fun (t4:ByteArray)=>
 T.call 120 [(.string t4)] (.one aB) fun (t5:Bool)=>
 cond (!t5)
 (T.ret (.bool false))
 (T.block 2 [aI,aB]
 (T.loop [aI,aB] [(.int .i64 (0:Int)),(.bool z2.2.1)] fun (z7:Int×Bool×Unit)=>
 cond (decide (z7.1<z2.1))
 (deref l_0_p fun a8=>
 chk (0≤z7.1∧z7.1< (l_0_n:Nat)) <|
 T.load .string (a8.add (Int.toNat z7.1 * 1)) fun (t9:ByteArray)=>
 deref l_0_p fun a10=>
 chk (0≤z2.1∧z2.1< (l_0_n:Nat)) <|
 T.load .string (a10.add (Int.toNat z2.1 * 1)) fun (t11:ByteArray)=>
 cond (ByteArray.toList t9==ByteArray.toList t11)
 (T.ret (.bool false))
 (T.out [(.int .i64 (wN z7.1)),(.bool z7.2.1)]))
 (T.brk 2 [(.int .i64 z7.1),(.bool z7.2.1)])) fun (z6:Int×Bool×Unit)=>
 T.out [(.int .i64 (wN z2.1)),(.bool z6.2.1)]))
 (T.brk 0 [(.int .i64 z2.1),(.bool z2.2.1)])) fun (z1:Int×Bool×Unit)=>
 T.ret (.bool true)
theorem IN (l_0_p:Option Addr) (l_0_n l_0_c:Nat):Ab Tryz.prog Tryz.f123 [(.slice l_0_p l_0_n l_0_c)] =Fe l_0_p l_0_n l_0_c:=by kernel_rfl
noncomputable def Bv (s_0_p:Option Addr) (s_0_n s_0_c:Nat) (v_1:Int×Int×Unit):T:=
 T.new (.cells #[(.int .i64 v_1.1),(.int .i64 v_1.2.1)] 70 (0,0)) fun r1=>
 T.block 0 [aI,aI]
 (T.loop [aI,aI] [(.int .i64 (0:Int)),(.int .i64 (0:Int))] fun (z3:Int×Int×Unit)=>
 cond (decide (z3.1< ((s_0_n:Nat):Int)))
 (T.load (.int .i64) ⟨r1,0,none⟩ fun (t4:Int)=>
 T.load (.int .i64) ⟨r1,1,none⟩ fun (t5:Int)=>
 deref s_0_p fun a6=>
 chk (0≤z3.1∧z3.1< (s_0_n:Nat)) <|
 T.load (.int .i64) (a6.add (Int.toNat z3.1 * 2)) fun (t7:Int)=>
 T.load (.int .i64) ((a6.add (Int.toNat z3.1 * 2)).add 1) fun (t8:Int)=>
 cond ((t4==t7) && ((t5==t8) && true))
 (T.ret (.int .i64 z3.1))
 (T.out [(.int .i64 (wN z3.1)),(.int .i64 z3.2.1)]))
 (T.brk 0 [(.int .i64 z3.1),(.int .i64 z3.2.1)])) fun (z2:Int×Int×Unit)=>
 T.ret (.int .i64 (-1:Int))
theorem Cb (s_0_p:Option Addr) (s_0_n s_0_c:Nat) (v_1:Int×Int×Unit):Ab Tryz.prog Tryz.f151 [(.slice s_0_p s_0_n s_0_c),(.agg #[(.int .i64 v_1.1),(.int .i64 v_1.2.1)])] =Bv s_0_p s_0_n s_0_c v_1:=by kernel_rfl
noncomputable def Ff (s_0:ByteArray):T:=
 T.block 0 [aI,aB]
 (T.loop [aI,aB] [(.int .i64 (0:Int)),(.bool false)] fun (z2:Int×Bool×Unit)=>
 cond (decide (z2.1< ((ByteArray.size s_0:Nat):Int)))
 (T.join [aB]
 (chk (0≤z2.1∧z2.1< (ByteArray.size s_0:Nat)) <|
 T.call 167 [(.int .u8 ((UInt8.toNat (D7 s_0 (Int.toNat z2.1)):Nat):Int))] (.one aB) fun (t4:Bool)=>
 cond (!t4)
 (cond (z2.1==(0:Int))
 (T.out [(.bool true)])
 (chk (0≤z2.1∧z2.1< (ByteArray.size s_0:Nat)) <|
 T.call 168 [(.int .u8 ((UInt8.toNat (D7 s_0 (Int.toNat z2.1)):Nat):Int))] (.one aB) fun (t5:Bool)=>
 T.out [(.bool (!t5))]))
 (T.out [(.bool false)])) fun (z3:Bool×Unit)=>
 cond z3.1
 (T.ret (.bool false))
 (T.out [(.int .i64 (wN z2.1)),(.bool z2.2.1)]))
 (T.brk 0 [(.int .i64 z2.1),(.bool z2.2.1)])) fun (z1:Int×Bool×Unit)=>
 T.ret (.bool (!(ByteArray.toList s_0==ByteArray.toList {data:= #[] })))
theorem IP (s_0:ByteArray):Ab Tryz.prog Tryz.f153 [(.string s_0)] =Ff s_0:=by kernel_rfl
noncomputable def Eo (c_0:Int):T:=
 T.join [aB]
 (cond (c_0==(95:Int))
 (T.out [(.bool true)])
 (cond (decide (c_0≥ (97:Int)))
 (cond (decide (c_0≤(122:Int)))
 (T.out [(.bool true)])
 (cond (decide (c_0≥ (65:Int)))
 (T.out [(.bool (decide (c_0≤(90:Int))))])
 (T.out [(.bool false)])))
 (cond (decide (c_0≥ (65:Int)))
 (T.out [(.bool (decide (c_0≤(90:Int))))])
 (T.out [(.bool false)])))) fun (z1:Bool×Unit)=>
 T.ret (.bool z1.1)
theorem HE (c_0:Int):Ab Tryz.prog Tryz.f167 [(.int .u8 c_0)] =Eo c_0:=by kernel_rfl
noncomputable def FH (c_0:Int):T:=
 T.join [aB]
 (cond (decide (c_0≥ (48:Int)))
 (T.out [(.bool (decide (c_0≤(57:Int))))])
 (T.out [(.bool false)])) fun (z1:Bool×Unit)=>
 T.ret (.bool z1.1)
theorem Hi (c_0:Int):Ab Tryz.prog Tryz.f168 [(.int .u8 c_0)] =FH c_0:=by kernel_rfl
noncomputable def HF (s_0:Option Addr) (i_1:Int):T:=
 T.join [aB]
 (T.call 162 [(.pointer s_0),(.int .i64 i_1)] (.one aB) fun (t2:Bool)=>
 cond (!t2)
 (T.out [(.bool true)])
 (T.call 163 [(.pointer s_0),(.int .i64 i_1)] (.one aB) fun (t3:Bool)=>
 T.out [(.bool t3)])) fun (z1:Bool×Unit)=>
 cond z1.1
 (T.ret (.bool false))
 (deref s_0 fun a4=>
 T.load .slice (a4.add 1) fun (t5:Slc)=>
 chk ((64:Int) ≠ 0) <|
 deref t5.1 fun a6=>
 chk (0≤(IntKind.wrap .i64 (Int.tdiv i_1 (64:Int)))∧(IntKind.wrap .i64 (Int.tdiv i_1 (64:Int))) < (t5.2.1:Nat)) <|
 T.load (.int .u64) (a6.add (Int.toNat (IntKind.wrap .i64 (Int.tdiv i_1 (64:Int))) * 1)) fun (t7:Int)=>
 chk ((64:Int) ≠ 0) <|
 chk (0≤(Int.tmod i_1 (64:Int))) <|
 deref t5.1 fun a8=>
 chk (0≤(IntKind.wrap .i64 (Int.tdiv i_1 (64:Int)))∧(IntKind.wrap .i64 (Int.tdiv i_1 (64:Int))) < (t5.2.1:Nat)) <|
 T.store (a8.add (Int.toNat (IntKind.wrap .i64 (Int.tdiv i_1 (64:Int))) * 1)) (.int .u64 (IntKind.wrap .u64 (BitVec.toNat (BitVec.ofInt (IntKind.bits .u64) t7 ||| (BitVec.ofInt (IntKind.bits .u64) (IntKind.wrap .u64 ((1:Int) * 2 ^ (min (Int.toNat (Int.tmod i_1 (64:Int))) (IntKind.bits .u64)))))):Nat))) <|
 T.ret (.bool true))
theorem KU (s_0:Option Addr) (i_1:Int):Ab Tryz.prog Tryz.f134 [(.pointer s_0),(.int .i64 i_1)] =HF s_0 i_1:=by kernel_rfl
noncomputable def Gd (s_0:Option Addr):T:=
 T.call 114 [(.pointer s_0)] (.one (.atom .func)) fun (t1:Option (Fn×Array Value×Array Value))=>
 T.call 113 [(BW.val .func t1)] (.one aS) fun (t2:Slc)=>
 T.ret (sv t2)
theorem Jr (s_0:Option Addr):Ab Tryz.prog Tryz.f70 [(.pointer s_0)] =Gd s_0:=by kernel_rfl
noncomputable def Ge (s_0:Option Addr):T:=
 deref s_0 fun a1=>
 T.load .slice (a1.add 1) fun (t2:Slc)=>
 T.call 148 [(sv t2)] (.one aS) fun (t3:Slc)=>
 T.new (.cells #[(.slice none 0 0)] 235 (0,0)) fun r4=>
 T.store ⟨r4,0,none⟩ (sv t3) <|
 T.ret (.func (.func 149) #[] #[(.pointer (some ⟨r4,0,none⟩))])
theorem Js (s_0:Option Addr):Ab Tryz.prog Tryz.f114 [(.pointer s_0)] =Ge s_0:=by kernel_rfl
noncomputable def Kp (n_0:Int):T:=
 chk ((64:Int) ≠ 0) <|
 T.sem (Instr.makeSlice 235 (.int .i64 (IntKind.wrap .i64 (Int.tdiv (IntKind.wrap .i64 ((IntKind.wrap .i64 ((if (if (1000:Int) <n_0 then (1000:Int) else n_0) >(0:Int) then (if (1000:Int) <n_0 then (1000:Int) else n_0) else (0:Int)) +(64:Int))) - (1:Int))) (64:Int)))) (.int .i64 (IntKind.wrap .i64 (Int.tdiv (IntKind.wrap .i64 ((IntKind.wrap .i64 ((if (if (1000:Int) <n_0 then (1000:Int) else n_0) >(0:Int) then (if (1000:Int) <n_0 then (1000:Int) else n_0) else (0:Int)) +(64:Int))) - (1:Int))) (64:Int))))) (.one aS) fun (t1:Slc)=>
 T.new (.cells #[(.int .i64 (if (if (1000:Int) <n_0 then (1000:Int) else n_0) >(0:Int) then (if (1000:Int) <n_0 then (1000:Int) else n_0) else (0:Int))),(sv t1)] 239 (0,0)) fun r2=>
 T.ret (.pointer (some ⟨r2,0,none⟩))
theorem MX (n_0:Int):Ab Tryz.prog Tryz.f138 [(.int .i64 n_0)] =Kp n_0:=by kernel_rfl
noncomputable def Lx (n_0:Int) (l_1_p:Option Addr) (l_1_n l_1_c:Nat):T:=
 T.call 138 [(.int .i64 n_0)] (.one aP) fun (t1:Option Addr)=>
 T.block 0 [aI]
 (T.loop [aI] [(.int .i64 (0:Int))] fun (z3:Int×Unit)=>
 cond (decide (z3.1< ((l_1_n:Nat):Int)))
 (deref l_1_p fun a4=>
 chk (0≤z3.1∧z3.1< (l_1_n:Nat)) <|
 T.load (.int .i64) (a4.add (Int.toNat z3.1 * 1)) fun (t5:Int)=>
 T.call 134 [(.pointer t1),(.int .i64 t5)] (.one aB) fun (t6:Bool)=>
 T.out [(.int .i64 (wN z3.1))])
 (T.brk 0 [(.int .i64 z3.1)])) fun (z2:Int×Unit)=>
 T.ret (.pointer t1)
theorem NI (n_0:Int) (l_1_p:Option Addr) (l_1_n l_1_c:Nat):Ab Tryz.prog Tryz.f140 [(.int .i64 n_0),(.slice l_1_p l_1_n l_1_c)] =Lx n_0 l_1_p l_1_n l_1_c:=by kernel_rfl
noncomputable def GF (s_0:Option Addr):T:=
 deref s_0 fun a1=>
 T.load (.int .i64) a1 fun (t2:Int)=>
 T.ret (.int .i64 t2)
theorem I3 (s_0:Option Addr):Ab Tryz.prog Tryz.f141 [(.pointer s_0)] =GF s_0:=by kernel_rfl
noncomputable def Gf (s_0:Option Addr):T:=
 deref s_0 fun a1=>
 T.load (.int .i64) a1 fun (t2:Int)=>
 deref s_0 fun a3=>
 T.load .slice (a3.add 1) fun (t4:Slc)=>
 T.call 148 [(sv t4)] (.one aS) fun (t5:Slc)=>
 T.still a1 (.int .i64 t2) <|
 T.new (.cells #[(.int .i64 t2),(sv t5)] 239 (0,0)) fun r6=>
 T.ret (.pointer (some ⟨r6,0,none⟩))
theorem Jt (s_0:Option Addr):Ab Tryz.prog Tryz.f145 [(.pointer s_0)] =Gf s_0:=by kernel_rfl
noncomputable def IE (s_0:Option Addr) (i_1:Int):T:=
 T.join [aB]
 (cond (decide (i_1≥ (0:Int)))
 (deref s_0 fun a2=>
 T.load (.int .i64) a2 fun (t3:Int)=>
 T.out [(.bool (decide (i_1<t3)))])
 (T.out [(.bool false)])) fun (z1:Bool×Unit)=>
 T.ret (.bool z1.1)
theorem Kq (s_0:Option Addr) (i_1:Int):Ab Tryz.prog Tryz.f162 [(.pointer s_0),(.int .i64 i_1)] =IE s_0 i_1:=by kernel_rfl
noncomputable def HG (s_0:Option Addr) (i_1:Int):T:=
 T.join [aB]
 (T.call 162 [(.pointer s_0),(.int .i64 i_1)] (.one aB) fun (t2:Bool)=>
 cond t2
 (deref s_0 fun a3=>
 T.load .slice (a3.add 1) fun (t4:Slc)=>
 chk ((64:Int) ≠ 0) <|
 deref t4.1 fun a5=>
 chk (0≤(IntKind.wrap .i64 (Int.tdiv i_1 (64:Int)))∧(IntKind.wrap .i64 (Int.tdiv i_1 (64:Int))) < (t4.2.1:Nat)) <|
 T.load (.int .u64) (a5.add (Int.toNat (IntKind.wrap .i64 (Int.tdiv i_1 (64:Int))) * 1)) fun (t6:Int)=>
 chk ((64:Int) ≠ 0) <|
 chk (0≤(Int.tmod i_1 (64:Int))) <|
 T.out [(.bool ((IntKind.wrap .u64 (BitVec.toNat (BitVec.ofInt (IntKind.bits .u64) (Int.fdiv t6 (2 ^ (min (Int.toNat (Int.tmod i_1 (64:Int))) (IntKind.bits .u64)))) &&& (BitVec.ofInt (IntKind.bits .u64) (1:Int))):Nat))==(1:Int)))])
 (T.out [(.bool false)])) fun (z1:Bool×Unit)=>
 T.ret (.bool z1.1)
theorem KV (s_0:Option Addr) (i_1:Int):Ab Tryz.prog Tryz.f163 [(.pointer s_0),(.int .i64 i_1)] =HG s_0 i_1:=by kernel_rfl
noncomputable def EX (s_0_p:Option Addr) (s_0_n s_0_c:Nat):T:=
 cond (Option.isNone s_0_p)
 (T.ret (.slice none 0 0))
 (T.new (.cells #[] 3 (0,0)) fun r1=>
 T.sem (Builtin.append_ #[30,30] 30 #[(.slice (some ⟨r1,0,none⟩) 0 0),(.slice s_0_p s_0_n s_0_c)]) (.one aS) fun (t2:Slc)=>
 T.ret (sv t2))
theorem Gz (s_0_p:Option Addr) (s_0_n s_0_c:Nat):Ab Tryz.prog Tryz.f84 [(.slice s_0_p s_0_n s_0_c)] =EX s_0_p s_0_n s_0_c:=by kernel_rfl
noncomputable def DC (s_0_p:Option Addr) (s_0_n s_0_c:Nat):T:=
 cond (Option.isNone s_0_p)
 (T.ret (.slice none 0 0))
 (T.new (.cells #[] 237 (0,0)) fun r1=>
 T.sem (Builtin.append_ #[235,235] 235 #[(.slice (some ⟨r1,0,none⟩) 0 0),(.slice s_0_p s_0_n s_0_c)]) (.one aS) fun (t2:Slc)=>
 T.ret (sv t2))
theorem Ey (s_0_p:Option Addr) (s_0_n s_0_c:Nat):Ab Tryz.prog Tryz.f148 [(.slice s_0_p s_0_n s_0_c)] =DC s_0_p s_0_n s_0_c:=by kernel_rfl
noncomputable def IF (edges_0_p:Option Addr) (edges_0_n edges_0_c:Nat) (base_1_p:Option Addr) (base_1_n base_1_c:Nat):T:=
 T.block 0 [aI,aI]
 (T.loop [aI,aI] [(.int .i64 (0:Int)),(.int .i64 (0:Int))] fun (z2:Int×Int×Unit)=>
 cond (decide (z2.1< ((base_1_n:Nat):Int)))
 (deref base_1_p fun a3=>
 chk (0≤z2.1∧z2.1< (base_1_n:Nat)) <|
 T.load .pointer (a3.add (Int.toNat z2.1 * 1)) fun (t4:Option Addr)=>
 T.call 141 [(.pointer t4)] (.one aI) fun (t5:Int)=>
 T.out [(.int .i64 (wN z2.1)),(.int .i64 (if t5>z2.2.1 then t5 else z2.2.1))])
 (T.brk 0 [(.int .i64 z2.1),(.int .i64 z2.2.1)])) fun (z1:Int×Int×Unit)=>
 T.new (.cells #[(.slice none 0 0)] 195 (0,0)) fun r6=>
 T.block 2 [aI]
 (T.loop [aI] [(.int .i64 (0:Int))] fun (z8:Int×Unit)=>
 cond (decide (z8.1< ((base_1_n:Nat):Int)))
 (deref base_1_p fun a9=>
 chk (0≤z8.1∧z8.1< (base_1_n:Nat)) <|
 T.load .pointer (a9.add (Int.toNat z8.1 * 1)) fun (t10:Option Addr)=>
 T.load .slice ⟨r6,0,none⟩ fun (t11:Slc)=>
 T.call 70 [(.pointer t10)] (.one aS) fun (t12:Slc)=>
 T.still ⟨r6,0,none⟩ (sv t11) <|
 T.call 140 [(.int .i64 z1.2.1),(sv t12)] (.one aP) fun (t13:Option Addr)=>
 T.still ⟨r6,0,none⟩ (sv t11) <|
 T.new (.cells #[(.pointer t13)] 139 (0,0)) fun r14=>
 T.still ⟨r6,0,none⟩ (sv t11) <|
 T.sem (Builtin.append_ #[195,195] 195 #[(sv t11),(.slice (some ⟨r14,0,none⟩) 1 1)]) (.one aS) fun (t15:Slc)=>
 T.store ⟨r6,0,none⟩ (sv t15) <|
 T.out [(.int .i64 (wN z8.1))])
 (T.brk 2 [(.int .i64 z8.1)])) fun (z7:Int×Unit)=>
 T.call 143 [(.slice edges_0_p edges_0_n edges_0_c),(.int .i64 ((base_1_n:Nat):Int)),(.func (.func 142) #[] #[(.pointer (some ⟨r6,0,none⟩))]),(.func (.func 144) #[] #[(.pointer (some ⟨r6,0,none⟩))])] (.tuple []) fun (t16:Unit)=>
 T.block 4 [aI,aS]
 (T.loop [aI,aS] [(.int .i64 (0:Int)),(.slice none 0 0)] fun (z18:Int×Slc×Unit)=>
 cond (decide (z18.1< ((base_1_n:Nat):Int)))
 (deref base_1_p fun a19=>
 chk (0≤z18.1∧z18.1< (base_1_n:Nat)) <|
 T.load .pointer (a19.add (Int.toNat z18.1 * 1)) fun (t20:Option Addr)=>
 T.load .slice ⟨r6,0,none⟩ fun (t21:Slc)=>
 deref t21.1 fun a22=>
 chk (0≤z18.1∧z18.1< (t21.2.1:Nat)) <|
 T.load .pointer (a22.add (Int.toNat z18.1 * 1)) fun (t23:Option Addr)=>
 T.call 141 [(.pointer t20)] (.one aI) fun (t24:Int)=>
 T.still (a22.add (Int.toNat z18.1 * 1)) (.pointer t23) <|
 T.still ⟨r6,0,none⟩ (sv t21) <|
 T.call 70 [(.pointer t23)] (.one aS) fun (t25:Slc)=>
 T.call 140 [(.int .i64 t24),(sv t25)] (.one aP) fun (t26:Option Addr)=>
 T.new (.cells #[(.pointer t26)] 139 (0,0)) fun r27=>
 T.sem (Builtin.append_ #[195,195] 195 #[(sv z18.2.1),(.slice (some ⟨r27,0,none⟩) 1 1)]) (.one aS) fun (t28:Slc)=>
 T.out [(.int .i64 (wN z18.1)),(sv t28)])
 (T.brk 4 [(.int .i64 z18.1),(sv z18.2.1)])) fun (z17:Int×Slc×Unit)=>
 T.ret (sv z17.2.1)
theorem Kr (edges_0_p:Option Addr) (edges_0_n edges_0_c:Nat) (base_1_p:Option Addr) (base_1_n base_1_c:Nat):Ab Tryz.prog Tryz.f111 [(.slice edges_0_p edges_0_n edges_0_c),(.slice base_1_p base_1_n base_1_c)] =IF edges_0_p edges_0_n edges_0_c base_1_p base_1_n base_1_c:=by kernel_rfl
noncomputable def DK (x_0:Int):T:=
 cond (x_0==(0:Int))
 (T.ret (.int .i64 (64:Int)))
 (chk (0≤(58:Int)) <|
 chk (0≤(Int.fdiv (IntKind.wrap .u64 ((IntKind.wrap .u64 (BitVec.toNat (BitVec.ofInt (IntKind.bits .u64) x_0 &&& (BitVec.ofInt (IntKind.bits .u64) (IntKind.wrap .u64 (0 - x_0)))):Nat)) * (285870213051353865:Int))) (2 ^ (min (Int.toNat (58:Int)) (IntKind.bits .u64))))∧(Int.fdiv (IntKind.wrap .u64 ((IntKind.wrap .u64 (BitVec.toNat (BitVec.ofInt (IntKind.bits .u64) x_0 &&& (BitVec.ofInt (IntKind.bits .u64) (IntKind.wrap .u64 (0 - x_0)))):Nat)) * (285870213051353865:Int))) (2 ^ (min (Int.toNat (58:Int)) (IntKind.bits .u64)))) < (64:Nat)) <|
 T.load (.int .u8) ((⟨0,0,none⟩:Addr).add (Int.toNat (Int.fdiv (IntKind.wrap .u64 ((IntKind.wrap .u64 (BitVec.toNat (BitVec.ofInt (IntKind.bits .u64) x_0 &&& (BitVec.ofInt (IntKind.bits .u64) (IntKind.wrap .u64 (0 - x_0)))):Nat)) * (285870213051353865:Int))) (2 ^ (min (Int.toNat (58:Int)) (IntKind.bits .u64)))) * 1)) fun (t1:Int)=>
 T.ret (.int .i64 (IntKind.wrap .i64 t1)))
theorem FI (x_0:Int):Ab Tryz.prog Tryz.f150 [(.int .u64 x_0)] =DK x_0:=by kernel_rfl
noncomputable def Gg (at_0:Int) (to_1:Int) (c_2:Nat):T:=
 T.load .slice ⟨c_2,0,none⟩ fun (t1:Slc)=>
 deref t1.1 fun a2=>
 chk (0≤at_0∧at_0< (t1.2.1:Nat)) <|
 T.load .pointer (a2.add (Int.toNat at_0 * 1)) fun (t3:Option Addr)=>
 T.load .slice ⟨c_2,0,none⟩ fun (t4:Slc)=>
 deref t4.1 fun a5=>
 chk (0≤to_1∧to_1< (t4.2.1:Nat)) <|
 T.load .pointer (a5.add (Int.toNat to_1 * 1)) fun (t6:Option Addr)=>
 T.call 139 [(.pointer t3),(.pointer t6)] (.one aB) fun (t7:Bool)=>
 T.ret (.tuple #[])
theorem Ju (at_0:Int) (to_1:Int) (c_2:Nat):Ab Tryz.prog Tryz.f142 [(.int .i64 at_0),(.int .i64 to_1),(.pointer (some ⟨c_2,0,none⟩))] =Gg at_0 to_1 c_2:=by kernel_rfl
noncomputable def Gh (l_0_p:Option Addr) (l_0_n l_0_c:Nat) (c_1:Nat):T:=
 chk (0≤(1:Int)∧(1:Int) ≤((l_0_n:Nat):Int)∧((l_0_n:Nat):Int) ≤(l_0_c:Nat)) <|
 T.block 0 [aI]
 (T.loop [aI] [(.int .i64 (0:Int))] fun (z2:Int×Unit)=>
 cond (decide (z2.1< (((Int.toNat ((l_0_n:Nat):Int) - Int.toNat (1:Int)):Nat):Int)))
 (deref (if l_0_c=Int.toNat (1:Int) then l_0_p else Option.map (fun x=>Addr.add x (Int.toNat (1:Int) * 1)) l_0_p) fun a3=>
 chk (0≤z2.1∧z2.1< ((Int.toNat ((l_0_n:Nat):Int) - Int.toNat (1:Int)):Nat)) <|
 T.load (.int .i64) (a3.add (Int.toNat z2.1 * 1)) fun (t4:Int)=>
 T.load .slice ⟨c_1,0,none⟩ fun (t5:Slc)=>
 deref l_0_p fun a6=>
 chk (0≤(0:Int)∧(0:Int) < (l_0_n:Nat)) <|
 T.load (.int .i64) (a6.add (Int.toNat (0:Int) * 1)) fun (t7:Int)=>
 deref t5.1 fun a8=>
 chk (0≤t7∧t7< (t5.2.1:Nat)) <|
 T.load .pointer (a8.add (Int.toNat t7 * 1)) fun (t9:Option Addr)=>
 T.load .slice ⟨c_1,0,none⟩ fun (t10:Slc)=>
 deref t10.1 fun a11=>
 chk (0≤t4∧t4< (t10.2.1:Nat)) <|
 T.load .pointer (a11.add (Int.toNat t4 * 1)) fun (t12:Option Addr)=>
 T.call 139 [(.pointer t9),(.pointer t12)] (.one aB) fun (t13:Bool)=>
 T.out [(.int .i64 (wN z2.1))])
 (T.brk 0 [(.int .i64 z2.1)])) fun (z1:Int×Unit)=>
 chk (0≤(1:Int)∧(1:Int) ≤((l_0_n:Nat):Int)∧((l_0_n:Nat):Int) ≤(l_0_c:Nat)) <|
 T.block 2 [aI]
 (T.loop [aI] [(.int .i64 (0:Int))] fun (z15:Int×Unit)=>
 cond (decide (z15.1< (((Int.toNat ((l_0_n:Nat):Int) - Int.toNat (1:Int)):Nat):Int)))
 (deref (if l_0_c=Int.toNat (1:Int) then l_0_p else Option.map (fun x=>Addr.add x (Int.toNat (1:Int) * 1)) l_0_p) fun a16=>
 chk (0≤z15.1∧z15.1< ((Int.toNat ((l_0_n:Nat):Int) - Int.toNat (1:Int)):Nat)) <|
 T.load (.int .i64) (a16.add (Int.toNat z15.1 * 1)) fun (t17:Int)=>
 T.load .slice ⟨c_1,0,none⟩ fun (t18:Slc)=>
 T.load .slice ⟨c_1,0,none⟩ fun (t19:Slc)=>
 deref l_0_p fun a20=>
 chk (0≤(0:Int)∧(0:Int) < (l_0_n:Nat)) <|
 T.load (.int .i64) (a20.add (Int.toNat (0:Int) * 1)) fun (t21:Int)=>
 deref t19.1 fun a22=>
 chk (0≤t21∧t21< (t19.2.1:Nat)) <|
 T.load .pointer (a22.add (Int.toNat t21 * 1)) fun (t23:Option Addr)=>
 T.call 145 [(.pointer t23)] (.one aP) fun (t24:Option Addr)=>
 T.still ⟨c_1,0,none⟩ (sv t18) <|
 deref t18.1 fun a25=>
 chk (0≤t17∧t17< (t18.2.1:Nat)) <|
 T.store (a25.add (Int.toNat t17 * 1)) (.pointer t24) <|
 T.out [(.int .i64 (wN z15.1))])
 (T.brk 2 [(.int .i64 z15.1)])) fun (z14:Int×Unit)=>
 T.ret (.tuple #[])
theorem Jv (l_0_p:Option Addr) (l_0_n l_0_c:Nat) (c_1:Nat):Ab Tryz.prog Tryz.f144 [(.slice l_0_p l_0_n l_0_c),(.pointer (some ⟨c_1,0,none⟩))] =Gh l_0_p l_0_n l_0_c c_1:=by kernel_rfl
noncomputable def LS (edges_0_p:Option Addr) (edges_0_n edges_0_c:Nat) (n_1:Int) (k_2_0:Nat) (k_3_0:Nat):T:=
 T.new (.cells #[(.slice edges_0_p edges_0_n edges_0_c)] 97 (0,0)) fun r1=>
 T.new (.cells #[(.int .i64 n_1)] 3 (0,0)) fun r2=>
 T.new (.cells #[(.func (.func 142) #[] #[(.pointer (some ⟨k_2_0,0,none⟩))])] 228 (0,0)) fun r3=>
 T.new (.cells #[(.func (.func 144) #[] #[(.pointer (some ⟨k_3_0,0,none⟩))])] 217 (0,0)) fun r4=>
 T.load (.int .i64) ⟨r2,0,none⟩ fun (t5:Int)=>
 T.sem (Instr.makeSlice 30 (.int .i64 t5) (.int .i64 t5)) (.one aS) fun (t6:Slc)=>
 T.new (.cells #[(.slice none 0 0)] 30 (0,0)) fun r7=>
 T.store ⟨r7,0,none⟩ (sv t6) <|
 T.new (.cells #[(.slice none 0 0)] 30 (0,0)) fun r8=>
 T.new (.cells #[.nilFunc] 249 (0,0)) fun r9=>
 T.store ⟨r9,0,none⟩ (.func (.func 164) #[] #[(.pointer (some ⟨r8,0,none⟩)),(.pointer (some ⟨r7,0,none⟩)),(.pointer (some ⟨r1,0,none⟩)),(.pointer (some ⟨r2,0,none⟩)),(.pointer (some ⟨r9,0,none⟩)),(.pointer (some ⟨r3,0,none⟩)),(.pointer (some ⟨r4,0,none⟩))]) <|
 T.load (.int .i64) ⟨r2,0,none⟩ fun (t10:Int)=>
 T.block 0 [aI]
 (T.loop [aI] [(.int .i64 (0:Int))] fun (z12:Int×Unit)=>
 cond (decide (z12.1<t10))
 (T.load .slice ⟨r7,0,none⟩ fun (t13:Slc)=>
 deref t13.1 fun a14=>
 chk (0≤z12.1∧z12.1< (t13.2.1:Nat)) <|
 T.load (.int .i64) (a14.add (Int.toNat z12.1 * 1)) fun (t15:Int)=>
 T.join []
 (cond (t15==(0:Int))
 (T.load .func ⟨r9,0,none⟩ fun (t17:Option (Fn×Array Value×Array Value))=>
 Ig false Tryz.prog (BW.val .func t17) #[(.int .i64 z12.1)] fun (t18:Value)=>
 T.out [])
 (T.out [])) fun (z16:Unit)=>
 T.out [(.int .i64 (wN z12.1))])
 (T.brk 0 [(.int .i64 z12.1)])) fun (z11:Int×Unit)=>
 T.ret (.tuple #[])
theorem KW (edges_0_p:Option Addr) (edges_0_n edges_0_c:Nat) (n_1:Int) (k_2_0:Nat) (k_3_0:Nat):Ab Tryz.prog Tryz.f143 [(.slice edges_0_p edges_0_n edges_0_c),(.int .i64 n_1),(.func (.func 142) #[] #[(.pointer (some ⟨k_2_0,0,none⟩))]),(.func (.func 144) #[] #[(.pointer (some ⟨k_3_0,0,none⟩))])] =LS edges_0_p edges_0_n edges_0_c n_1 k_2_0 k_3_0:=by kernel_rfl
noncomputable def HH (at_0:Int) (c_1:Nat) (c_2:Nat) (c_3:Nat) (c_4:Nat) (c_5:Nat) (c_6:Nat) (c_7:Nat):T:=
 T.load .slice ⟨c_1,0,none⟩ fun (t1:Slc)=>
 T.new (.cells #[(.int .i64 at_0)] 3 (0,0)) fun r2=>
 T.sem (Builtin.append_ #[30,30] 30 #[(sv t1),(.slice (some ⟨r2,0,none⟩) 1 1)]) (.one aS) fun (t3:Slc)=>
 T.store ⟨c_1,0,none⟩ (sv t3) <|
 T.load .slice ⟨c_1,0,none⟩ fun (t4:Slc)=>
 T.load .slice ⟨c_2,0,none⟩ fun (t5:Slc)=>
 deref t5.1 fun a6=>
 chk (0≤at_0∧at_0< (t5.2.1:Nat)) <|
 T.store (a6.add (Int.toNat at_0 * 1)) (.int .i64 ((t4.2.1:Nat):Int)) <|
 T.load .slice ⟨c_3,0,none⟩ fun (t7:Slc)=>
 T.load (.int .i64) ⟨c_4,0,none⟩ fun (t8:Int)=>
 T.call 165 [(sv t7),(.int .i64 at_0),(.int .i64 t8)] (.one aS) fun (t9:Slc)=>
 T.block 0 [aI]
 (T.loop [aI] [(.int .i64 (0:Int))] fun (z11:Int×Unit)=>
 cond (decide (z11.1< ((t9.2.1:Nat):Int)))
 (deref t9.1 fun a12=>
 chk (0≤z11.1∧z11.1< (t9.2.1:Nat)) <|
 T.load (.int .i64) (a12.add (Int.toNat z11.1 * 1)) fun (t13:Int)=>
 T.load .slice ⟨c_2,0,none⟩ fun (t14:Slc)=>
 deref t14.1 fun a15=>
 chk (0≤t13∧t13< (t14.2.1:Nat)) <|
 T.load (.int .i64) (a15.add (Int.toNat t13 * 1)) fun (t16:Int)=>
 T.join []
 (cond (t16==(0:Int))
 (T.load .func ⟨c_5,0,none⟩ fun (t18:Option (Fn×Array Value×Array Value))=>
 Ig false Tryz.prog (BW.val .func t18) #[(.int .i64 t13)] fun (t19:Value)=>
 T.out [])
 (T.out [])) fun (z17:Unit)=>
 T.load .slice ⟨c_2,0,none⟩ fun (t20:Slc)=>
 T.load .slice ⟨c_2,0,none⟩ fun (t21:Slc)=>
 deref t21.1 fun a22=>
 chk (0≤at_0∧at_0< (t21.2.1:Nat)) <|
 T.load (.int .i64) (a22.add (Int.toNat at_0 * 1)) fun (t23:Int)=>
 T.load .slice ⟨c_2,0,none⟩ fun (t24:Slc)=>
 deref t24.1 fun a25=>
 chk (0≤t13∧t13< (t24.2.1:Nat)) <|
 T.load (.int .i64) (a25.add (Int.toNat t13 * 1)) fun (t26:Int)=>
 deref t20.1 fun a27=>
 chk (0≤at_0∧at_0< (t20.2.1:Nat)) <|
 T.store (a27.add (Int.toNat at_0 * 1)) (.int .i64 (if t26<t23 then t26 else t23)) <|
 T.load .func ⟨c_6,0,none⟩ fun (t28:Option (Fn×Array Value×Array Value))=>
 Ig false Tryz.prog (BW.val .func t28) #[(.int .i64 at_0),(.int .i64 t13)] fun (t29:Value)=>
 T.out [(.int .i64 (wN z11.1))])
 (T.brk 0 [(.int .i64 z11.1)])) fun (z10:Int×Unit)=>
 T.load .slice ⟨c_2,0,none⟩ fun (t30:Slc)=>
 deref t30.1 fun a31=>
 chk (0≤at_0∧at_0< (t30.2.1:Nat)) <|
 T.load (.int .i64) (a31.add (Int.toNat at_0 * 1)) fun (t32:Int)=>
 cond (t32 !=((t4.2.1:Nat):Int))
 (T.ret (.tuple #[]))
 (T.load .slice ⟨c_1,0,none⟩ fun (t33:Slc)=>
 chk (0≤(IntKind.wrap .i64 (((t4.2.1:Nat):Int) - (1:Int)))∧(IntKind.wrap .i64 (((t4.2.1:Nat):Int) - (1:Int))) ≤((t33.2.1:Nat):Int)∧((t33.2.1:Nat):Int) ≤(t33.2.2:Nat)) <|
 T.call 84 [(.slice (if t33.2.2=Int.toNat (IntKind.wrap .i64 (((t4.2.1:Nat):Int) - (1:Int))) then t33.1 else Option.map (fun x=>Addr.add x (Int.toNat (IntKind.wrap .i64 (((t4.2.1:Nat):Int) - (1:Int))) * 1)) t33.1) (Int.toNat ((t33.2.1:Nat):Int) - Int.toNat (IntKind.wrap .i64 (((t4.2.1:Nat):Int) - (1:Int)))) (t33.2.2 - Int.toNat (IntKind.wrap .i64 (((t4.2.1:Nat):Int) - (1:Int)))))] (.one aS) fun (t34:Slc)=>
 T.load .slice ⟨c_1,0,none⟩ fun (t35:Slc)=>
 chk (0≤(0:Int)∧(0:Int) ≤(IntKind.wrap .i64 (((t4.2.1:Nat):Int) - (1:Int)))∧(IntKind.wrap .i64 (((t4.2.1:Nat):Int) - (1:Int))) ≤(t35.2.2:Nat)) <|
 T.store ⟨c_1,0,none⟩ (.slice (if t35.2.2=Int.toNat (0:Int) then t35.1 else Option.map (fun x=>Addr.add x (Int.toNat (0:Int) * 1)) t35.1) (Int.toNat (IntKind.wrap .i64 (((t4.2.1:Nat):Int) - (1:Int))) - Int.toNat (0:Int)) (t35.2.2 - Int.toNat (0:Int))) <|
 T.block 2 [aI]
 (T.loop [aI] [(.int .i64 (0:Int))] fun (z37:Int×Unit)=>
 cond (decide (z37.1< ((t34.2.1:Nat):Int)))
 (deref t34.1 fun a38=>
 chk (0≤z37.1∧z37.1< (t34.2.1:Nat)) <|
 T.load (.int .i64) (a38.add (Int.toNat z37.1 * 1)) fun (t39:Int)=>
 T.load .slice ⟨c_2,0,none⟩ fun (t40:Slc)=>
 deref t40.1 fun a41=>
 chk (0≤t39∧t39< (t40.2.1:Nat)) <|
 T.store (a41.add (Int.toNat t39 * 1)) (.int .i64 (9223372036854775807:Int)) <|
 T.out [(.int .i64 (wN z37.1))])
 (T.brk 2 [(.int .i64 z37.1)])) fun (z36:Int×Unit)=>
 T.load .func ⟨c_7,0,none⟩ fun (t42:Option (Fn×Array Value×Array Value))=>
 Ig false Tryz.prog (BW.val .func t42) #[(sv t34)] fun (t43:Value)=>
 T.ret (.tuple #[]))
theorem KX (at_0:Int) (c_1:Nat) (c_2:Nat) (c_3:Nat) (c_4:Nat) (c_5:Nat) (c_6:Nat) (c_7:Nat):Ab Tryz.prog Tryz.f164 [(.int .i64 at_0),(.pointer (some ⟨c_1,0,none⟩)),(.pointer (some ⟨c_2,0,none⟩)),(.pointer (some ⟨c_3,0,none⟩)),(.pointer (some ⟨c_4,0,none⟩)),(.pointer (some ⟨c_5,0,none⟩)),(.pointer (some ⟨c_6,0,none⟩)),(.pointer (some ⟨c_7,0,none⟩))] =HH at_0 c_1 c_2 c_3 c_4 c_5 c_6 c_7:=by kernel_rfl
noncomputable def I4 (edges_0_p:Option Addr) (edges_0_n edges_0_c:Nat) (at_1:Int) (n_2:Int):T:=
 T.new (.cells #[(.int .i64 n_2)] 3 (0,0)) fun r1=>
 cond (decide (at_1≥ ((edges_0_n:Nat):Int)))
 (T.ret (.slice none 0 0))
 (deref edges_0_p fun a2=>
 chk (0≤at_1∧at_1< (edges_0_n:Nat)) <|
 T.load .slice (a2.add (Int.toNat at_1 * 1)) fun (t3:Slc)=>
 T.call 84 [(sv t3)] (.one aS) fun (t4:Slc)=>
 T.call 190 [(sv t4),(.func (.func 191) #[] #[(.pointer (some ⟨r1,0,none⟩))])] (.one aS) fun (t5:Slc)=>
 T.ret (sv t5))
theorem LT (edges_0_p:Option Addr) (edges_0_n edges_0_c:Nat) (at_1:Int) (n_2:Int):Ab Tryz.prog Tryz.f165 [(.slice edges_0_p edges_0_n edges_0_c),(.int .i64 at_1),(.int .i64 n_2)] =I4 edges_0_p edges_0_n edges_0_c at_1 n_2:=by kernel_rfl
end Go.Proofs.YteolcjbobmpdiaaGreatDoor

namespace Go.Proofs.YteolcjbobmpdiaaGreatDoor
open Go Go.Eng
set_option maxRecDepth 100000
theorem mixed:Tryz.prog.follows .mixedOrders=true:=by kernel_rfl
set_option linter.unusedVariables false
abbrev Rq0:=Rep.prod (Rep.ro Ro.str) (Rep.prod (Rep.row 9 Ro.str) (Rep.prod (Rep.ro Ro.str) (Rep.ro Ro.str)))
abbrev Rq1:=Rep.prod (Rep.ro (Ro.int .i64)) (Rep.prod (Rep.row 3 (Ro.int .i64)) (Rep.ro (Ro.int .i64)))
abbrev Wq0 (r:Nat) (s:Int×Int×Slc×Slc×Slc×Slc×Slc×Unit):Chk:=cW 25 r [.int .u8 s.1, .int .u8 s.2.1,sv s.2.2.1,sv s.2.2.2.1,sv s.2.2.2.2.1,sv s.2.2.2.2.2.1,sv s.2.2.2.2.2.2.1]
abbrev Wq1 (r:Nat) (s:Slc×Slc×Slc×ByteArray×Slc×Unit):Chk:=cW 107 r [sv s.1,sv s.2.1,sv s.2.2.1, .string s.2.2.2.1,sv s.2.2.2.2.1]
abbrev Wq2 (r:Nat) (s:Pl6):Chk:=cW 32 r [sv s.1,sv s.2.1,sv s.2.2.1,sv s.2.2.2.1,sv s.2.2.2.2.1,sv s.2.2.2.2.2.1]
abbrev Wq3 (r:Nat) (s:ByteArray×ByteArray×Bool×Unit):Chk:=cW 174 r [.string s.1, .string s.2.1, .bool s.2.2.1]
abbrev Wq4 (r:Nat):Chk:=cW 107 r [.slice none 0 0, .slice none 0 0, .slice none 0 0, .string ({data:= #[] }), .slice none 0 0]
abbrev Wq5 (r:Nat):Chk:=cW 32 r [.slice none 0 0, .slice none 0 0, .slice none 0 0, .slice none 0 0, .slice none 0 0, .slice none 0 0]
abbrev Wq6 (r:Nat):Chk:=cW 150 r [.slice none 0 0, .slice none 0 0, .slice none 0 0, .int .i64 (0:Int), .int .i64 (0:Int)]
abbrev Wq7 (r:Nat) (s:Slc×Slc×Slc×Int×Unit):Chk:=cW 133 r [sv s.1,sv s.2.1,sv s.2.2.1, .int .i64 s.2.2.2.1]
noncomputable def BS (s_0:KQ) (rules_1:Int) (right_2:Int):Option Bool:=
 (cond (decide ((((List.length s_0.2.2.1):Nat):Int) >rules_1))
 (some true)
 (some (decide ((((List.length s_0.2.2.2.2.2.1):Nat):Int) >(5:Int))))).bind fun z2=>
 cond z2
 (some false)
 ((Cf (σ:=Unit) (β:=Bool) (0:Int) (((List.length s_0.2.2.2.1):Nat):Int) () fun i_z6 z6=>
  (idx s_0.2.2.2.1 i_z6).bind fun e38=>
  cond (decide ((((List.length e38):Nat):Int) >right_2))
  (some (AU.done false))
  (some (AU.next ()))).bind fun e_z5=>match e_z5 with
  | .next z5=>
   some true
  | .done q53=>some q53)
theorem DV {φ:AC} {h:AH} {F:List Chk} {s_0:Int×Int×Slc×Slc×Slc×Slc×Slc×Unit} {i:List Int} {j:List (List Int)} {m:List Int} {k:List Int} {n:List Int} {rules_1:Int} {right_2:Int} (z:Ro.SliceIs (Ro.int .u8) φ s_0.2.2.1 i) (o:Ro.SliceIs (Ro.list (Ro.int .u8)) φ s_0.2.2.2.1 j) (aj:Ro.SliceIs (Ro.int .u8) φ s_0.2.2.2.2.1 m) (a0:Ro.SliceIs (Ro.int .u8) φ s_0.2.2.2.2.2.1 k) (ak:Ro.SliceIs (Ro.int .u8) φ s_0.2.2.2.2.2.2.1 n) (s0:St φ (F) h) {r:Bool} (hd:BS (s_0.1,s_0.2.1,i,j,m,k,n) rules_1 right_2=some r):
 CallsH Tryz.prog 14 [(.agg #[(.int .u8 s_0.1),(.int .u8 s_0.2.1),(sv s_0.2.2.1),(sv s_0.2.2.2.1),(sv s_0.2.2.2.2.1),(sv s_0.2.2.2.2.2.1),(sv s_0.2.2.2.2.2.2.1)]),(.int .i64 rules_1),(.int .i64 right_2)] h (Ar fun v h'=> ∃ψ:AC,∃y:Bool,Sub φ ψ∧v=((.one aB):Sh).val y∧y=r∧St ψ (F) h'):=by
 refine AR mixed Tryz.func14 ?_
 rw [F8]
 unfold Dz
 unfold BS at hd
 have a1:s_0.2.2.1.2.1=List.length i:=z.length
 have p:s_0.2.2.2.1.2.1=List.length j:=o.length
 have a2:s_0.2.2.2.2.2.1.2.1=List.length k:=a0.length
 refine AY (vs:= [.int .u8 s_0.1, .int .u8 s_0.2.1,sv s_0.2.2.1,sv s_0.2.2.2.1,sv s_0.2.2.2.2.1,sv s_0.2.2.2.2.2.1,sv s_0.2.2.2.2.2.2.1]) s0 fun r1 al d=> ?_
 obtain ⟨a3,b,hd⟩:=bS hd
 refine Ao (fun (y:Bool×Unit) w_ g=> ∃ψ:AC,Sub φ ψ∧y.1=g∧St ψ (Wq0 r1 s_0::F) w_) (g:=a3) ?_ ?_
 ·refine AA (x:=s_0.2.2.1) d rfl ?_
  refine AL b (by rw [a1] <;>rfl) (fun _ b=> ?_) (fun _ b=> ?_)
  ·obtain rfl:=iS b
   exact AS (true,()) rfl ⟨φ,(Sub.refl _),rfl,d⟩
  refine AA (x:=s_0.2.2.2.2.2.1) d rfl ?_
  obtain rfl:=iS b
  exact AS ((decide (((s_0.2.2.2.2.2.1.2.1:Nat):Int) >(5:Int))),()) rfl ⟨φ,(Sub.refl _),(by rw [a2]),d⟩
 rintro z2 am ⟨e,f,rfl,q⟩
 try dsimp only at hd
 refine AL hd rfl (fun _ hd=> ?_) (fun _ hd=> ?_)
 ·obtain rfl:=iS hd
  exact AB ⟨e,false,f,rfl,rfl,q.tail⟩
 obtain ⟨a4,a5,hd⟩:=bS hd
 refine AT (fun (y:Int×Bool×Unit) w_ g=> ∃ψ:AC,Sub e ψ∧AU.next ()=g∧St ψ (Wq0 r1 s_0::F) w_) (g:=a4) ?_ ?_
 ·refine Be a5 (fun a6 (y:Int×Bool×Unit) w_ g=> ∃ψ:AC,Sub e ψ∧y.1=a6∧()=g∧St ψ (Wq0 r1 s_0::F) w_) ((0:Int),false,()) rfl ⟨e,(Sub.refl _),rfl,rfl,q⟩ ?_ ?_
  ·rintro _ z6 an _ _ ⟨s,l,rfl,rfl,c⟩ a a7 t u a8
   try dsimp only at a a7 t u
   refine AA (x:=s_0.2.2.2.1) c rfl ?_
   refine Ai (dT p t) ?_
   refine AA (x:=s_0.2.2.2.1) c rfl ?_
   obtain ⟨ao,a9,a⟩:=bS a
   refine OG o a9 (Sub.trans (f.trans l) c.sub) fun ap aa=> ?_
   have ab:=aa.length
   refine AL a (by rw [ab] <;>rfl) (fun _ a=> ?_) (fun _ a=> ?_)
   ·obtain rfl:=iS a
    obtain rfl:=a8 _ rfl
    try dsimp only at hd
    obtain rfl:=iS hd
    exact Af (Ah (AB ⟨s,false,(f.trans l),rfl,rfl,c.tail⟩))
   obtain rfl:=iS a
   exact Ag ((wN z6.1),z6.2.1,()) _ rfl rfl ⟨s,l,u,rfl,c⟩
  ·rintro _ z6 aq _ ⟨ac,ad,rfl,rfl,w⟩ ae af
   subst af
   refine AA (x:=s_0.2.2.2.1) w rfl ?_
   refine AX (dF p ae) ?_
   exact AJ (AK (z6.1,z6.2.1,()) rfl ⟨ac,ad,rfl,w⟩)
 rintro z5 ar ⟨ag,ah,rfl,ai⟩
 try dsimp only at hd
 obtain rfl:=iS hd
 exact AB ⟨ag,true,(f.trans ah),rfl,rfl,ai.tail⟩
noncomputable def Bw (l_0:List Int) (x_1:Int):Option Bool:=
 (Cf (σ:=Unit) (β:=Bool) (0:Int) (((List.length l_0):Nat):Int) () fun i_z2 z2=>
  (idx l_0 i_z2).bind fun e17=>
  cond (e17==x_1)
  (some (AU.done true))
  (some (AU.next ()))).bind fun e_z1=>match e_z1 with
 | .next z1=>
  some false
 | .done q30=>some q30
theorem Ds {φ:AC} {h:AH} {F:List Chk} {l_0:Slc} {b:List Int} {x_1:Int} (e:Ro.SliceIs (Ro.int .i64) φ l_0 b) (s0:St φ (F) h) {r:Bool} (hd:Bw b x_1=some r):
 CallsH Tryz.prog 31 [(sv l_0),(.int .i64 x_1)] h (Ar fun v h'=> ∃ψ:AC,∃y:Bool,Sub φ ψ∧v=((.one aB):Sh).val y∧y=r∧St ψ (F) h'):=by
 refine AR mixed Tryz.func31 ?_
 rw [Jo]
 unfold Ga
 unfold Bw at hd
 have f:l_0.2.1=List.length b:=e.length
 obtain ⟨l,m,hd⟩:=bS hd
 refine AT (fun (y:Int×Bool×Unit) w_ g=> ∃ψ:AC,Sub φ ψ∧AU.next ()=g∧St ψ (F) w_) (g:=l) ?_ ?_
 ·refine Be m (fun n (y:Int×Bool×Unit) w_ g=> ∃ψ:AC,Sub φ ψ∧y.1=n∧()=g∧St ψ (F) w_) ((0:Int),false,()) rfl ⟨φ,(Sub.refl _),rfl,rfl,s0⟩ ?_ ?_
  ·rintro _ z2 a2 _ _ ⟨i,c,rfl,rfl,d⟩ a o j k p
   try dsimp only at a o j k
   refine Ai (dT f j) ?_
   obtain ⟨a3,q,a⟩:=bS a
   refine CV e q (Sub.trans c d.sub) ?_
   refine AL a rfl (fun _ a=> ?_) (fun _ a=> ?_)
   ·obtain rfl:=iS a
    obtain rfl:=p _ rfl
    try dsimp only at hd
    obtain rfl:=iS hd
    exact Af (Ah (AB ⟨i,true,c,rfl,rfl,d⟩))
   obtain rfl:=iS a
   exact Ag ((wN z2.1),z2.2.1,()) _ rfl rfl ⟨i,c,k,rfl,d⟩
  ·rintro _ z2 a4 _ ⟨s,t,rfl,rfl,u⟩ w x
   subst x
   refine AX (dF f w) ?_
   exact AJ (AK (z2.1,z2.2.1,()) rfl ⟨s,t,rfl,u⟩)
 rintro z1 a5 ⟨z,a0,rfl,a1⟩
 try dsimp only at hd
 obtain rfl:=iS hd
 exact AB ⟨z,false,a0,rfl,rfl,a1⟩
noncomputable def Fv (n_0:Int):Option Int:=
 some (if (if (1099511627776:Int) <n_0 then (1099511627776:Int) else n_0) >(0:Int) then (if (1099511627776:Int) <n_0 then (1099511627776:Int) else n_0) else (0:Int))
theorem MY {φ:AC} {h:AH} {F:List Chk} {n_0:Int} (s0:St φ (F) h) {r:Int} (hd:Fv n_0=some r):
 CallsH Tryz.prog 124 [(.int .i64 n_0)] h (Ar fun v h'=> ∃ψ:AC,∃y:Int,Sub φ ψ∧v=((.one aI):Sh).val y∧y=r∧St ψ (F) h'):=by
 refine AR mixed Tryz.func124 ?_
 rw [MV]
 unfold Kn
 unfold Fv at hd
 obtain rfl:=iS hd
 exact AB ⟨φ,(if (if (1099511627776:Int) <n_0 then (1099511627776:Int) else n_0) >(0:Int) then (if (1099511627776:Int) <n_0 then (1099511627776:Int) else n_0) else (0:Int)),(Sub.refl _),rfl,rfl,s0⟩
noncomputable def EI (limit_0:Int):Option CX:=
 (Fv limit_0).bind fun t1=>
 some (t1,(0:Int),(0:Int))
theorem KC {φ:AC} {h:AH} {F:List Chk} {limit_0:Int} (s0:St φ (F) h) {r:CX} (hd:EI limit_0=some r):
 CallsH Tryz.prog 98 [(.int .i64 limit_0)] h (Ar fun v h'=> ∃ψ:AC,∃y:Option Addr,∃a:CX,Sub φ ψ∧v=((.one aP):Sh).val y∧a=r∧St ψ (cO 211 (Rep.ro FD) y a::F) h'):=by
 refine AR mixed Tryz.func98 ?_
 rw [NH]
 unfold Lw
 unfold EI at hd
 obtain ⟨i,b,hd⟩:=bS hd
 refine AI (MY s0 b) ?_
 rintro _ j ⟨c,t1,d,rfl,rfl,e⟩
 refine ⟨t1,rfl,?_⟩
 refine AY (vs:= [.int .i64 t1, .int .i64 (0:Int), .int .i64 (0:Int)]) e fun r2 k f=> ?_
 have g:=St.shutR (r:=FD) (x:=(t1,(0:Int),(0:Int))) f ⟨[_],_,rfl,rfl,⟨[_],_,rfl,rfl,rfl⟩⟩
 obtain rfl:=iS hd
 exact AB ⟨c,(some ⟨r2,0,none⟩),(t1,(0:Int),(0:Int)),d,rfl,rfl,g⟩
noncomputable def C5 (m_0:CX):Option Int:=
 some (IntKind.wrap .i64 ((m_0.1) - (m_0.2.1)))
theorem I5 {φ:AC} {h:AH} {F:List Chk} {m_0:Option Addr} {a:CX} (s0:St φ (cO 211 (Rep.ro FD) m_0 a::F) h) {r:Int} (hd:C5 a=some r):
 CallsH Tryz.prog 129 [(.pointer m_0)] h (Ar fun v h'=> ∃ψ:AC,∃y:Int,Sub φ ψ∧v=((.one aI):Sh).val y∧y=r∧St ψ (cO 211 (Rep.ro FD) m_0 a::F) h'):=by
 refine AR mixed Tryz.func129 ?_
 rw [Iz]
 unfold GD
 unfold C5 at hd
 obtain ⟨e,f,c,⟨_,_,rfl,rfl,_,_,rfl,rfl,rfl⟩,b⟩:=St.openR s0
 subst c
 refine AF _ rfl ?_
 refine AA (x:=(a.1)) b rfl ?_
 refine AF _ rfl ?_
 refine AA (x:=(a.2.1)) b rfl ?_
 have d:=St.shutR (r:=FD) (x:=((a.1),(a.2.1),(a.2.2))) b ⟨[_],_,rfl,rfl,⟨[_],_,rfl,rfl,rfl⟩⟩
 obtain rfl:=iS hd
 exact AB ⟨φ,(IntKind.wrap .i64 ((a.1) - (a.2.1))),(Sub.refl _),rfl,rfl,d⟩
noncomputable def CC (m_0:CX) (n_1:Int):Option (Int×CX):=
 cond (decide (n_1< (0:Int)))
 (some ((1:Int),m_0))
 ((C5 m_0).bind fun t1=>
  cond (decide (n_1>t1))
  (some ((5:Int),m_0))
  (some ((0:Int),((m_0.1),(IntKind.wrap .i64 ((m_0.2.1) +n_1)),(if (IntKind.wrap .i64 ((m_0.2.1) +n_1)) >(m_0.2.2) then (IntKind.wrap .i64 ((m_0.2.1) +n_1)) else (m_0.2.2))))))
theorem FJ {φ:AC} {h:AH} {F:List Chk} {m_0:Option Addr} {a:CX} {n_1:Int} (s0:St φ (cO 211 (Rep.ro FD) m_0 a::F) h) {r:(Int×CX)} (hd:CC a n_1=some r):
 CallsH Tryz.prog 102 [(.pointer m_0),(.int .i64 n_1)] h (Ar fun v h'=> ∃ψ:AC,∃y:Int,∃c:CX,Sub φ ψ∧v=((.one aI):Sh).val y∧(y,c)=r∧St ψ (cO 211 (Rep.ro FD) m_0 c::F) h'):=by
 refine AR mixed Tryz.func102 ?_
 rw [Ix]
 unfold GB
 unfold CC at hd
 refine AL hd rfl (fun _ hd=> ?_) (fun _ hd=> ?_)
 ·obtain rfl:=iS hd
  exact AB ⟨φ,(1:Int),a,(Sub.refl _),rfl,rfl,s0⟩
 obtain ⟨m,i,hd⟩:=bS hd
 refine AI (I5 s0 i) ?_
 rintro _ n ⟨d,t1,e,rfl,rfl,f⟩
 refine ⟨t1,rfl,?_⟩
 refine AL hd rfl (fun _ hd=> ?_) (fun _ hd=> ?_)
 ·obtain rfl:=iS hd
  exact AB ⟨d,(5:Int),a,e,rfl,rfl,f⟩
 obtain ⟨o,p,j,⟨_,_,rfl,rfl,_,_,rfl,rfl,rfl⟩,g⟩:=St.openR f
 subst j
 refine AF _ rfl ?_
 refine AA (x:=(a.2.1)) g rfl ?_
 refine AF _ rfl ?_
 refine AQ g rfl rfl fun q b=> ?_
 refine AF _ rfl ?_
 refine AA (x:=(a.2.2)) b rfl ?_
 refine AF _ rfl ?_
 refine AA (x:=(IntKind.wrap .i64 ((a.2.1) +n_1))) b rfl ?_
 refine AF _ rfl ?_
 refine AQ b rfl rfl fun s k=> ?_
 have l:=St.shutR (r:=FD) (x:=((a.1),(IntKind.wrap .i64 ((a.2.1) +n_1)),(if (IntKind.wrap .i64 ((a.2.1) +n_1)) >(a.2.2) then (IntKind.wrap .i64 ((a.2.1) +n_1)) else (a.2.2)))) k ⟨[_],_,rfl,rfl,⟨[_],_,rfl,rfl,rfl⟩⟩
 obtain rfl:=iS hd
 exact AB ⟨d,(0:Int),((a.1),(IntKind.wrap .i64 ((a.2.1) +n_1)),(if (IntKind.wrap .i64 ((a.2.1) +n_1)) >(a.2.2) then (IntKind.wrap .i64 ((a.2.1) +n_1)) else (a.2.2))),e,rfl,rfl,l⟩
noncomputable def C6 (m_0:CX):Option Int:=
 some (m_0.2.1)
theorem I6 {φ:AC} {h:AH} {F:List Chk} {m_0:Option Addr} {a:CX} (s0:St φ (cO 211 (Rep.ro FD) m_0 a::F) h) {r:Int} (hd:C6 a=some r):
 CallsH Tryz.prog 105 [(.pointer m_0)] h (Ar fun v h'=> ∃ψ:AC,∃y:Int,Sub φ ψ∧v=((.one aI):Sh).val y∧y=r∧St ψ (cO 211 (Rep.ro FD) m_0 a::F) h'):=by
 refine AR mixed Tryz.func105 ?_
 rw [Iy]
 unfold GC
 unfold C6 at hd
 obtain ⟨e,f,c,⟨_,_,rfl,rfl,_,_,rfl,rfl,rfl⟩,b⟩:=St.openR s0
 subst c
 refine AF _ rfl ?_
 refine AA (x:=(a.2.1)) b rfl ?_
 have d:=St.shutR (r:=FD) (x:=((a.1),(a.2.1),(a.2.2))) b ⟨[_],_,rfl,rfl,⟨[_],_,rfl,rfl,rfl⟩⟩
 obtain rfl:=iS hd
 exact AB ⟨φ,(a.2.1),(Sub.refl _),rfl,rfl,d⟩
noncomputable def As (l_0:List ByteArray) (s_1:ByteArray):Option Int:=
 (Cf (σ:=Unit) (β:=Int) (0:Int) (((List.length l_0):Nat):Int) () fun i_z2 z2=>
  (idx l_0 i_z2).bind fun e17=>
  cond (ByteArray.toList e17==ByteArray.toList s_1)
  (some (AU.done i_z2))
  (some (AU.next ()))).bind fun e_z1=>match e_z1 with
 | .next z1=>
  some (-1:Int)
 | .done q30=>some q30
theorem GS {φ:AC} {h:AH} {F:List Chk} {l_0:Slc} {b:List ByteArray} {s_1:ByteArray} (e:Ro.SliceIs Ro.str φ l_0 b) (s0:St φ (F) h) {r:Int} (hd:As b s_1=some r):
 CallsH Tryz.prog 93 [(sv l_0),(.string s_1)] h (Ar fun v h'=> ∃ψ:AC,∃y:Int,Sub φ ψ∧v=((.one aI):Sh).val y∧y=r∧St ψ (F) h'):=by
 refine AR mixed Tryz.func93 ?_
 rw [EV]
 unfold DU
 unfold As at hd
 have f:l_0.2.1=List.length b:=e.length
 obtain ⟨l,m,hd⟩:=bS hd
 refine AT (fun (y:Int×Int×Unit) w_ g=> ∃ψ:AC,Sub φ ψ∧AU.next ()=g∧St ψ (F) w_) (g:=l) ?_ ?_
 ·refine Be m (fun n (y:Int×Int×Unit) w_ g=> ∃ψ:AC,Sub φ ψ∧y.1=n∧()=g∧St ψ (F) w_) ((0:Int),(0:Int),()) rfl ⟨φ,(Sub.refl _),rfl,rfl,s0⟩ ?_ ?_
  ·rintro _ z2 a2 _ _ ⟨i,c,rfl,rfl,d⟩ a o j k p
   try dsimp only at a o j k
   refine Ai (dT f j) ?_
   obtain ⟨a3,q,a⟩:=bS a
   refine CV e q (Sub.trans c d.sub) ?_
   refine AL a rfl (fun _ a=> ?_) (fun _ a=> ?_)
   ·obtain rfl:=iS a
    obtain rfl:=p _ rfl
    try dsimp only at hd
    obtain rfl:=iS hd
    exact Af (Ah (AB ⟨i,z2.1,c,rfl,rfl,d⟩))
   obtain rfl:=iS a
   exact Ag ((wN z2.1),z2.2.1,()) _ rfl rfl ⟨i,c,k,rfl,d⟩
  ·rintro _ z2 a4 _ ⟨s,t,rfl,rfl,u⟩ w x
   subst x
   refine AX (dF f w) ?_
   exact AJ (AK (z2.1,z2.2.1,()) rfl ⟨s,t,rfl,u⟩)
 rintro z1 a5 ⟨z,a0,rfl,a1⟩
 try dsimp only at hd
 obtain rfl:=iS hd
 exact AB ⟨z,(-1:Int),a0,rfl,rfl,a1⟩
theorem Bc {φ:AC} {h:AH} {F:List Chk} {l_0:Slc} {b:List ByteArray} {s_1:ByteArray} (s0:St φ (cR 9 Ro.str l_0 b::F) h) {r:Int} (hd:As b s_1=some r):
 CallsH Tryz.prog 93 [(sv l_0),(.string s_1)] h (Ar fun v h'=> ∃ψ:AC,∃y:Int,Sub φ ψ∧v=((.one aI):Sh).val y∧y=r∧St ψ (cR 9 Ro.str l_0 b::F) h'):=by
 refine AR mixed Tryz.func93 ?_
 rw [EV]
 unfold DU
 unfold As at hd
 have d:l_0.2.1=List.length b:=(s0).rowLen
 obtain ⟨k,l,hd⟩:=bS hd
 refine AT (fun (y:Int×Int×Unit) w_ g=> ∃ψ:AC,Sub φ ψ∧AU.next ()=g∧St ψ (cR 9 Ro.str l_0 b::F) w_) (g:=k) ?_ ?_
 ·refine Be l (fun m (y:Int×Int×Unit) w_ g=> ∃ψ:AC,Sub φ ψ∧y.1=m∧()=g∧St ψ (cR 9 Ro.str l_0 b::F) w_) ((0:Int),(0:Int),()) rfl ⟨φ,(Sub.refl _),rfl,rfl,s0⟩ ?_ ?_
  ·rintro _ z2 a1 _ _ ⟨e,f,rfl,rfl,c⟩ a n i j o
   try dsimp only at a n i j
   refine Ai (dT d i) ?_
   obtain ⟨a2,p,a⟩:=bS a
   refine Is c p ?_
   refine AL a rfl (fun _ a=> ?_) (fun _ a=> ?_)
   ·obtain rfl:=iS a
    obtain rfl:=o _ rfl
    try dsimp only at hd
    obtain rfl:=iS hd
    exact Af (Ah (AB ⟨e,z2.1,f,rfl,rfl,c⟩))
   obtain rfl:=iS a
   exact Ag ((wN z2.1),z2.2.1,()) _ rfl rfl ⟨e,f,j,rfl,c⟩
  ·rintro _ z2 a3 _ ⟨q,s,rfl,rfl,t⟩ u w
   subst w
   refine AX (dF d u) ?_
   exact AJ (AK (z2.1,z2.2.1,()) rfl ⟨q,s,rfl,t⟩)
 rintro z1 a4 ⟨x,z,rfl,a0⟩
 try dsimp only at hd
 obtain rfl:=iS hd
 exact AB ⟨x,(-1:Int),z,rfl,rfl,a0⟩
noncomputable def Br (g_0:CW) (name_1:ByteArray):Option Int:=
 (Cf (σ:=Unit) (β:=Int) (0:Int) (((List.length g_0.2.2.1):Nat):Int) () fun i_z3 z3=>
  (idx g_0.2.2.1 i_z3).bind fun e31=>
  (As e31.2 name_1).bind fun t8=>
  cond (decide (t8≥ (0:Int)))
  (some (AU.done (IntKind.wrap .i64 (i_z3+(1:Int)))))
  (some (AU.next ()))).bind fun e_z2=>match e_z2 with
 | .next z2=>
  some (0:Int)
 | .done q57=>some q57
theorem EY {φ:AC} {h:AH} {F:List Chk} {g_0:Slc×Slc×Slc×ByteArray×Slc×Unit} {e:List F6} {f:List G7} {c:List ET} {i:List C3} {name_1:ByteArray} (ai:Ro.SliceIs GY φ g_0.1 e) (aj:Ro.SliceIs Kk φ g_0.2.1 f) (j:Ro.SliceIs GZ φ g_0.2.2.1 c) (ak:Ro.SliceIs F7 φ g_0.2.2.2.2.1 i) (s0:St φ (F) h) {r:Int} (hd:Br (e,f,c,g_0.2.2.2.1,i) name_1=some r):
 CallsH Tryz.prog 94 [(.agg #[(sv g_0.1),(sv g_0.2.1),(sv g_0.2.2.1),(.string g_0.2.2.2.1),(sv g_0.2.2.2.2.1)]),(.string name_1)] h (Ar fun v h'=> ∃ψ:AC,∃y:Int,Sub φ ψ∧v=((.one aI):Sh).val y∧y=r∧St ψ (F) h'):=by
 refine AR mixed Tryz.func94 ?_
 rw [Hh]
 unfold FG
 unfold Br at hd
 have k:g_0.2.2.1.2.1=List.length c:=j.length
 refine AY (vs:= [sv g_0.1,sv g_0.2.1,sv g_0.2.2.1, .string g_0.2.2.2.1,sv g_0.2.2.2.2.1]) s0 fun r1 al s=> ?_
 obtain ⟨t,u,hd⟩:=bS hd
 refine AT (fun (y:Int×Int×Unit) w_ g=> ∃ψ:AC,Sub φ ψ∧AU.next ()=g∧St ψ (Wq1 r1 g_0::F) w_) (g:=t) ?_ ?_
 ·refine Be u (fun w (y:Int×Int×Unit) w_ g=> ∃ψ:AC,Sub φ ψ∧y.1=w∧()=g∧St ψ (Wq1 r1 g_0::F) w_) ((0:Int),(0:Int),()) rfl ⟨φ,(Sub.refl _),rfl,rfl,s⟩ ?_ ?_
  ·rintro _ z3 am _ _ ⟨an,d,rfl,rfl,b⟩ a z l m a0
   try dsimp only at a z l m
   refine AA (x:=g_0.2.2.1) b rfl ?_
   refine Ai (dT k l) ?_
   refine AA (x:=g_0.2.2.1) b rfl ?_
   obtain ⟨ao,a1,a⟩:=bS a
   obtain ⟨ap,aq,a2,a3,a4,a5⟩:=(j.mono d).get a1
   refine AF _ a2 (Aa a3 ?_)
   obtain ⟨_,_,rfl,a6,a7⟩:=a4
   obtain rfl:=a6
   obtain ⟨a8,rfl,a9⟩:=a7
   refine AG (x:=a8) (by rw [Ae]; exact (AE b.sub (a5 1 _ rfl))) rfl ?_
   obtain ⟨ar,aa,a⟩:=bS a
   refine AI (GS a9 b aa) ?_
   rintro _ au ⟨n,t8,o,rfl,rfl,p⟩
   refine ⟨t8,rfl,?_⟩
   refine AL a rfl (fun _ a=> ?_) (fun _ a=> ?_)
   ·obtain rfl:=iS a
    obtain rfl:=a0 _ rfl
    try dsimp only at hd
    obtain rfl:=iS hd
    exact Af (Ah (AB ⟨n,(wN z3.1),(d.trans o),rfl,rfl,p.tail⟩))
   obtain rfl:=iS a
   exact Ag ((wN z3.1),z3.2.1,()) _ rfl rfl ⟨n,(d.trans o),m,rfl,p⟩
  ·rintro _ z3 av _ ⟨ab,ac,rfl,rfl,q⟩ ad ae
   subst ae
   refine AA (x:=g_0.2.2.1) q rfl ?_
   refine AX (dF k ad) ?_
   exact AJ (AK (z3.1,z3.2.1,()) rfl ⟨ab,ac,rfl,q⟩)
 rintro z2 aw ⟨af,ag,rfl,ah⟩
 try dsimp only at hd
 obtain rfl:=iS hd
 exact AB ⟨af,(0:Int),ag,rfl,rfl,ah.tail⟩
noncomputable def BP (p_0:(List ByteArray×List ByteArray)) (name_1:ByteArray):Option Int:=
 (As p_0.1 name_1).bind fun t3=>
 cond (decide (t3≥ (0:Int)))
 (some t3)
 ((As p_0.2 name_1).bind fun t5=>
  cond (decide (t5≥ (0:Int)))
  (some (IntKind.wrap .i64 ((((List.length p_0.1):Nat):Int) +t5)))
  (some (-1:Int)))
theorem Ct {φ:AC} {h:AH} {F:List Chk} {p_0:Pl6} {a:List ByteArray} {b:List ByteArray} {name_1:ByteArray} (s0:St φ (cR 9 Ro.str p_0.1 a::cR 9 Ro.str p_0.2.1 b::F) h) {r:Int} (hd:BP (a,b) name_1=some r):
 CallsH Tryz.prog 95 [(aG p_0),(.string name_1)] h (Ar fun v h'=> ∃ψ:AC,∃y:Int,Sub φ ψ∧v=((.one aI):Sh).val y∧y=r∧St ψ (cR 9 Ro.str p_0.1 a::cR 9 Ro.str p_0.2.1 b::F) h'):=by
 refine AR mixed Tryz.func95 ?_
 rw [I2]
 unfold GE
 unfold BP at hd
 have j:p_0.1.2.1=List.length a:=(s0).rowLen
 refine AY (vs:= [sv p_0.1,sv p_0.2.1,sv p_0.2.2.1,sv p_0.2.2.2.1,sv p_0.2.2.2.2.1,sv p_0.2.2.2.2.2.1]) s0 fun r1 o f=> ?_
 refine AA (x:=p_0.1) f rfl ?_
 obtain ⟨p,k,hd⟩:=bS hd
 refine AI (Bc f.at1 k) ?_
 rintro _ q ⟨l,t3,c,rfl,rfl,d⟩
 refine ⟨t3,rfl,?_⟩
 refine AL hd rfl (fun _ hd=> ?_) (fun _ hd=> ?_)
 ·obtain rfl:=iS hd
  exact AB ⟨l,t3,c,rfl,rfl,d.at1.tail.at1.at1⟩
 refine AA (x:=p_0.2.1) d.at1 rfl ?_
 obtain ⟨s,m,hd⟩:=bS hd
 refine AI (Bc d.at2 m) ?_
 rintro _ t ⟨g,t5,i,rfl,rfl,e⟩
 refine ⟨t5,rfl,?_⟩
 refine AL hd rfl (fun _ hd=> ?_) (fun _ hd=> ?_)
 ·refine AA (x:=p_0.1) e.at2 rfl ?_
  obtain rfl:=iS hd
  have n:=e.at2.tail.at1
  exact AB ⟨g,(IntKind.wrap .i64 (((p_0.1.2.1:Nat):Int) +t5)),(c.trans i),rfl,(by rw [j]),n⟩
 obtain rfl:=iS hd
 exact AB ⟨g,(-1:Int),(c.trans i),rfl,rfl,e.at2.tail.at1⟩
noncomputable def Bd (a_0:Gx) (x_1:Bu):Option Int:=
 (idx a_0.2.2.1 x_1.1).bind fun e33=>
 cond (decide (x_1.2≥ (((List.length e33.2.1):Nat):Int)))
 (some (-1:Int))
 ((idx e33.2.1 x_1.2).bind fun e45=>
  some e45)
theorem C7 {φ:AC} {h:AH} {F:List Chk} {a_0:Option Addr} {a:Gx} {x_1:Int×Int×Unit} (s0:St φ (cO 131 (Rep.ro B2) a_0 a::F) h) {r:Int} (hd:Bd a (x_1.1,x_1.2.1)=some r):
 CallsH Tryz.prog 126 [(.pointer a_0),(.agg #[(.int .i64 x_1.1),(.int .i64 x_1.2.1)])] h (Ar fun v h'=> ∃ψ:AC,∃y:Int,Sub φ ψ∧v=((.one aI):Sh).val y∧y=r∧St ψ (cO 131 (Rep.ro B2) a_0 a::F) h'):=by
 refine AR mixed Tryz.func126 ?_
 rw [Hf]
 unfold FE
 unfold Bd at hd
 refine AY (vs:= [.int .i64 x_1.1, .int .i64 x_1.2.1]) s0 fun r1 ab q=> ?_
 obtain ⟨ac,ad,s,⟨_,_,rfl,⟨e,rfl,f⟩,_,_,rfl,⟨g,rfl,i⟩,_,_,rfl,⟨c,rfl,d⟩,_,_,rfl,⟨j,rfl,k⟩,_,_,rfl,⟨l,rfl,m⟩,_,_,rfl,⟨n,rfl,o⟩,_,_,rfl,rfl,rfl⟩,b⟩:=St.openR q.at1
 subst s
 refine AF _ rfl ?_
 refine AA (x:=c) b rfl ?_
 refine AA (x:=x_1.1) b.at1 rfl ?_
 obtain ⟨ae,t,hd⟩:=bS hd
 obtain ⟨af,ag,u,w,z,a0⟩:=d.get t
 refine AF _ u (Aa w ?_)
 obtain ⟨_,_,rfl,a1,a2⟩:=z
 obtain rfl:=a1
 obtain ⟨_,_,rfl,a3,a4⟩:=a2
 obtain ⟨a5,rfl,p⟩:=a3
 have a6:=p.length
 obtain rfl:=a4
 refine AG (x:=a5) (by rw [Ae]; exact (AE b.sub (a0 1 _ rfl))) rfl ?_
 refine AA (x:=x_1.2.1) b.at1 rfl ?_
 refine AL hd (by rw [a6] <;>rfl) (fun _ hd=> ?_) (fun _ hd=> ?_)
 ·have a7:=St.shutR (r:=B2) (x:=(a.1,a.2.1,a.2.2.1,a.2.2.2.1,a.2.2.2.2.1,a.2.2.2.2.2.1,a.2.2.2.2.2.2.1,(a.2.2.2.2.2.2.2))) b ⟨[_],_,rfl,⟨e,rfl,f⟩,⟨[_],_,rfl,⟨g,rfl,i⟩,⟨[_],_,rfl,⟨c,rfl,d⟩,⟨[_],_,rfl,⟨j,rfl,k⟩,⟨[_],_,rfl,⟨l,rfl,m⟩,⟨[_],_,rfl,⟨n,rfl,o⟩,⟨[_],_,rfl,rfl,rfl⟩⟩⟩⟩⟩⟩⟩
  obtain rfl:=iS hd
  exact AB ⟨φ,(-1:Int),(Sub.refl _),rfl,rfl,a7.at1.tail⟩
 refine AA (x:=x_1.2.1) b.at1 rfl ?_
 obtain ⟨a8,a9,hd⟩:=bS hd
 refine CV p a9 b.sub ?_
 have aa:=St.shutR (r:=B2) (x:=(a.1,a.2.1,a.2.2.1,a.2.2.2.1,a.2.2.2.2.1,a.2.2.2.2.2.1,a.2.2.2.2.2.2.1,(a.2.2.2.2.2.2.2))) b ⟨[_],_,rfl,⟨e,rfl,f⟩,⟨[_],_,rfl,⟨g,rfl,i⟩,⟨[_],_,rfl,⟨c,rfl,d⟩,⟨[_],_,rfl,⟨j,rfl,k⟩,⟨[_],_,rfl,⟨l,rfl,m⟩,⟨[_],_,rfl,⟨n,rfl,o⟩,⟨[_],_,rfl,rfl,rfl⟩⟩⟩⟩⟩⟩⟩
 obtain rfl:=iS hd
 exact AB ⟨φ,a8,(Sub.refl _),rfl,rfl,aa.at1.tail⟩
noncomputable def BZ (p_0:Ay) (sym_1:Int):Option Bool:=
 (cond (decide (sym_1≥ (0:Int)))
 (some (decide (sym_1< (((List.length p_0.1):Nat):Int))))
 (some false)).bind fun z2=>
 some z2
theorem EZ {φ:AC} {h:AH} {F:List Chk} {p_0:Pl6} {b:List ByteArray} {d:List ByteArray} {e:List BC} {f:List Int} {i:List Int} {j:List ByteArray} {sym_1:Int} (k:Ro.SliceIs Ro.str φ p_0.1 b) (q:Ro.SliceIs Ro.str φ p_0.2.1 d) (s:Ro.SliceIs CF φ p_0.2.2.1 e) (t:Ro.SliceIs (Ro.int .i64) φ p_0.2.2.2.1 f) (u:Ro.SliceIs (Ro.int .i64) φ p_0.2.2.2.2.1 i) (w:Ro.SliceIs Ro.str φ p_0.2.2.2.2.2.1 j) (s0:St φ (F) h) {r:Bool} (hd:BZ (b,d,e,f,i,j) sym_1=some r):
 CallsH Tryz.prog 86 [(aG p_0),(.int .i64 sym_1)] h (Ar fun v h'=> ∃ψ:AC,∃y:Bool,Sub φ ψ∧v=((.one aB):Sh).val y∧y=r∧St ψ (F) h'):=by
 refine AR mixed Tryz.func86 ?_
 rw [MW]
 unfold Ko
 unfold BZ at hd
 have l:p_0.1.2.1=List.length b:=k.length
 refine AY (vs:= [sv p_0.1,sv p_0.2.1,sv p_0.2.2.1,sv p_0.2.2.2.1,sv p_0.2.2.2.2.1,sv p_0.2.2.2.2.2.1]) s0 fun r1 z c=> ?_
 obtain ⟨m,a,hd⟩:=bS hd
 refine Ao (fun (y:Bool×Unit) w_ g=> ∃ψ:AC,Sub φ ψ∧y.1=g∧St ψ (Wq2 r1 p_0::F) w_) (g:=m) ?_ ?_
 ·refine AL a rfl (fun _ a=> ?_) (fun _ a=> ?_)
  ·refine AA (x:=p_0.1) c rfl ?_
   obtain rfl:=iS a
   exact AS ((decide (sym_1< ((p_0.1.2.1:Nat):Int))),()) rfl ⟨φ,(Sub.refl _),(by rw [l]),c⟩
  obtain rfl:=iS a
  exact AS (false,()) rfl ⟨φ,(Sub.refl _),rfl,c⟩
 rintro z2 a0 ⟨n,o,rfl,p⟩
 try dsimp only at hd
 obtain rfl:=iS hd
 exact AB ⟨n,z2.1,o,rfl,rfl,p.tail⟩
noncomputable def Aw (s_0:List Bu) (v_1:Bu):Option Int:=
 (Cf (σ:=Unit) (β:=Int) (0:Int) (((List.length s_0):Nat):Int) () fun i_z3 z3=>
  (idx s_0 i_z3).bind fun e25=>
  cond ((v_1.1==e25.1) && ((v_1.2==e25.2) && true))
  (some (AU.done i_z3))
  (some (AU.next ()))).bind fun e_z2=>match e_z2 with
 | .next z2=>
  some (-1:Int)
 | .done q42=>some q42
theorem Di {φ:AC} {h:AH} {F:List Chk} {s_0:Slc} {c:List Bu} {v_1:Int×Int×Unit} (e:Ro.SliceIs Ca φ s_0 c) (s0:St φ (F) h) {r:Int} (hd:Aw c (v_1.1,v_1.2.1)=some r):
 CallsH Tryz.prog 151 [(sv s_0),(.agg #[(.int .i64 v_1.1),(.int .i64 v_1.2.1)])] h (Ar fun v h'=> ∃ψ:AC,∃y:Int,Sub φ ψ∧v=((.one aI):Sh).val y∧y=r∧St ψ (F) h'):=by
 refine AR mixed Tryz.func151 ?_
 rw [Cb]
 unfold Bv
 unfold Aw at hd
 have f:s_0.2.1=List.length c:=e.length
 refine AY (vs:= [.int .i64 v_1.1, .int .i64 v_1.2.1]) s0 fun r1 ab n=> ?_
 obtain ⟨o,p,hd⟩:=bS hd
 refine AT (fun (y:Int×Int×Unit) w_ g=> ∃ψ:AC,Sub φ ψ∧AU.next ()=g∧St ψ (cW 70 r1 [.int .i64 v_1.1, .int .i64 v_1.2.1] ::F) w_) (g:=o) ?_ ?_
 ·refine Be p (fun q (y:Int×Int×Unit) w_ g=> ∃ψ:AC,Sub φ ψ∧y.1=q∧()=g∧St ψ (cW 70 r1 [.int .i64 v_1.1, .int .i64 v_1.2.1] ::F) w_) ((0:Int),(0:Int),()) rfl ⟨φ,(Sub.refl _),rfl,rfl,n⟩ ?_ ?_
  ·rintro _ z3 ac _ _ ⟨i,d,rfl,rfl,b⟩ a s j k t
   try dsimp only at a s j k
   refine Ai (dT f j) ?_
   refine AA (x:=v_1.1) b rfl ?_
   refine AA (x:=v_1.2.1) b rfl ?_
   obtain ⟨l,u,a⟩:=bS a
   obtain ⟨ad,ae,w,z,a0,m⟩:=(e.mono d).get u
   refine AF _ w (Aa z ?_)
   obtain ⟨_,_,rfl,a1,a2⟩:=a0
   obtain rfl:=a1
   obtain rfl:=a2
   refine AG (x:=l.1) (AE b.sub (m 0 _ rfl)) rfl ?_
   refine AG (x:=l.2) (by rw [Ae]; exact (AE b.sub (m 1 _ rfl))) rfl ?_
   refine AL a rfl (fun _ a=> ?_) (fun _ a=> ?_)
   ·obtain rfl:=iS a
    obtain rfl:=t _ rfl
    try dsimp only at hd
    obtain rfl:=iS hd
    exact Af (Ah (AB ⟨i,z3.1,d,rfl,rfl,b.tail⟩))
   obtain rfl:=iS a
   exact Ag ((wN z3.1),z3.2.1,()) _ rfl rfl ⟨i,d,k,rfl,b⟩
  ·rintro _ z3 af _ ⟨a3,a4,rfl,rfl,a5⟩ a6 a7
   subst a7
   refine AX (dF f a6) ?_
   exact AJ (AK (z3.1,z3.2.1,()) rfl ⟨a3,a4,rfl,a5⟩)
 rintro z2 ag ⟨a8,a9,rfl,aa⟩
 try dsimp only at hd
 obtain rfl:=iS hd
 exact AB ⟨a8,(-1:Int),a9,rfl,rfl,aa.tail⟩
theorem DW {φ:AC} {h:AH} {F:List Chk} {s_0:Slc} {b:List Bu} {v_1:Int×Int×Unit} (s0:St φ (cR 70 Ca s_0 b::F) h) {r:Int} (hd:Aw b (v_1.1,v_1.2.1)=some r):
 CallsH Tryz.prog 151 [(sv s_0),(.agg #[(.int .i64 v_1.1),(.int .i64 v_1.2.1)])] h (Ar fun v h'=> ∃ψ:AC,∃y:Int,Sub φ ψ∧v=((.one aI):Sh).val y∧y=r∧St ψ (cR 70 Ca s_0 b::F) h'):=by
 refine AR mixed Tryz.func151 ?_
 rw [Cb]
 unfold Bv
 unfold Aw at hd
 have d:s_0.2.1=List.length b:=(s0).rowLen
 refine AY (vs:= [.int .i64 v_1.1, .int .i64 v_1.2.1]) s0 fun r1 aa m=> ?_
 obtain ⟨n,o,hd⟩:=bS hd
 refine AT (fun (y:Int×Int×Unit) w_ g=> ∃ψ:AC,Sub φ ψ∧AU.next ()=g∧St ψ (cW 70 r1 [.int .i64 v_1.1, .int .i64 v_1.2.1] ::cR 70 Ca s_0 b::F) w_) (g:=n) ?_ ?_
 ·refine Be o (fun p (y:Int×Int×Unit) w_ g=> ∃ψ:AC,Sub φ ψ∧y.1=p∧()=g∧St ψ (cW 70 r1 [.int .i64 v_1.1, .int .i64 v_1.2.1] ::cR 70 Ca s_0 b::F) w_) ((0:Int),(0:Int),()) rfl ⟨φ,(Sub.refl _),rfl,rfl,m.at1.at1⟩ ?_ ?_
  ·rintro _ z3 ab _ _ ⟨e,f,rfl,rfl,c⟩ a q i j s
   try dsimp only at a q i j
   refine Ai (dT d i) ?_
   refine AA (x:=v_1.1) c rfl ?_
   refine AA (x:=v_1.2.1) c rfl ?_
   obtain ⟨k,t,a⟩:=bS a
   obtain ⟨ac,ad,u,w,z,l⟩:=(c.at1).get t
   refine AF _ u (Aa w ?_)
   obtain ⟨_,_,rfl,a0,a1⟩:=z
   obtain rfl:=a0
   obtain rfl:=a1
   refine AG (x:=k.1) (l 0 _ rfl) rfl ?_
   refine AG (x:=k.2) (by rw [Ae]; exact (l 1 _ rfl)) rfl ?_
   refine AL a rfl (fun _ a=> ?_) (fun _ a=> ?_)
   ·obtain rfl:=iS a
    obtain rfl:=s _ rfl
    try dsimp only at hd
    obtain rfl:=iS hd
    exact Af (Ah (AB ⟨e,z3.1,f,rfl,rfl,c.tail⟩))
   obtain rfl:=iS a
   exact Ag ((wN z3.1),z3.2.1,()) _ rfl rfl ⟨e,f,j,rfl,c.at1.at1⟩
  ·rintro _ z3 ae _ ⟨a2,a3,rfl,rfl,a4⟩ a5 a6
   subst a6
   refine AX (dF d a5) ?_
   exact AJ (AK (z3.1,z3.2.1,()) rfl ⟨a2,a3,rfl,a4.at1.at1⟩)
 rintro z2 af ⟨a7,a8,rfl,a9⟩
 try dsimp only at hd
 obtain rfl:=iS hd
 exact AB ⟨a7,(-1:Int),a8,rfl,rfl,a9.tail⟩
noncomputable def Ak (s_0:List Bu) (v_1:Bu):Option Bool:=
 (Aw s_0 (v_1.1,v_1.2)).bind fun t4=>
 some (decide (t4≥ (0:Int)))
theorem DH {φ:AC} {h:AH} {F:List Chk} {s_0:Slc} {b:List Bu} {v_1:Int×Int×Unit} (c:Ro.SliceIs Ca φ s_0 b) (s0:St φ (F) h) {r:Bool} (hd:Ak b (v_1.1,v_1.2.1)=some r):
 CallsH Tryz.prog 115 [(sv s_0),(.agg #[(.int .i64 v_1.1),(.int .i64 v_1.2.1)])] h (Ar fun v h'=> ∃ψ:AC,∃y:Bool,Sub φ ψ∧v=((.one aB):Sh).val y∧y=r∧St ψ (F) h'):=by
 refine AR mixed Tryz.func115 ?_
 rw [CL]
 unfold Bl
 unfold Ak at hd
 refine AY (vs:= [.int .i64 v_1.1, .int .i64 v_1.2.1]) s0 fun r1 i a=> ?_
 refine AA (x:=v_1.1) a rfl ?_
 refine AA (x:=v_1.2.1) a rfl ?_
 obtain ⟨j,d,hd⟩:=bS hd
 refine AI (Di (v_1:=(v_1.1,v_1.2.1,())) c a d) ?_
 rintro _ k ⟨e,t4,f,rfl,rfl,g⟩
 refine ⟨t4,rfl,?_⟩
 obtain rfl:=iS hd
 exact AB ⟨e,(decide (t4≥ (0:Int))),f,rfl,rfl,g.tail⟩
theorem DD {φ:AC} {h:AH} {F:List Chk} {s_0:Slc} {a:List Bu} {v_1:Int×Int×Unit} (s0:St φ (cR 70 Ca s_0 a::F) h) {r:Bool} (hd:Ak a (v_1.1,v_1.2.1)=some r):
 CallsH Tryz.prog 115 [(sv s_0),(.agg #[(.int .i64 v_1.1),(.int .i64 v_1.2.1)])] h (Ar fun v h'=> ∃ψ:AC,∃y:Bool,Sub φ ψ∧v=((.one aB):Sh).val y∧y=r∧St ψ (cR 70 Ca s_0 a::F) h'):=by
 refine AR mixed Tryz.func115 ?_
 rw [CL]
 unfold Bl
 unfold Ak at hd
 refine AY (vs:= [.int .i64 v_1.1, .int .i64 v_1.2.1]) s0 fun r1 g b=> ?_
 refine AA (x:=v_1.1) b rfl ?_
 refine AA (x:=v_1.2.1) b rfl ?_
 obtain ⟨i,c,hd⟩:=bS hd
 refine AI (DW (v_1:=(v_1.1,v_1.2.1,())) b.at1 c) ?_
 rintro _ j ⟨d,t4,e,rfl,rfl,f⟩
 refine ⟨t4,rfl,?_⟩
 obtain rfl:=iS hd
 exact AB ⟨d,(decide (t4≥ (0:Int))),e,rfl,rfl,f.at1.tail⟩
noncomputable def B7 (c_0:Int):Option Bool:=
 (cond (c_0==(95:Int))
 (some true)
 (cond (decide (c_0≥ (97:Int)))
  (cond (decide (c_0≤(122:Int)))
   (some true)
   (cond (decide (c_0≥ (65:Int)))
    (some (decide (c_0≤(90:Int))))
    (some false)))
  (cond (decide (c_0≥ (65:Int)))
   (some (decide (c_0≤(90:Int))))
   (some false)))).bind fun z1=>
 some z1
theorem HI {φ:AC} {h:AH} {F:List Chk} {c_0:Int} (s0:St φ (F) h) {r:Bool} (hd:B7 c_0=some r):
 CallsH Tryz.prog 167 [(.int .u8 c_0)] h (Ar fun v h'=> ∃ψ:AC,∃y:Bool,Sub φ ψ∧v=((.one aB):Sh).val y∧y=r∧St ψ (F) h'):=by
 refine AR mixed Tryz.func167 ?_
 rw [HE]
 unfold Eo
 unfold B7 at hd
 obtain ⟨b,a,hd⟩:=bS hd
 refine Ao (fun (y:Bool×Unit) w_ g=> ∃ψ:AC,Sub φ ψ∧y.1=g∧St ψ (F) w_) (g:=b) ?_ ?_
 ·refine AL a rfl (fun _ a=> ?_) (fun _ a=> ?_)
  ·obtain rfl:=iS a
   exact AS (true,()) rfl ⟨φ,(Sub.refl _),rfl,s0⟩
  refine AL a rfl (fun _ a=> ?_) (fun _ a=> ?_)
  ·refine AL a rfl (fun _ a=> ?_) (fun _ a=> ?_)
   ·obtain rfl:=iS a
    exact AS (true,()) rfl ⟨φ,(Sub.refl _),rfl,s0⟩
   refine AL a rfl (fun _ a=> ?_) (fun _ a=> ?_)
   ·obtain rfl:=iS a
    exact AS ((decide (c_0≤(90:Int))),()) rfl ⟨φ,(Sub.refl _),rfl,s0⟩
   obtain rfl:=iS a
   exact AS (false,()) rfl ⟨φ,(Sub.refl _),rfl,s0⟩
  refine AL a rfl (fun _ a=> ?_) (fun _ a=> ?_)
  ·obtain rfl:=iS a
   exact AS ((decide (c_0≤(90:Int))),()) rfl ⟨φ,(Sub.refl _),rfl,s0⟩
  obtain rfl:=iS a
  exact AS (false,()) rfl ⟨φ,(Sub.refl _),rfl,s0⟩
 rintro z1 f ⟨c,d,rfl,e⟩
 try dsimp only at hd
 obtain rfl:=iS hd
 exact AB ⟨c,z1.1,d,rfl,rfl,e⟩
noncomputable def DX (c_0:Int):Option Bool:=
 (cond (decide (c_0≥ (48:Int)))
 (some (decide (c_0≤(57:Int))))
 (some false)).bind fun z1=>
 some z1
theorem Hk {φ:AC} {h:AH} {F:List Chk} {c_0:Int} (s0:St φ (F) h) {r:Bool} (hd:DX c_0=some r):
 CallsH Tryz.prog 168 [(.int .u8 c_0)] h (Ar fun v h'=> ∃ψ:AC,∃y:Bool,Sub φ ψ∧v=((.one aB):Sh).val y∧y=r∧St ψ (F) h'):=by
 refine AR mixed Tryz.func168 ?_
 rw [Hi]
 unfold FH
 unfold DX at hd
 obtain ⟨b,a,hd⟩:=bS hd
 refine Ao (fun (y:Bool×Unit) w_ g=> ∃ψ:AC,Sub φ ψ∧y.1=g∧St ψ (F) w_) (g:=b) ?_ ?_
 ·refine AL a rfl (fun _ a=> ?_) (fun _ a=> ?_)
  ·obtain rfl:=iS a
   exact AS ((decide (c_0≤(57:Int))),()) rfl ⟨φ,(Sub.refl _),rfl,s0⟩
  obtain rfl:=iS a
  exact AS (false,()) rfl ⟨φ,(Sub.refl _),rfl,s0⟩
 rintro z1 f ⟨c,d,rfl,e⟩
 try dsimp only at hd
 obtain rfl:=iS hd
 exact AB ⟨c,z1.1,d,rfl,rfl,e⟩
noncomputable def Cv (s_0:ByteArray):Option Bool:=
 (Cf (σ:=Unit) (β:=Bool) (0:Int) ((ByteArray.size s_0:Nat):Int) () fun i_z2 z2=>
  (need (0≤i_z2∧i_z2< (ByteArray.size s_0:Nat)) <|
  (B7 ((UInt8.toNat (D7 s_0 (Int.toNat i_z2)):Nat):Int)).bind fun t4=>
  cond (!t4)
  (cond (i_z2==(0:Int))
   (some true)
   (need (0≤i_z2∧i_z2< (ByteArray.size s_0:Nat)) <|
    (DX ((UInt8.toNat (D7 s_0 (Int.toNat i_z2)):Nat):Int)).bind fun t5=>
    some (!t5)))
  (some false)).bind fun z3=>
  cond z3
  (some (AU.done false))
  (some (AU.next ()))).bind fun e_z1=>match e_z1 with
 | .next z1=>
  some (!(ByteArray.toList s_0==ByteArray.toList {data:= #[] }))
 | .done q47=>some q47
theorem IQ {φ:AC} {h:AH} {F:List Chk} {s_0:ByteArray} (s0:St φ (F) h) {r:Bool} (hd:Cv s_0=some r):
 CallsH Tryz.prog 153 [(.string s_0)] h (Ar fun v h'=> ∃ψ:AC,∃y:Bool,Sub φ ψ∧v=((.one aB):Sh).val y∧y=r∧St ψ (F) h'):=by
 refine AR mixed Tryz.func153 ?_
 rw [IP]
 unfold Ff
 unfold Cv at hd
 obtain ⟨n,o,hd⟩:=bS hd
 refine AT (fun (y:Int×Bool×Unit) w_ g=> ∃ψ:AC,Sub φ ψ∧AU.next ()=g∧St ψ (F) w_) (g:=n) ?_ ?_
 ·refine Be o (fun p (y:Int×Bool×Unit) w_ g=> ∃ψ:AC,Sub φ ψ∧y.1=p∧()=g∧St ψ (F) w_) ((0:Int),false,()) rfl ⟨φ,(Sub.refl _),rfl,rfl,s0⟩ ?_ ?_
  ·rintro _ z2 ab _ _ ⟨q,e,rfl,rfl,s⟩ b t f i u
   try dsimp only at b t f i
   refine Ai (by exact decide_eq_true f) ?_
   obtain ⟨w,a,b⟩:=bS b
   refine Ao (fun (y:Bool×Unit) w_ g=> ∃ψ:AC,Sub q ψ∧y.1=g∧St ψ (F) w_) (g:=w) ?_ ?_
   ·refine Cd a id fun ac a=> ?_
    obtain ⟨ad,x,a⟩:=bS a
    refine AI (HI s x) ?_
    rintro _ ae ⟨j,t4,c,rfl,rfl,d⟩
    refine ⟨t4,rfl,?_⟩
    refine AL a rfl (fun _ a=> ?_) (fun _ a=> ?_)
    ·refine AL a rfl (fun _ a=> ?_) (fun _ a=> ?_)
     ·obtain rfl:=iS a
      exact AS (true,()) rfl ⟨j,c,rfl,d⟩
     refine Cd a id fun af a=> ?_
     obtain ⟨ag,z,a⟩:=bS a
     refine AI (Hk d z) ?_
     rintro _ ah ⟨a0,t5,a1,rfl,rfl,a2⟩
     refine ⟨t5,rfl,?_⟩
     obtain rfl:=iS a
     exact AS ((!t5),()) rfl ⟨a0,(c.trans a1),rfl,a2⟩
    obtain rfl:=iS a
    exact AS (false,()) rfl ⟨j,c,rfl,d⟩
   rintro z3 ai ⟨k,l,rfl,m⟩
   try dsimp only at b
   refine AL b rfl (fun _ b=> ?_) (fun _ b=> ?_)
   ·obtain rfl:=iS b
    obtain rfl:=u _ rfl
    try dsimp only at hd
    obtain rfl:=iS hd
    exact Af (Ah (AB ⟨k,false,(e.trans l),rfl,rfl,m⟩))
   obtain rfl:=iS b
   exact Ag ((wN z2.1),z2.2.1,()) _ rfl rfl ⟨k,(e.trans l),i,rfl,m⟩
  ·rintro _ z2 aj _ ⟨a3,a4,rfl,rfl,a5⟩ a6 a7
   subst a7
   refine AX (by exact decide_eq_false (Int.not_lt.2 a6)) ?_
   exact AJ (AK (z2.1,z2.2.1,()) rfl ⟨a3,a4,rfl,a5⟩)
 rintro z1 ak ⟨a8,a9,rfl,aa⟩
 try dsimp only at hd
 obtain rfl:=iS hd
 exact AB ⟨a8,(!(ByteArray.toList s_0==ByteArray.toList {data:= #[] })),a9,rfl,rfl,aa⟩
noncomputable def BA (s_0:ByteArray):Option Bool:=
 (cond (decide (((ByteArray.size s_0:Nat):Int) ≤(32:Int)))
 ((Cv s_0).bind fun t2=>
  some t2)
 (some false)).bind fun z1=>
 some z1
theorem B8 {φ:AC} {h:AH} {F:List Chk} {s_0:ByteArray} (s0:St φ (F) h) {r:Bool} (hd:BA s_0=some r):
 CallsH Tryz.prog 120 [(.string s_0)] h (Ar fun v h'=> ∃ψ:AC,∃y:Bool,Sub φ ψ∧v=((.one aB):Sh).val y∧y=r∧St ψ (F) h'):=by
 refine AR mixed Tryz.func120 ?_
 rw [IM]
 unfold Fc
 unfold BA at hd
 obtain ⟨b,a,hd⟩:=bS hd
 refine Ao (fun (y:Bool×Unit) w_ g=> ∃ψ:AC,Sub φ ψ∧y.1=g∧St ψ (F) w_) (g:=b) ?_ ?_
 ·refine AL a rfl (fun _ a=> ?_) (fun _ a=> ?_)
  ·obtain ⟨l,c,a⟩:=bS a
   refine AI (IQ s0 c) ?_
   rintro _ m ⟨d,t2,e,rfl,rfl,f⟩
   refine ⟨t2,rfl,?_⟩
   obtain rfl:=iS a
   exact AS (t2,()) rfl ⟨d,e,rfl,f⟩
  obtain rfl:=iS a
  exact AS (false,()) rfl ⟨φ,(Sub.refl _),rfl,s0⟩
 rintro z1 n ⟨i,j,rfl,k⟩
 try dsimp only at hd
 obtain rfl:=iS hd
 exact AB ⟨i,z1.1,j,rfl,rfl,k⟩
noncomputable def Bf (p_0:G7):Option Bool:=
 cond (!(ByteArray.toList p_0.1==ByteArray.toList {data:= #[] }))
 ((cond (decide (((ByteArray.size p_0.1:Nat):Int) ≤(32:Int)))
  (cond (ByteArray.toList p_0.2.1==ByteArray.toList {data:= #[] })
   (some (!p_0.2.2))
   (some false))
  (some false)).bind fun z3=>
  some z3)
 ((Cf (σ:=Unit) (β:=Bool) (1:Int) ((ByteArray.size p_0.2.1:Nat):Int) () fun i_z8 z8=>
  need (0≤i_z8∧i_z8< (ByteArray.size p_0.2.1:Nat)) <|
  need (0≤(IntKind.wrap .i64 (i_z8 - (1:Int)))∧(IntKind.wrap .i64 (i_z8 - (1:Int))) < (ByteArray.size p_0.2.1:Nat)) <|
  cond (decide (((UInt8.toNat (D7 p_0.2.1 (Int.toNat i_z8)):Nat):Int) ≤((UInt8.toNat (D7 p_0.2.1 (Int.toNat (IntKind.wrap .i64 (i_z8 - (1:Int))))):Nat):Int)))
  (some (AU.done false))
  (some (AU.next ()))).bind fun e_z7=>match e_z7 with
  | .next z7=>
   some (!(ByteArray.toList p_0.2.1==ByteArray.toList {data:= #[] }))
  | .done q40=>some q40)
theorem D1 {φ:AC} {h:AH} {F:List Chk} {p_0:ByteArray×ByteArray×Bool×Unit} (s0:St φ (F) h) {r:Bool} (hd:Bf (p_0.1,p_0.2.1,p_0.2.2.1)=some r):
 CallsH Tryz.prog 121 [(.agg #[(.string p_0.1),(.string p_0.2.1),(.bool p_0.2.2.1)])] h (Ar fun v h'=> ∃ψ:AC,∃y:Bool,Sub φ ψ∧v=((.one aB):Sh).val y∧y=r∧St ψ (F) h'):=by
 refine AR mixed Tryz.func121 ?_
 rw [Gy]
 unfold EW
 unfold Bf at hd
 refine AY (vs:= [.string p_0.1, .string p_0.2.1, .bool p_0.2.2.1]) s0 fun r1 a5 c=> ?_
 refine AA (x:=p_0.1) c rfl ?_
 refine AL hd rfl (fun _ hd=> ?_) (fun _ hd=> ?_)
 ·obtain ⟨m,b,hd⟩:=bS hd
  refine Ao (fun (y:Bool×Unit) w_ g=> ∃ψ:AC,Sub φ ψ∧y.1=g∧St ψ (Wq3 r1 p_0::F) w_) (g:=m) ?_ ?_
  ·refine AA (x:=p_0.1) c rfl ?_
   refine AL b rfl (fun _ b=> ?_) (fun _ b=> ?_)
   ·refine AA (x:=p_0.2.1) c rfl ?_
    refine AL b rfl (fun _ b=> ?_) (fun _ b=> ?_)
    ·refine AA (x:=p_0.2.2.1) c rfl ?_
     obtain rfl:=iS b
     exact AS ((!p_0.2.2.1),()) rfl ⟨φ,(Sub.refl _),rfl,c⟩
    obtain rfl:=iS b
    exact AS (false,()) rfl ⟨φ,(Sub.refl _),rfl,c⟩
   obtain rfl:=iS b
   exact AS (false,()) rfl ⟨φ,(Sub.refl _),rfl,c⟩
  rintro z3 a6 ⟨n,o,rfl,p⟩
  try dsimp only at hd
  obtain rfl:=iS hd
  exact AB ⟨n,z3.1,o,rfl,rfl,p.tail⟩
 obtain ⟨q,s,hd⟩:=bS hd
 refine AT (fun (y:Int×Bool×Unit) w_ g=> ∃ψ:AC,Sub φ ψ∧AU.next ()=g∧St ψ (Wq3 r1 p_0::F) w_) (g:=q) ?_ ?_
 ·refine Be s (fun t (y:Int×Bool×Unit) w_ g=> ∃ψ:AC,Sub φ ψ∧y.1=t∧()=g∧St ψ (Wq3 r1 p_0::F) w_) ((1:Int),false,()) rfl ⟨φ,(Sub.refl _),rfl,rfl,c⟩ ?_ ?_
  ·rintro _ z8 a7 _ _ ⟨e,f,rfl,rfl,d⟩ a u i j w
   try dsimp only at a u i j
   refine AA (x:=p_0.2.1) d rfl ?_
   refine Ai (by exact decide_eq_true i) ?_
   refine AA (x:=p_0.2.1) d rfl ?_
   refine Cd a id fun a8 a=> ?_
   refine AA (x:=p_0.2.1) d rfl ?_
   refine Cd a id fun a9 a=> ?_
   refine AL a rfl (fun _ a=> ?_) (fun _ a=> ?_)
   ·obtain rfl:=iS a
    obtain rfl:=w _ rfl
    try dsimp only at hd
    obtain rfl:=iS hd
    exact Af (Ah (AB ⟨e,false,f,rfl,rfl,d.tail⟩))
   obtain rfl:=iS a
   exact Ag ((wN z8.1),z8.2.1,()) _ rfl rfl ⟨e,f,j,rfl,d⟩
  ·rintro _ z8 aa _ ⟨z,a0,rfl,rfl,k⟩ a1 a2
   subst a2
   refine AA (x:=p_0.2.1) k rfl ?_
   refine AX (by exact decide_eq_false (Int.not_lt.2 a1)) ?_
   exact AJ (AK (z8.1,z8.2.1,()) rfl ⟨z,a0,rfl,k⟩)
 rintro z7 ab ⟨a3,a4,rfl,l⟩
 try dsimp only at hd
 refine AA (x:=p_0.2.1) l rfl ?_
 obtain rfl:=iS hd
 exact AB ⟨a3,(!(ByteArray.toList p_0.2.1==ByteArray.toList {data:= #[] })),a4,rfl,rfl,l.tail⟩
noncomputable def B9 (s_0:ByteArray):Option Bool:=
 cond (decide (((ByteArray.size s_0:Nat):Int) >(200:Int)))
 (some false)
 ((Cf (σ:=Int) (β:=Bool) (0:Int) ((ByteArray.size s_0:Nat):Int) (1:Int) fun i_z2 z2=>
  need (0≤i_z2∧i_z2< (ByteArray.size s_0:Nat)) <|
  (cond (((UInt8.toNat (D7 s_0 (Int.toNat i_z2)):Nat):Int)==(123:Int))
  (some (IntKind.wrap .i64 (z2+(1:Int))))
  (some z2)).bind fun z3=>
  need (0≤i_z2∧i_z2< (ByteArray.size s_0:Nat)) <|
  (cond (((UInt8.toNat (D7 s_0 (Int.toNat i_z2)):Nat):Int)==(125:Int))
  (some (IntKind.wrap .i64 (z3 - (1:Int))))
  (some z3)).bind fun z4=>
  (cond (decide (z4>(4:Int)))
  (some true)
  (some (z4==(0:Int)))).bind fun z5=>
  cond z5
  (some (AU.done false))
  (some (AU.next z4))).bind fun e_z1=>match e_z1 with
  | .next z1=>
   some (z1==(1:Int))
  | .done q48=>some q48)
theorem EJ {φ:AC} {h:AH} {F:List Chk} {s_0:ByteArray} (s0:St φ (F) h) {r:Bool} (hd:B9 s_0=some r):
 CallsH Tryz.prog 122 [(.string s_0)] h (Ar fun v h'=> ∃ψ:AC,∃y:Bool,Sub φ ψ∧v=((.one aB):Sh).val y∧y=r∧St ψ (F) h'):=by
 refine AR mixed Tryz.func122 ?_
 rw [HD]
 unfold En
 unfold B9 at hd
 refine AL hd rfl (fun _ hd=> ?_) (fun _ hd=> ?_)
 ·obtain rfl:=iS hd
  exact AB ⟨φ,false,(Sub.refl _),rfl,rfl,s0⟩
 obtain ⟨w,x,hd⟩:=bS hd
 refine AT (fun (y:Int×Int×Bool×Unit) w_ g=> ∃ψ:AC,Sub φ ψ∧AU.next y.2.1=g∧St ψ (F) w_) (g:=w) ?_ ?_
 ·refine Be x (fun z (y:Int×Int×Bool×Unit) w_ g=> ∃ψ:AC,Sub φ ψ∧y.1=z∧y.2.1=g∧St ψ (F) w_) ((0:Int),(1:Int),false,()) rfl ⟨φ,(Sub.refl _),rfl,rfl,s0⟩ ?_ ?_
  ·rintro _ z2 ad _ _ ⟨e,j,rfl,rfl,k⟩ a a0 l m a1
   try dsimp only at a a0 l m
   refine Ai (by exact decide_eq_true l) ?_
   refine Cd a id fun ae a=> ?_
   obtain ⟨a2,b,a⟩:=bS a
   refine Ao (fun (y:Int×Unit) w_ g=> ∃ψ:AC,Sub e ψ∧y.1=g∧St ψ (F) w_) (g:=a2) ?_ ?_
   ·refine AL b rfl (fun _ b=> ?_) (fun _ b=> ?_)
    ·obtain rfl:=iS b
     exact AS ((wN z2.2.1),()) rfl ⟨e,(Sub.refl _),rfl,k⟩
    obtain rfl:=iS b
    exact AS (z2.2.1,()) rfl ⟨e,(Sub.refl _),rfl,k⟩
   rintro z3 af ⟨f,n,rfl,o⟩
   try dsimp only at a
   refine Cd a id fun ag a=> ?_
   obtain ⟨a3,c,a⟩:=bS a
   refine Ao (fun (y:Int×Unit) w_ g=> ∃ψ:AC,Sub f ψ∧y.1=g∧St ψ (F) w_) (g:=a3) ?_ ?_
   ·refine AL c rfl (fun _ c=> ?_) (fun _ c=> ?_)
    ·obtain rfl:=iS c
     exact AS ((IntKind.wrap .i64 (z3.1 - (1:Int))),()) rfl ⟨f,(Sub.refl _),rfl,o⟩
    obtain rfl:=iS c
    exact AS (z3.1,()) rfl ⟨f,(Sub.refl _),rfl,o⟩
   rintro z4 ah ⟨i,p,rfl,q⟩
   try dsimp only at a
   obtain ⟨a4,d,a⟩:=bS a
   refine Ao (fun (y:Bool×Unit) w_ g=> ∃ψ:AC,Sub i ψ∧y.1=g∧St ψ (F) w_) (g:=a4) ?_ ?_
   ·refine AL d rfl (fun _ d=> ?_) (fun _ d=> ?_)
    ·obtain rfl:=iS d
     exact AS (true,()) rfl ⟨i,(Sub.refl _),rfl,q⟩
    obtain rfl:=iS d
    exact AS ((z4.1==(0:Int)),()) rfl ⟨i,(Sub.refl _),rfl,q⟩
   rintro z5 ai ⟨s,t,rfl,u⟩
   try dsimp only at a
   refine AL a rfl (fun _ a=> ?_) (fun _ a=> ?_)
   ·obtain rfl:=iS a
    obtain rfl:=a1 _ rfl
    try dsimp only at hd
    obtain rfl:=iS hd
    exact Af (Ah (AB ⟨s,false,(((j.trans n).trans p).trans t),rfl,rfl,u⟩))
   obtain rfl:=iS a
   exact Ag ((wN z2.1),z4.1,z2.2.2.1,()) _ rfl rfl ⟨s,(((j.trans n).trans p).trans t),m,rfl,u⟩
  ·rintro _ z2 aj _ ⟨a5,a6,rfl,rfl,a7⟩ a8 a9
   subst a9
   refine AX (by exact decide_eq_false (Int.not_lt.2 a8)) ?_
   exact AJ (AK (z2.1,z2.2.1,z2.2.2.1,()) rfl ⟨a5,a6,rfl,a7⟩)
 rintro z1 ak ⟨aa,ab,rfl,ac⟩
 try dsimp only at hd
 obtain rfl:=iS hd
 exact AB ⟨aa,(z1.2.1==(1:Int)),ab,rfl,rfl,ac⟩
noncomputable def BU (l_0:List ByteArray):Option Bool:=
 (Cf (σ:=Unit) (β:=Bool) (0:Int) (((List.length l_0):Nat):Int) () fun i_z2 z2=>
  (idx l_0 i_z2).bind fun e17=>
  (BA e17).bind fun t5=>
  cond (!t5)
  (some (AU.done false))
  ((Cf (σ:=Unit) (β:=Bool) (0:Int) i_z2 () fun i_z7 z7=>
   (idx l_0 i_z7).bind fun e38=>
   (idx l_0 i_z2).bind fun e41=>
   cond (ByteArray.toList e38==ByteArray.toList e41)
   (some (AU.done false))
   (some (AU.next ()))).bind fun e_z6=>match e_z6 with
   | .next z6=>
    some (AU.next ())
   | .done q54=>some (AU.done q54))).bind fun e_z1=>match e_z1 with
 | .next z1=>
  some true
 | .done q67=>some q67
theorem Ep {φ:AC} {h:AH} {F:List Chk} {l_0:Slc} {k:List ByteArray} (e:Ro.SliceIs Ro.str φ l_0 k) (s0:St φ (F) h) {r:Bool} (hd:BU k=some r):
 CallsH Tryz.prog 123 [(sv l_0)] h (Ar fun v h'=> ∃ψ:AC,∃y:Bool,Sub φ ψ∧v=((.one aB):Sh).val y∧y=r∧St ψ (F) h'):=by
 refine AR mixed Tryz.func123 ?_
 rw [IN]
 unfold Fe
 unfold BU at hd
 have l:l_0.2.1=List.length k:=e.length
 obtain ⟨w,x,hd⟩:=bS hd
 refine AT (fun (y:Int×Bool×Unit) w_ g=> ∃ψ:AC,Sub φ ψ∧AU.next ()=g∧St ψ (F) w_) (g:=w) ?_ ?_
 ·refine Be x (fun z (y:Int×Bool×Unit) w_ g=> ∃ψ:AC,Sub φ ψ∧y.1=z∧()=g∧St ψ (F) w_) ((0:Int),false,()) rfl ⟨φ,(Sub.refl _),rfl,rfl,s0⟩ ?_ ?_
  ·rintro _ z2 aq _ _ ⟨ar,c,rfl,rfl,m⟩ a a0 n o p
   try dsimp only at a a0 n o
   refine Ai (dT l n) ?_
   obtain ⟨au,a1,a⟩:=bS a
   refine CV e a1 (Sub.trans c m.sub) ?_
   obtain ⟨av,a2,a⟩:=bS a
   refine AI (B8 m a2) ?_
   rintro _ aw ⟨f,t5,d,rfl,rfl,q⟩
   refine ⟨t5,rfl,?_⟩
   refine AL a rfl (fun _ a=> ?_) (fun _ a=> ?_)
   ·obtain rfl:=iS a
    obtain rfl:=p _ rfl
    try dsimp only at hd
    obtain rfl:=iS hd
    exact Af (Ah (AB ⟨f,false,(c.trans d),rfl,rfl,q⟩))
   obtain ⟨a3,a4,a⟩:=bS a
   refine AT (fun (y:Int×Bool×Unit) w_ g=> ∃ψ:AC,Sub f ψ∧AU.next ()=g∧St ψ (F) w_) (g:=a3) ?_ ?_
   ·refine Be a4 (fun a5 (y:Int×Bool×Unit) w_ g=> ∃ψ:AC,Sub f ψ∧y.1=a5∧()=g∧St ψ (F) w_) ((0:Int),z2.2.1,()) rfl ⟨f,(Sub.refl _),rfl,rfl,q⟩ ?_ ?_
    ·rintro _ z7 ax _ _ ⟨s,i,rfl,rfl,j⟩ b a6 t u a7
     try dsimp only at b a6 t u
     refine Ai (by exact decide_eq_true t) ?_
     obtain ⟨ay,a8,b⟩:=bS b
     refine CV e a8 (Sub.trans ((c.trans d).trans i) j.sub) ?_
     obtain ⟨az,a9,b⟩:=bS b
     refine CV e a9 (Sub.trans ((c.trans d).trans i) j.sub) ?_
     refine AL b rfl (fun _ b=> ?_) (fun _ b=> ?_)
     ·obtain rfl:=iS b
      obtain rfl:=a7 _ rfl
      try dsimp only at a
      obtain rfl:=iS a
      obtain rfl:=p _ rfl
      try dsimp only at hd
      obtain rfl:=iS hd
      exact Af (Ah (Af (Ah (AB ⟨s,false,((c.trans d).trans i),rfl,rfl,j⟩))))
     obtain rfl:=iS b
     exact Ag ((wN z7.1),z7.2.1,()) _ rfl rfl ⟨s,i,u,rfl,j⟩
    ·rintro _ z7 b0 _ ⟨aa,ab,rfl,rfl,ac⟩ ad ae
     subst ae
     refine AX (by exact decide_eq_false (Int.not_lt.2 ad)) ?_
     exact AJ (AK (z7.1,z7.2.1,()) rfl ⟨aa,ab,rfl,ac⟩)
   rintro z6 b1 ⟨af,ag,rfl,ah⟩
   try dsimp only at a
   obtain rfl:=iS a
   exact Ag ((wN z2.1),z6.2.1,()) _ rfl rfl ⟨af,((c.trans d).trans ag),o,rfl,ah⟩
  ·rintro _ z2 b2 _ ⟨ai,aj,rfl,rfl,ak⟩ al am
   subst am
   refine AX (dF l al) ?_
   exact AJ (AK (z2.1,z2.2.1,()) rfl ⟨ai,aj,rfl,ak⟩)
 rintro z1 b3 ⟨an,ao,rfl,ap⟩
 try dsimp only at hd
 obtain rfl:=iS hd
 exact AB ⟨an,true,ao,rfl,rfl,ap⟩
theorem CO:G5 Tryz.prog 28 28 9 1:=⟨Tryz.underlying28, .inl Tryz.underlying28,⟨Tryz.t9,by kernel_rfl,rfl,⟨_,rfl,rfl⟩,by decide,by decide⟩,by decide⟩
theorem OH:G5 Tryz.prog 102 102 176 4:=⟨Tryz.underlying102, .inl Tryz.underlying102,⟨Tryz.t176,by kernel_rfl,rfl,⟨_,rfl,rfl⟩,by decide,by decide⟩,by decide⟩
theorem OI:G5 Tryz.prog 104 104 179 2:=⟨Tryz.underlying104, .inl Tryz.underlying104,⟨Tryz.t179,by kernel_rfl,rfl,⟨_,rfl,rfl⟩,by decide,by decide⟩,by decide⟩
theorem Ks:G5 Tryz.prog 105 105 172 4:=⟨Tryz.underlying105, .inl Tryz.underlying105,⟨Tryz.t172,by kernel_rfl,rfl,⟨_,rfl,rfl⟩,by decide,by decide⟩,by decide⟩
noncomputable def CG (g_0:CW):Option Bool:=
 (cond (decide ((((List.length g_0.1):Nat):Int) >(20:Int)))
 (some true)
 (cond (decide ((((List.length g_0.2.1):Nat):Int) >(4:Int)))
  (some true)
  (cond (decide ((((List.length g_0.2.2.1):Nat):Int) >(10:Int)))
   (some true)
   (cond (decide ((((List.length g_0.2.2.2.2):Nat):Int) < (1:Int)))
    (some true)
    (cond (decide ((((List.length g_0.2.2.2.2):Nat):Int) >(40:Int)))
     (some true)
     ((BA g_0.2.2.2.1).bind fun t9=>
      some (!t9))))))).bind fun z2=>
 cond z2
 (some false)
 ((Cf (σ:=List ByteArray) (β:=Bool) (0:Int) (((List.length g_0.1):Nat):Int) ([] :List ByteArray) fun i_z11 z11=>
  (idx g_0.1 i_z11).bind fun e56=>
  (app z11 ([e56.1] :List ByteArray)).bind fun t17=>
  (idx g_0.1 i_z11).bind fun e82=>
  (Bf (e82.2.1,e82.2.2.1,e82.2.2.2)).bind fun t23=>
  cond (!t23)
  (some (AU.done false))
  (some (AU.next t17))).bind fun e_z10=>match e_z10 with
  | .next z10=>
   (Cf (σ:=Unit) (β:=Bool) (0:Int) (((List.length g_0.2.1):Nat):Int) () fun i_z25 z25=>
    (idx g_0.2.1 i_z25).bind fun e141=>
    (Bf (e141.1,e141.2.1,e141.2.2)).bind fun t32=>
    cond (!t32)
    (some (AU.done false))
    (some (AU.next ()))).bind fun e_z24=>match e_z24 with
   | .next z24=>
    (Cf (σ:=List ByteArray) (β:=Bool) (0:Int) (((List.length g_0.2.2.1):Nat):Int) ([] :List ByteArray) fun i_z34 z34=>
     (idx g_0.2.2.1 i_z34).bind fun e198=>
     (app z34 e198.2).bind fun t42=>
     (cond (decide (e198.1< (1:Int)))
     (some true)
     (cond (decide (e198.1>(3:Int)))
      (some true)
      (some ((((List.length e198.2):Nat):Int)==(0:Int))))).bind fun z43=>
     cond z43
     (some (AU.done false))
     (some (AU.next t42))).bind fun e_z33=>match e_z33 with
    | .next z33=>
     (Cf (σ:=Unit) (β:=Bool) (0:Int) (((List.length g_0.2.2.2.2):Nat):Int) () fun i_z48 z48=>
      (idx g_0.2.2.2.2 i_z48).bind fun e291=>
      ((BA e291.1).bind fun t59=>
      cond (!t59)
      (some true)
      (cond (decide ((((List.length e291.2.1):Nat):Int) >(8:Int)))
       (some true)
       (cond (!(ByteArray.toList e291.2.2.1==ByteArray.toList {data:= #[] }))
        ((BA e291.2.2.1).bind fun t63=>
         cond (!t63)
         (some true)
         ((B9 e291.2.2.2).bind fun t65=>
          some (!t65)))
        ((B9 e291.2.2.2).bind fun t67=>
         some (!t67))))).bind fun z57=>
      cond z57
      (some (AU.done false))
      ((Cf (σ:=Unit) (β:=Bool) (0:Int) (((List.length e291.2.1):Nat):Int) () fun i_z69 z69=>
       (idx e291.2.1 i_z69).bind fun e387=>
       (BA e387).bind fun t74=>
       cond (!t74)
       (some (AU.done false))
       (some (AU.next ()))).bind fun e_z68=>match e_z68 with
       | .next z68=>
        some (AU.next ())
       | .done q422=>some (AU.done q422))).bind fun e_z47=>match e_z47 with
     | .next z47=>
      ((BU z10).bind fun t76=>
      cond t76
      ((BU z33).bind fun t77=>
       some t77)
      (some false)).bind fun z75=>
      some z75
     | .done q468=>some q468
    | .done q469=>some q469
   | .done q470=>some q470
  | .done q471=>some q471)
theorem Hl {φ:AC} {h:AH} {F:List Chk} {g_0:Slc×Slc×Slc×ByteArray×Slc×Unit} {al:List F6} {am:List G7} {an:List ET} {ao:List C3} (ap:Ro.SliceIs GY φ g_0.1 al) (b8:Ro.SliceIs Kk φ g_0.2.1 am) (b9:Ro.SliceIs GZ φ g_0.2.2.1 an) (ba:Ro.SliceIs F7 φ g_0.2.2.2.2.1 ao) (s0:St φ (F) h) {r:Bool} (hd:CG (al,am,an,g_0.2.2.2.1,ao)=some r):
 CallsH Tryz.prog 92 [(.agg #[(sv g_0.1),(sv g_0.2.1),(sv g_0.2.2.1),(.string g_0.2.2.2.1),(sv g_0.2.2.2.2.1)])] h (Ar fun v h'=> ∃ψ:AC,∃y:Bool,Sub φ ψ∧v=((.one aB):Sh).val y∧y=r∧St ψ (F) h'):=by
 refine AR mixed Tryz.func92 ?_
 rw [Hg]
 unfold FF
 unfold CG at hd
 have aq:g_0.1.2.1=List.length al:=ap.length
 have ar:g_0.2.1.2.1=List.length am:=b8.length
 have au:g_0.2.2.1.2.1=List.length an:=b9.length
 have aa:g_0.2.2.2.2.1.2.1=List.length ao:=ba.length
 refine AY (vs:= [sv g_0.1,sv g_0.2.1,sv g_0.2.2.1, .string g_0.2.2.2.1,sv g_0.2.2.2.2.1]) s0 fun r1 gz j=> ?_
 obtain ⟨cl,c,hd⟩:=bS hd
 refine Ao (fun (y:Bool×Unit) w_ g=> ∃ψ:AC,Sub φ ψ∧y.1=g∧St ψ (Wq1 r1 g_0::F) w_) (g:=cl) ?_ ?_
 ·refine AA (x:=g_0.1) j rfl ?_
  refine AL c (by rw [aq] <;>rfl) (fun _ c=> ?_) (fun _ c=> ?_)
  ·obtain rfl:=iS c
   exact AS (true,()) rfl ⟨φ,(Sub.refl _),rfl,j⟩
  refine AA (x:=g_0.2.1) j rfl ?_
  refine AL c (by rw [ar] <;>rfl) (fun _ c=> ?_) (fun _ c=> ?_)
  ·obtain rfl:=iS c
   exact AS (true,()) rfl ⟨φ,(Sub.refl _),rfl,j⟩
  refine AA (x:=g_0.2.2.1) j rfl ?_
  refine AL c (by rw [au] <;>rfl) (fun _ c=> ?_) (fun _ c=> ?_)
  ·obtain rfl:=iS c
   exact AS (true,()) rfl ⟨φ,(Sub.refl _),rfl,j⟩
  refine AA (x:=g_0.2.2.2.2.1) j rfl ?_
  refine AL c (by rw [aa] <;>rfl) (fun _ c=> ?_) (fun _ c=> ?_)
  ·obtain rfl:=iS c
   exact AS (true,()) rfl ⟨φ,(Sub.refl _),rfl,j⟩
  refine AA (x:=g_0.2.2.2.2.1) j rfl ?_
  refine AL c (by rw [aa] <;>rfl) (fun _ c=> ?_) (fun _ c=> ?_)
  ·obtain rfl:=iS c
   exact AS (true,()) rfl ⟨φ,(Sub.refl _),rfl,j⟩
  refine AA (x:=g_0.2.2.2.1) j rfl ?_
  obtain ⟨h0,cm,c⟩:=bS c
  refine AI (B8 j cm) ?_
  rintro _ h1 ⟨cn,t9,co,rfl,rfl,cp⟩
  refine ⟨t9,rfl,?_⟩
  obtain rfl:=iS c
  exact AS ((!t9),()) rfl ⟨cn,co,rfl,cp⟩
 rintro z2 h2 ⟨ab,k,rfl,bb⟩
 try dsimp only at hd
 refine AL hd rfl (fun _ hd=> ?_) (fun _ hd=> ?_)
 ·obtain rfl:=iS hd
  exact AB ⟨ab,false,k,rfl,rfl,bb.tail⟩
 obtain ⟨cq,cr,hd⟩:=bS hd
 refine AT (fun (y:Int×Slc×Bool×Unit) w_ g=> ∃ψ:AC,∃bc:List ByteArray,Sub ab ψ∧AU.next bc=g∧St ψ (cR 9 Ro.str y.2.1 bc::Wq1 r1 g_0::F) w_) (g:=cq) ?_ ?_
 ·refine Be cr (fun cs (y:Int×Slc×Bool×Unit) w_ g=> ∃ψ:AC,∃bd:List ByteArray,Sub ab ψ∧y.1=cs∧bd=g∧St ψ (cR 9 Ro.str y.2.1 bd::Wq1 r1 g_0::F) w_) ((0:Int),((none,0,0):Slc),false,()) rfl ⟨ab,([] :List ByteArray),(Sub.refl _),rfl,rfl,(((bb.nil 9 Ro.str).at1).at1)⟩ ?_ ?_
  ·rintro _ z11 h3 _ _ ⟨h4,h5,ac,rfl,rfl,ad⟩ f ct be bf cu
   try dsimp only at f ct be bf
   refine AA (x:=g_0.1) ad.at1 rfl ?_
   refine Ai (dT aq be) ?_
   refine AA (x:=g_0.1) ad.at1 rfl ?_
   obtain ⟨av,cv,f⟩:=bS f
   obtain ⟨h6,h7,cw,cx,cy,cz⟩:=(ap.mono (k.trans ac)).get cv
   refine AF _ cw (Aa cx ?_)
   obtain ⟨_,_,rfl,d0,d1⟩:=cy
   obtain rfl:=d0
   obtain ⟨_,_,rfl,d2,d3⟩:=d1
   obtain rfl:=d2
   obtain ⟨_,_,rfl,d4,d5⟩:=d3
   obtain rfl:=d4
   obtain rfl:=d5
   refine AG (x:=av.1) (AE ad.sub (cz 0 _ rfl)) rfl ?_
   refine AY (vs:= [.string av.1]) ad fun r16 h8 bg=> ?_
   obtain ⟨d6,d7,f⟩:=bS f
   refine Aj (r:=Ro.str) (ms:=([av.1] :List ByteArray)) CO bg.tail rfl (St.cells bg) (.cons (a:= [_]) rfl .nil) rfl d7 ?_
   intro t17 h9 a4
   refine AA (x:=g_0.1) a4.at1 rfl ?_
   obtain ⟨z,d8,f⟩:=bS f
   obtain ⟨hb,hc,d9,da,db,aw⟩:=(ap.mono (k.trans ac)).get d8
   refine AF _ d9 (Aa da ?_)
   obtain ⟨_,_,rfl,dc,dd⟩:=db
   obtain rfl:=dc
   obtain ⟨_,_,rfl,de,df⟩:=dd
   obtain rfl:=de
   obtain ⟨_,_,rfl,dg,dh⟩:=df
   obtain rfl:=dg
   obtain rfl:=dh
   refine AG (x:=z.2.1) (by rw [Ae]; exact (AE a4.sub (aw 1 _ rfl))) rfl ?_
   refine AG (x:=z.2.2.1) (by rw [Ae,Ae]; exact (AE a4.sub (aw 2 _ rfl))) rfl ?_
   refine AG (x:=z.2.2.2) (by rw [Ae,Ae]; exact (AE a4.sub (aw 3 _ rfl))) rfl ?_
   obtain ⟨he,di,f⟩:=bS f
   refine AI (D1 (p_0:=(z.2.1,z.2.2.1,z.2.2.2,())) a4 di) ?_
   rintro _ hf ⟨bh,t23,bi,rfl,rfl,bj⟩
   refine ⟨t23,rfl,?_⟩
   refine AL f rfl (fun _ f=> ?_) (fun _ f=> ?_)
   ·obtain rfl:=iS f
    obtain rfl:=cu _ rfl
    try dsimp only at hd
    obtain rfl:=iS hd
    exact Af (Ah (AB ⟨bh,false,((k.trans ac).trans bi),rfl,rfl,bj.tail.tail⟩))
   obtain rfl:=iS f
   exact Ag ((wN z11.1),t17,z11.2.2.1,()) _ rfl rfl ⟨bh,d6,(ac.trans bi),bf,rfl,bj.at1.at1⟩
  ·rintro _ z11 hg _ ⟨dj,dk,dl,rfl,rfl,bk⟩ dm dn
   subst dn
   refine AA (x:=g_0.1) bk.at1 rfl ?_
   refine AX (dF aq dm) ?_
   exact AJ (AK (z11.1,z11.2.1,z11.2.2.1,()) rfl ⟨dj,dk,dl,rfl,bk.at1.at1⟩)
 rintro z10 hh ⟨ax,l,q,rfl,dp⟩
 try dsimp only at hd
 obtain ⟨dq,dr,hd⟩:=bS hd
 refine AT (fun (y:Int×Bool×Unit) w_ g=> ∃ψ:AC,Sub ax ψ∧AU.next ()=g∧St ψ (cR 9 Ro.str z10.2.1 l::Wq1 r1 g_0::F) w_) (g:=dq) ?_ ?_
 ·refine Be dr (fun ds (y:Int×Bool×Unit) w_ g=> ∃ψ:AC,Sub ax ψ∧y.1=ds∧()=g∧St ψ (cR 9 Ro.str z10.2.1 l::Wq1 r1 g_0::F) w_) ((0:Int),z10.2.2.1,()) rfl ⟨ax,(Sub.refl _),rfl,rfl,dp.at1.at1⟩ ?_ ?_
  ·rintro _ z25 hi _ _ ⟨hj,ay,rfl,rfl,a0⟩ m dt bl bm du
   try dsimp only at m dt bl bm
   refine AA (x:=g_0.2.1) a0.at1 rfl ?_
   refine Ai (dT ar bl) ?_
   refine AA (x:=g_0.2.1) a0.at1 rfl ?_
   obtain ⟨a1,dv,m⟩:=bS m
   obtain ⟨hk,hl,dw,dx,dy,az⟩:=(b8.mono ((k.trans q).trans ay)).get dv
   refine AF _ dw (Aa dx ?_)
   obtain ⟨_,_,rfl,dz,e0⟩:=dy
   obtain rfl:=dz
   obtain ⟨_,_,rfl,e1,e2⟩:=e0
   obtain rfl:=e1
   obtain rfl:=e2
   refine AG (x:=a1.1) (AE a0.sub (az 0 _ rfl)) rfl ?_
   refine AG (x:=a1.2.1) (by rw [Ae]; exact (AE a0.sub (az 1 _ rfl))) rfl ?_
   refine AG (x:=a1.2.2) (by rw [Ae]; exact (AE a0.sub (az 2 _ rfl))) rfl ?_
   obtain ⟨hm,e3,m⟩:=bS m
   refine AI (D1 (p_0:=(a1.1,a1.2.1,a1.2.2,())) a0 e3) ?_
   rintro _ hn ⟨bn,t32,bo,rfl,rfl,bp⟩
   refine ⟨t32,rfl,?_⟩
   refine AL m rfl (fun _ m=> ?_) (fun _ m=> ?_)
   ·obtain rfl:=iS m
    obtain rfl:=du _ rfl
    try dsimp only at hd
    obtain rfl:=iS hd
    exact Af (Ah (AB ⟨bn,false,(((k.trans q).trans ay).trans bo),rfl,rfl,bp.tail.tail⟩))
   obtain rfl:=iS m
   exact Ag ((wN z25.1),z25.2.1,()) _ rfl rfl ⟨bn,(ay.trans bo),bm,rfl,bp.at1.at1⟩
  ·rintro _ z25 ho _ ⟨e4,e5,rfl,rfl,bq⟩ e6 e7
   subst e7
   refine AA (x:=g_0.2.1) bq.at1 rfl ?_
   refine AX (dF ar e6) ?_
   exact AJ (AK (z25.1,z25.2.1,()) rfl ⟨e4,e5,rfl,bq.at1.at1⟩)
 rintro z24 hp ⟨b0,a2,rfl,e8⟩
 try dsimp only at hd
 obtain ⟨e9,ea,hd⟩:=bS hd
 refine AT (fun (y:Int×Slc×Bool×Unit) w_ g=> ∃ψ:AC,∃br:List ByteArray,Sub b0 ψ∧AU.next br=g∧St ψ (cR 9 Ro.str y.2.1 br::cR 9 Ro.str z10.2.1 l::Wq1 r1 g_0::F) w_) (g:=e9) ?_ ?_
 ·refine Be ea (fun eb (y:Int×Slc×Bool×Unit) w_ g=> ∃ψ:AC,∃bs:List ByteArray,Sub b0 ψ∧y.1=eb∧bs=g∧St ψ (cR 9 Ro.str y.2.1 bs::cR 9 Ro.str z10.2.1 l::Wq1 r1 g_0::F) w_) ((0:Int),((none,0,0):Slc),z24.2.1,()) rfl ⟨b0,([] :List ByteArray),(Sub.refl _),rfl,rfl,((((e8.nil 9 Ro.str).at2).at2).at2)⟩ ?_ ?_
  ·rintro _ z34 hq _ _ ⟨ae,hr,b1,rfl,rfl,a5⟩ i ec bt bu ed
   try dsimp only at i ec bt bu
   refine AA (x:=g_0.2.2.1) a5.at2 rfl ?_
   refine Ai (dT au bt) ?_
   refine AA (x:=g_0.2.2.1) a5.at2 rfl ?_
   obtain ⟨a6,ee,i⟩:=bS i
   obtain ⟨hs,ht,ef,eg,eh,bv⟩:=(b9.mono (((k.trans q).trans a2).trans b1)).get ee
   refine AF _ ef (Aa eg ?_)
   obtain ⟨_,_,rfl,ei,ej⟩:=eh
   obtain rfl:=ei
   obtain ⟨a7,rfl,bw⟩:=ej
   have bx:=bw.length
   refine AG (x:=a6.1) (AE a5.sub (bv 0 _ rfl)) rfl ?_
   refine AG (x:=a7) (by rw [Ae]; exact (AE a5.sub (bv 1 _ rfl))) rfl ?_
   refine AY (vs:= [.int .i64 (0:Int), .slice none 0 0]) a5 fun r40 hu ek=> ?_
   refine AQ ek rfl rfl fun hv el=> ?_
   refine AQ el rfl rfl fun hw b2=> ?_
   refine AA (x:=a7) b2 rfl ?_
   obtain ⟨hx,em,en⟩:=bw.heap b2.sub
   obtain ⟨bz,eo,i⟩:=bS i
   refine Aj (r:=Ro.str) (ms:=a6.2) CO b2.at1 rfl en em bx.symm eo ?_
   intro t42 hy a3
   obtain ⟨ep,o,i⟩:=bS i
   refine Ao (fun (y:Bool×Unit) w_ g=> ∃ψ:AC,Sub ae ψ∧y.1=g∧St ψ (cR 9 Ro.str t42 bz::cW 179 r40 [.int .i64 a6.1,sv a7] ::cR 9 Ro.str z10.2.1 l::Wq1 r1 g_0::F) w_) (g:=ep) ?_ ?_
   ·refine AA (x:=a6.1) a3.at1 rfl ?_
    refine AL o rfl (fun _ o=> ?_) (fun _ o=> ?_)
    ·have er:=a3.at3
     obtain rfl:=iS o
     exact AS (true,()) rfl ⟨ae,(Sub.refl _),rfl,er.at3.at3.at3⟩
    refine AA (x:=a6.1) a3.at1 rfl ?_
    refine AL o rfl (fun _ o=> ?_) (fun _ o=> ?_)
    ·have es:=a3.at3
     obtain rfl:=iS o
     exact AS (true,()) rfl ⟨ae,(Sub.refl _),rfl,es.at3.at3.at3⟩
    refine AA (x:=a7) a3.at1 rfl ?_
    have eu:=a3.at3.at3.at3.at3
    obtain rfl:=iS o
    exact AS ((((a7.2.1:Nat):Int)==(0:Int)),()) rfl ⟨ae,(Sub.refl _),(by rw [bx]),eu⟩
   rintro z43 hz ⟨c0,c1,rfl,c2⟩
   try dsimp only at i
   refine AL i rfl (fun _ i=> ?_) (fun _ i=> ?_)
   ·obtain rfl:=iS i
    obtain rfl:=ed _ rfl
    try dsimp only at hd
    obtain rfl:=iS hd
    exact Af (Ah (AB ⟨c0,false,((((k.trans q).trans a2).trans b1).trans c1),rfl,rfl,c2.tail.tail.tail.tail⟩))
   obtain rfl:=iS i
   exact Ag ((wN z34.1),t42,z34.2.2.1,()) _ rfl rfl ⟨c0,bz,(b1.trans c1),bu,rfl,c2.at1.tail.at2.at2.at2⟩
  ·rintro _ z34 i0 _ ⟨ev,ew,ex,rfl,rfl,c3⟩ ey ez
   subst ez
   refine AA (x:=g_0.2.2.1) c3.at2 rfl ?_
   refine AX (dF au ey) ?_
   exact AJ (AK (z34.1,z34.2.1,z34.2.2.1,()) rfl ⟨ev,ew,ex,rfl,c3.at2.at2.at2⟩)
 rintro z33 i1 ⟨b3,a8,af,rfl,f0⟩
 try dsimp only at hd
 obtain ⟨f1,f2,hd⟩:=bS hd
 refine AT (fun (y:Int×Bool×Unit) w_ g=> ∃ψ:AC,Sub b3 ψ∧AU.next ()=g∧St ψ (cR 9 Ro.str z33.2.1 a8::cR 9 Ro.str z10.2.1 l::Wq1 r1 g_0::F) w_) (g:=f1) ?_ ?_
 ·refine Be f2 (fun f3 (y:Int×Bool×Unit) w_ g=> ∃ψ:AC,Sub b3 ψ∧y.1=f3∧()=g∧St ψ (cR 9 Ro.str z33.2.1 a8::cR 9 Ro.str z10.2.1 l::Wq1 r1 g_0::F) w_) ((0:Int),z33.2.2.1,()) rfl ⟨b3,(Sub.refl _),rfl,rfl,f0.at2.at2.at2⟩ ?_ ?_
  ·rintro _ z48 i2 _ _ ⟨f4,ag,rfl,rfl,w⟩ e f5 c4 c5 c6
   try dsimp only at e f5 c4 c5
   refine AA (x:=g_0.2.2.2.2.1) w.at2 rfl ?_
   refine Ai (dT aa c4) ?_
   refine AA (x:=g_0.2.2.2.2.1) w.at2 rfl ?_
   obtain ⟨d,f6,e⟩:=bS e
   obtain ⟨i3,i4,f7,f8,f9,ah⟩:=(ba.mono ((((k.trans q).trans a2).trans af).trans ag)).get f6
   refine AF _ f7 (Aa f8 ?_)
   obtain ⟨_,_,rfl,fa,fb⟩:=f9
   obtain rfl:=fa
   obtain ⟨_,_,rfl,fc,fd⟩:=fb
   obtain ⟨s,rfl,c7⟩:=fc
   have b4:=c7.length
   obtain ⟨_,_,rfl,fe,ff⟩:=fd
   obtain rfl:=fe
   obtain rfl:=ff
   refine AG (x:=d.1) (AE w.sub (ah 0 _ rfl)) rfl ?_
   refine AG (x:=s) (by rw [Ae]; exact (AE w.sub (ah 1 _ rfl))) rfl ?_
   refine AG (x:=d.2.2.1) (by rw [Ae]; exact (AE w.sub (ah 2 _ rfl))) rfl ?_
   refine AG (x:=d.2.2.2) (by rw [Ae]; exact (AE w.sub (ah 3 _ rfl))) rfl ?_
   refine AY (vs:= [.string ({data:= #[] }), .slice none 0 0, .string ({data:= #[] }), .string ({data:= #[] })]) w fun r56 i5 fg=> ?_
   refine AQ fg rfl rfl fun i6 fh=> ?_
   refine AQ fh rfl rfl fun i7 fi=> ?_
   refine AQ fi rfl rfl fun i8 fj=> ?_
   refine AQ fj rfl rfl fun i9 c8=> ?_
   obtain ⟨fk,b,e⟩:=bS e
   refine Ao (fun (y:Bool×Unit) w_ g=> ∃ψ:AC,Sub f4 ψ∧y.1=g∧St ψ (cW 172 r56 [.string d.1,sv s, .string d.2.2.1, .string d.2.2.2] ::cR 9 Ro.str z33.2.1 a8::cR 9 Ro.str z10.2.1 l::Wq1 r1 g_0::F) w_) (g:=fk) ?_ ?_
   ·refine AA (x:=d.1) c8 rfl ?_
    obtain ⟨ia,fl,b⟩:=bS b
    refine AI (B8 c8 fl) ?_
    rintro _ ib ⟨c9,t59,a9,rfl,rfl,u⟩
    refine ⟨t59,rfl,?_⟩
    refine AL b rfl (fun _ b=> ?_) (fun _ b=> ?_)
    ·have fm:=u.at3
     obtain rfl:=iS b
     exact AS (true,()) rfl ⟨c9,a9,rfl,fm.at3.at3.at3⟩
    refine AA (x:=s) u rfl ?_
    refine AL b (by rw [b4] <;>rfl) (fun _ b=> ?_) (fun _ b=> ?_)
    ·have fn:=u.at3
     obtain rfl:=iS b
     exact AS (true,()) rfl ⟨c9,a9,rfl,fn.at3.at3.at3⟩
    refine AA (x:=d.2.2.1) u rfl ?_
    refine AL b rfl (fun _ b=> ?_) (fun _ b=> ?_)
    ·refine AA (x:=d.2.2.1) u rfl ?_
     obtain ⟨ic,fo,b⟩:=bS b
     refine AI (B8 u fo) ?_
     rintro _ ie ⟨fp,t63,ca,rfl,rfl,b5⟩
     refine ⟨t63,rfl,?_⟩
     refine AL b rfl (fun _ b=> ?_) (fun _ b=> ?_)
     ·have fq:=b5.at3
      obtain rfl:=iS b
      exact AS (true,()) rfl ⟨fp,(a9.trans ca),rfl,fq.at3.at3.at3⟩
     refine AA (x:=d.2.2.2) b5 rfl ?_
     obtain ⟨ig,fr,b⟩:=bS b
     refine AI (EJ b5 fr) ?_
     rintro _ ih ⟨fs,t65,ft,rfl,rfl,fu⟩
     refine ⟨t65,rfl,?_⟩
     obtain rfl:=iS b
     exact AS ((!t65),()) rfl ⟨fs,((a9.trans ca).trans ft),rfl,fu.at3.at3.at3.at3⟩
    refine AA (x:=d.2.2.2) u rfl ?_
    obtain ⟨ii,fv,b⟩:=bS b
    refine AI (EJ u fv) ?_
    rintro _ ij ⟨fw,t67,fx,rfl,rfl,fy⟩
    refine ⟨t67,rfl,?_⟩
    obtain rfl:=iS b
    exact AS ((!t67),()) rfl ⟨fw,(a9.trans fx),rfl,fy.at3.at3.at3.at3⟩
   rintro z57 ik ⟨ai,aj,rfl,cb⟩
   try dsimp only at e
   refine AL e rfl (fun _ e=> ?_) (fun _ e=> ?_)
   ·obtain rfl:=iS e
    obtain rfl:=c6 _ rfl
    try dsimp only at hd
    obtain rfl:=iS hd
    exact Af (Ah (AB ⟨ai,false,(((((k.trans q).trans a2).trans af).trans ag).trans aj),rfl,rfl,cb.tail.tail.tail.tail⟩))
   obtain ⟨fz,g0,e⟩:=bS e
   refine AT (fun (y:Int×Bool×Unit) w_ g=> ∃ψ:AC,Sub ai ψ∧AU.next ()=g∧St ψ (cW 172 r56 [.string d.1,sv s, .string d.2.2.1, .string d.2.2.2] ::cR 9 Ro.str z33.2.1 a8::cR 9 Ro.str z10.2.1 l::Wq1 r1 g_0::F) w_) (g:=fz) ?_ ?_
   ·refine Be g0 (fun g1 (y:Int×Bool×Unit) w_ g=> ∃ψ:AC,Sub ai ψ∧y.1=g1∧()=g∧St ψ (cW 172 r56 [.string d.1,sv s, .string d.2.2.1, .string d.2.2.2] ::cR 9 Ro.str z33.2.1 a8::cR 9 Ro.str z10.2.1 l::Wq1 r1 g_0::F) w_) ((0:Int),z48.2.1,()) rfl ⟨ai,(Sub.refl _),rfl,rfl,cb.at3.at3.at3.at3⟩ ?_ ?_
    ·rintro _ z69 il _ _ ⟨im,b6,rfl,rfl,ak⟩ n g2 cc cd g3
     try dsimp only at n g2 cc cd
     refine AA (x:=s) ak rfl ?_
     refine Ai (dT b4 cc) ?_
     refine AA (x:=s) ak rfl ?_
     obtain ⟨io,g4,n⟩:=bS n
     refine CV c7 g4 (Sub.trans (aj.trans b6) ak.sub) ?_
     obtain ⟨ip,g5,n⟩:=bS n
     refine AI (B8 ak g5) ?_
     rintro _ iq ⟨ce,t74,cf,rfl,rfl,cg⟩
     refine ⟨t74,rfl,?_⟩
     refine AL n rfl (fun _ n=> ?_) (fun _ n=> ?_)
     ·obtain rfl:=iS n
      obtain rfl:=g3 _ rfl
      try dsimp only at e
      obtain rfl:=iS e
      obtain rfl:=c6 _ rfl
      try dsimp only at hd
      obtain rfl:=iS hd
      exact Af (Ah (Af (Ah (AB ⟨ce,false,(((((((k.trans q).trans a2).trans af).trans ag).trans aj).trans b6).trans cf),rfl,rfl,cg.tail.tail.tail.tail⟩))))
     obtain rfl:=iS n
     exact Ag ((wN z69.1),z69.2.1,()) _ rfl rfl ⟨ce,(b6.trans cf),cd,rfl,cg.at3.at3.at3.at3⟩
    ·rintro _ z69 ir _ ⟨g6,g7,rfl,rfl,ch⟩ g8 g9
     subst g9
     refine AA (x:=s) ch rfl ?_
     refine AX (dF b4 g8) ?_
     exact AJ (AK (z69.1,z69.2.1,()) rfl ⟨g6,g7,rfl,ch.at3.at3.at3.at3⟩)
   rintro z68 it ⟨ga,gb,rfl,gc⟩
   try dsimp only at e
   obtain rfl:=iS e
   exact Ag ((wN z48.1),z68.2.1,()) _ rfl rfl ⟨ga,((ag.trans aj).trans gb),c5,rfl,gc.tail.at2.at2.at2⟩
  ·rintro _ z48 iu _ ⟨gd,ge,rfl,rfl,ci⟩ gf gg
   subst gg
   refine AA (x:=g_0.2.2.2.2.1) ci.at2 rfl ?_
   refine AX (dF aa gf) ?_
   exact AJ (AK (z48.1,z48.2.1,()) rfl ⟨gd,ge,rfl,ci.at2.at2.at2⟩)
 rintro z47 iv ⟨iw,gh,rfl,gi⟩
 try dsimp only at hd
 obtain ⟨ix,gj,gk,gl⟩:=St.freezeRow (t:=z10.2.1) gi.at1
 obtain ⟨gm,cj,gn,go⟩:=St.freezeRow (t:=z33.2.1) gl
 obtain ⟨gp,p,hd⟩:=bS hd
 refine Ao (fun (y:Bool×Unit) w_ g=> ∃ψ:AC,Sub gm ψ∧y.1=g∧St ψ (Wq1 r1 g_0::F) w_) (g:=gp) ?_ ?_
 ·obtain ⟨iy,gq,p⟩:=bS p
  refine AI (Ep (gk.mono cj) go gq) ?_
  rintro _ iz ⟨gr,t76,b7,rfl,rfl,ck⟩
  refine ⟨t76,rfl,?_⟩
  refine AL p rfl (fun _ p=> ?_) (fun _ p=> ?_)
  ·obtain ⟨j0,gs,p⟩:=bS p
   refine AI (Ep (gn.mono b7) ck gs) ?_
   rintro _ j1 ⟨gt,t77,gu,rfl,rfl,gv⟩
   refine ⟨t77,rfl,?_⟩
   obtain rfl:=iS p
   exact AS (t77,()) rfl ⟨gt,(b7.trans gu),rfl,gv⟩
  obtain rfl:=iS p
  exact AS (false,()) rfl ⟨gr,b7,rfl,ck⟩
 rintro z75 j2 ⟨gw,gx,rfl,gy⟩
 try dsimp only at hd
 obtain rfl:=iS hd
 exact AB ⟨gw,z75.1,(((((((k.trans q).trans a2).trans af).trans gh).trans gj).trans cj).trans gx),rfl,rfl,gy.tail⟩
noncomputable def BQ (s_0:KQ):Option (List F6×List G7×List ET×ByteArray×List C3):=
 need ((5:Int) ≠ 0) <|
 need ((4:Int) ≠ 0) <|
 (forS (σ:=CW) (0:Int) (((List.length s_0.2.2.2.2.2.1):Nat):Int) (([] :List F6),([] :List G7),([] :List ET),{data:= #[83] },([] :List C3)) fun i_z7 z7=>
  (idx s_0.2.2.2.2.2.1 i_z7).bind fun e75=>
  need ((3:Int) ≠ 0) <|
  need (0≤i_z7∧i_z7≤(IntKind.wrap .i64 (i_z7+(1:Int)))∧(IntKind.wrap .i64 (i_z7+(1:Int))) ≤(ByteArray.size {data:= #[112,113,114,115,116] } :Nat)) <|
  (app z7.2.2.1 ([((IntKind.wrap .i64 ((IntKind.wrap .i64 (Int.tmod e75 (3:Int))) +(1:Int))),([(ByteArray.extract {data:= #[112,113,114,115,116] } (Int.toNat i_z7) (Int.toNat (IntKind.wrap .i64 (i_z7+(1:Int)))))] :List ByteArray))] :List ET)).bind fun t15=>
  some (z7.1,z7.2.1,t15,(z7.2.2.2.1),z7.2.2.2.2)).bind fun z6=>
 (forS (σ:=CW) (0:Int) (IntKind.wrap .i64 ((IntKind.wrap .i64 (Int.tmod s_0.1 (5:Int))) +(1:Int))) z6 fun i_z17 z17=>
  need (0≤i_z17∧i_z17≤(IntKind.wrap .i64 (i_z17+(1:Int)))∧(IntKind.wrap .i64 (i_z17+(1:Int))) ≤(ByteArray.size {data:= #[97,98,99,100,101] } :Nat)) <|
  (app z17.1 ([((ByteArray.extract {data:= #[97,98,99,100,101] } (Int.toNat i_z17) (Int.toNat (IntKind.wrap .i64 (i_z17+(1:Int))))),(ByteArray.extract {data:= #[97,98,99,100,101] } (Int.toNat i_z17) (Int.toNat (IntKind.wrap .i64 (i_z17+(1:Int))))),{data:= #[] },false)] :List F6)).bind fun t20=>
  (cond (decide (i_z17< (((List.length s_0.2.2.2.2.2.2):Nat):Int)))
  ((idx s_0.2.2.2.2.2.2 i_z17).bind fun e175=>
   need ((IntKind.wrap .i64 ((((List.length (t20,z17.2.1,z17.2.2.1,(z17.2.2.2.1),z17.2.2.2.2).2.2.1):Nat):Int) +(1:Int))) ≠ 0) <|
   (cond (decide ((Int.tmod (IntKind.wrap .i64 e175) (IntKind.wrap .i64 ((((List.length (t20,z17.2.1,z17.2.2.1,(z17.2.2.2.1),z17.2.2.2.2).2.2.1):Nat):Int) +(1:Int)))) >(0:Int)))
   ((idx ((t20,z17.2.1,z17.2.2.1,(z17.2.2.2.1),z17.2.2.2.2).1,(t20,z17.2.1,z17.2.2.1,(z17.2.2.2.1),z17.2.2.2.2).2.1,(t20,z17.2.1,z17.2.2.1,(z17.2.2.2.1),z17.2.2.2.2).2.2.1,((t20,z17.2.1,z17.2.2.1,(z17.2.2.2.1),z17.2.2.2.2).2.2.2.1),(t20,z17.2.1,z17.2.2.1,(z17.2.2.2.1),z17.2.2.2.2).2.2.2.2).2.2.1 (IntKind.wrap .i64 ((Int.tmod (IntKind.wrap .i64 e175) (IntKind.wrap .i64 ((((List.length (t20,z17.2.1,z17.2.2.1,(z17.2.2.2.1),z17.2.2.2.2).2.2.1):Nat):Int) +(1:Int)))) - (1:Int)))).bind fun e216=>
    (app ([] :List ByteArray) e216.2).bind fun t33=>
    (app t33 ([(ByteArray.extract {data:= #[97,98,99,100,101] } (Int.toNat i_z17) (Int.toNat (IntKind.wrap .i64 (i_z17+(1:Int)))))] :List ByteArray)).bind fun t35=>
    (idx ((t20,z17.2.1,z17.2.2.1,(z17.2.2.2.1),z17.2.2.2.2).1,(t20,z17.2.1,z17.2.2.1,(z17.2.2.2.1),z17.2.2.2.2).2.1,(t20,z17.2.1,z17.2.2.1,(z17.2.2.2.1),z17.2.2.2.2).2.2.1,((t20,z17.2.1,z17.2.2.1,(z17.2.2.2.1),z17.2.2.2.2).2.2.2.1),(t20,z17.2.1,z17.2.2.1,(z17.2.2.2.1),z17.2.2.2.2).2.2.2.2).2.2.1 (IntKind.wrap .i64 ((Int.tmod (IntKind.wrap .i64 e175) (IntKind.wrap .i64 ((((List.length (t20,z17.2.1,z17.2.2.1,(z17.2.2.2.1),z17.2.2.2.2).2.2.1):Nat):Int) +(1:Int)))) - (1:Int)))).bind fun e253=>
    (Dq (((t20,z17.2.1,z17.2.2.1,(z17.2.2.2.1),z17.2.2.2.2).1,(t20,z17.2.1,z17.2.2.1,(z17.2.2.2.1),z17.2.2.2.2).2.1,(t20,z17.2.1,z17.2.2.1,(z17.2.2.2.1),z17.2.2.2.2).2.2.1,((t20,z17.2.1,z17.2.2.1,(z17.2.2.2.1),z17.2.2.2.2).2.2.2.1),(t20,z17.2.1,z17.2.2.1,(z17.2.2.2.1),z17.2.2.2.2).2.2.2.2).2.2.1) (IntKind.wrap .i64 ((Int.tmod (IntKind.wrap .i64 e175) (IntKind.wrap .i64 ((((List.length (t20,z17.2.1,z17.2.2.1,(z17.2.2.2.1),z17.2.2.2.2).2.2.1):Nat):Int) +(1:Int)))) - (1:Int))) (e253.1,t35)).bind fun m268=>
    some (((t20,z17.2.1,z17.2.2.1,(z17.2.2.2.1),z17.2.2.2.2).1,(t20,z17.2.1,z17.2.2.1,(z17.2.2.2.1),z17.2.2.2.2).2.1,(t20,z17.2.1,z17.2.2.1,(z17.2.2.2.1),z17.2.2.2.2).2.2.1,((t20,z17.2.1,z17.2.2.1,(z17.2.2.2.1),z17.2.2.2.2).2.2.2.1),(t20,z17.2.1,z17.2.2.1,(z17.2.2.2.1),z17.2.2.2.2).2.2.2.2).1,((t20,z17.2.1,z17.2.2.1,(z17.2.2.2.1),z17.2.2.2.2).1,(t20,z17.2.1,z17.2.2.1,(z17.2.2.2.1),z17.2.2.2.2).2.1,(t20,z17.2.1,z17.2.2.1,(z17.2.2.2.1),z17.2.2.2.2).2.2.1,((t20,z17.2.1,z17.2.2.1,(z17.2.2.2.1),z17.2.2.2.2).2.2.2.1),(t20,z17.2.1,z17.2.2.1,(z17.2.2.2.1),z17.2.2.2.2).2.2.2.2).2.1,m268,(((t20,z17.2.1,z17.2.2.1,(z17.2.2.2.1),z17.2.2.2.2).1,(t20,z17.2.1,z17.2.2.1,(z17.2.2.2.1),z17.2.2.2.2).2.1,(t20,z17.2.1,z17.2.2.1,(z17.2.2.2.1),z17.2.2.2.2).2.2.1,((t20,z17.2.1,z17.2.2.1,(z17.2.2.2.1),z17.2.2.2.2).2.2.2.1),(t20,z17.2.1,z17.2.2.1,(z17.2.2.2.1),z17.2.2.2.2).2.2.2.2).2.2.2.1),((t20,z17.2.1,z17.2.2.1,(z17.2.2.2.1),z17.2.2.2.2).1,(t20,z17.2.1,z17.2.2.1,(z17.2.2.2.1),z17.2.2.2.2).2.1,(t20,z17.2.1,z17.2.2.1,(z17.2.2.2.1),z17.2.2.2.2).2.2.1,((t20,z17.2.1,z17.2.2.1,(z17.2.2.2.1),z17.2.2.2.2).2.2.2.1),(t20,z17.2.1,z17.2.2.1,(z17.2.2.2.1),z17.2.2.2.2).2.2.2.2).2.2.2.2))
   (some ((t20,z17.2.1,z17.2.2.1,(z17.2.2.2.1),z17.2.2.2.2).1,(t20,z17.2.1,z17.2.2.1,(z17.2.2.2.1),z17.2.2.2.2).2.1,(t20,z17.2.1,z17.2.2.1,(z17.2.2.2.1),z17.2.2.2.2).2.2.1,((t20,z17.2.1,z17.2.2.1,(z17.2.2.2.1),z17.2.2.2.2).2.2.2.1),(t20,z17.2.1,z17.2.2.1,(z17.2.2.2.1),z17.2.2.2.2).2.2.2.2))).bind fun z27=>
   some z27)
  (some (t20,z17.2.1,z17.2.2.1,(z17.2.2.2.1),z17.2.2.2.2))).bind fun z22=>
  some z22).bind fun z16=>
 (forS (σ:=CW) (0:Int) (((List.length s_0.2.2.1):Nat):Int) z16 fun i_z47 z47=>
  (idx s_0.2.2.1 i_z47).bind fun e458=>
  need ((IntKind.wrap .i64 ((IntKind.wrap .i64 (Int.tmod s_0.2.1 (4:Int))) +(1:Int))) ≠ 0) <|
  (idx s_0.2.2.1 i_z47).bind fun e468=>
  need ((IntKind.wrap .i64 ((IntKind.wrap .i64 (Int.tmod s_0.2.1 (4:Int))) +(1:Int))) ≠ 0) <|
  need (0≤(Int.tmod (IntKind.wrap .i64 e458) (IntKind.wrap .i64 ((IntKind.wrap .i64 (Int.tmod s_0.2.1 (4:Int))) +(1:Int))))∧(Int.tmod (IntKind.wrap .i64 e458) (IntKind.wrap .i64 ((IntKind.wrap .i64 (Int.tmod s_0.2.1 (4:Int))) +(1:Int)))) ≤(IntKind.wrap .i64 ((Int.tmod (IntKind.wrap .i64 e468) (IntKind.wrap .i64 ((IntKind.wrap .i64 (Int.tmod s_0.2.1 (4:Int))) +(1:Int)))) +(1:Int)))∧(IntKind.wrap .i64 ((Int.tmod (IntKind.wrap .i64 e468) (IntKind.wrap .i64 ((IntKind.wrap .i64 (Int.tmod s_0.2.1 (4:Int))) +(1:Int)))) +(1:Int))) ≤(ByteArray.size {data:= #[83,84,85,86] } :Nat)) <|
  (cond (decide (i_z47< (((List.length s_0.2.2.2.1):Nat):Int)))
  ((loop (σ:=(Int×C3)) (β:=C3) ((0:Int),((ByteArray.extract {data:= #[83,84,85,86] } (Int.toNat (Int.tmod (IntKind.wrap .i64 e458) (IntKind.wrap .i64 ((IntKind.wrap .i64 (Int.tmod s_0.2.1 (4:Int))) +(1:Int))))) (Int.toNat (IntKind.wrap .i64 ((Int.tmod (IntKind.wrap .i64 e468) (IntKind.wrap .i64 ((IntKind.wrap .i64 (Int.tmod s_0.2.1 (4:Int))) +(1:Int)))) +(1:Int))))),([] :List ByteArray),{data:= #[] },{data:= #[] })) fun z59=>
   (idx s_0.2.2.2.1 i_z47).bind fun e514=>
   cond (decide (z59.1< (((List.length e514):Nat):Int)))
   ((idx s_0.2.2.2.1 i_z47).bind fun e520=>
    (idx e520 z59.1).bind fun e523=>
    need ((IntKind.wrap .i64 ((IntKind.wrap .i64 ((IntKind.wrap .i64 (Int.tmod s_0.1 (5:Int))) +(1:Int))) +(IntKind.wrap .i64 ((IntKind.wrap .i64 (Int.tmod s_0.2.1 (4:Int))) +(1:Int))))) ≠ 0) <|
    need ((5:Int) ≠ 0) <|
    need ((5:Int) ≠ 0) <|
    need (0≤(Int.tmod (Int.tmod (IntKind.wrap .i64 e523) (IntKind.wrap .i64 ((IntKind.wrap .i64 ((IntKind.wrap .i64 (Int.tmod s_0.1 (5:Int))) +(1:Int))) +(IntKind.wrap .i64 ((IntKind.wrap .i64 (Int.tmod s_0.2.1 (4:Int))) +(1:Int)))))) (5:Int))∧(Int.tmod (Int.tmod (IntKind.wrap .i64 e523) (IntKind.wrap .i64 ((IntKind.wrap .i64 ((IntKind.wrap .i64 (Int.tmod s_0.1 (5:Int))) +(1:Int))) +(IntKind.wrap .i64 ((IntKind.wrap .i64 (Int.tmod s_0.2.1 (4:Int))) +(1:Int)))))) (5:Int)) ≤(IntKind.wrap .i64 ((Int.tmod (Int.tmod (IntKind.wrap .i64 e523) (IntKind.wrap .i64 ((IntKind.wrap .i64 ((IntKind.wrap .i64 (Int.tmod s_0.1 (5:Int))) +(1:Int))) +(IntKind.wrap .i64 ((IntKind.wrap .i64 (Int.tmod s_0.2.1 (4:Int))) +(1:Int)))))) (5:Int)) +(1:Int)))∧(IntKind.wrap .i64 ((Int.tmod (Int.tmod (IntKind.wrap .i64 e523) (IntKind.wrap .i64 ((IntKind.wrap .i64 ((IntKind.wrap .i64 (Int.tmod s_0.1 (5:Int))) +(1:Int))) +(IntKind.wrap .i64 ((IntKind.wrap .i64 (Int.tmod s_0.2.1 (4:Int))) +(1:Int)))))) (5:Int)) +(1:Int))) ≤(ByteArray.size {data:= #[97,98,99,100,101] } :Nat)) <|
    (cond (decide ((Int.tmod (IntKind.wrap .i64 e523) (IntKind.wrap .i64 ((IntKind.wrap .i64 ((IntKind.wrap .i64 (Int.tmod s_0.1 (5:Int))) +(1:Int))) +(IntKind.wrap .i64 ((IntKind.wrap .i64 (Int.tmod s_0.2.1 (4:Int))) +(1:Int)))))) ≥ (IntKind.wrap .i64 ((IntKind.wrap .i64 (Int.tmod s_0.1 (5:Int))) +(1:Int)))))
    (need (0≤(IntKind.wrap .i64 ((Int.tmod (IntKind.wrap .i64 e523) (IntKind.wrap .i64 ((IntKind.wrap .i64 ((IntKind.wrap .i64 (Int.tmod s_0.1 (5:Int))) +(1:Int))) +(IntKind.wrap .i64 ((IntKind.wrap .i64 (Int.tmod s_0.2.1 (4:Int))) +(1:Int)))))) - (IntKind.wrap .i64 ((IntKind.wrap .i64 (Int.tmod s_0.1 (5:Int))) +(1:Int)))))∧(IntKind.wrap .i64 ((Int.tmod (IntKind.wrap .i64 e523) (IntKind.wrap .i64 ((IntKind.wrap .i64 ((IntKind.wrap .i64 (Int.tmod s_0.1 (5:Int))) +(1:Int))) +(IntKind.wrap .i64 ((IntKind.wrap .i64 (Int.tmod s_0.2.1 (4:Int))) +(1:Int)))))) - (IntKind.wrap .i64 ((IntKind.wrap .i64 (Int.tmod s_0.1 (5:Int))) +(1:Int))))) ≤(IntKind.wrap .i64 ((IntKind.wrap .i64 ((Int.tmod (IntKind.wrap .i64 e523) (IntKind.wrap .i64 ((IntKind.wrap .i64 ((IntKind.wrap .i64 (Int.tmod s_0.1 (5:Int))) +(1:Int))) +(IntKind.wrap .i64 ((IntKind.wrap .i64 (Int.tmod s_0.2.1 (4:Int))) +(1:Int)))))) - (IntKind.wrap .i64 ((IntKind.wrap .i64 (Int.tmod s_0.1 (5:Int))) +(1:Int))))) +(1:Int)))∧(IntKind.wrap .i64 ((IntKind.wrap .i64 ((Int.tmod (IntKind.wrap .i64 e523) (IntKind.wrap .i64 ((IntKind.wrap .i64 ((IntKind.wrap .i64 (Int.tmod s_0.1 (5:Int))) +(1:Int))) +(IntKind.wrap .i64 ((IntKind.wrap .i64 (Int.tmod s_0.2.1 (4:Int))) +(1:Int)))))) - (IntKind.wrap .i64 ((IntKind.wrap .i64 (Int.tmod s_0.1 (5:Int))) +(1:Int))))) +(1:Int))) ≤(ByteArray.size {data:= #[83,84,85,86] } :Nat)) <|
     some (ByteArray.extract {data:= #[83,84,85,86] } (Int.toNat (IntKind.wrap .i64 ((Int.tmod (IntKind.wrap .i64 e523) (IntKind.wrap .i64 ((IntKind.wrap .i64 ((IntKind.wrap .i64 (Int.tmod s_0.1 (5:Int))) +(1:Int))) +(IntKind.wrap .i64 ((IntKind.wrap .i64 (Int.tmod s_0.2.1 (4:Int))) +(1:Int)))))) - (IntKind.wrap .i64 ((IntKind.wrap .i64 (Int.tmod s_0.1 (5:Int))) +(1:Int)))))) (Int.toNat (IntKind.wrap .i64 ((IntKind.wrap .i64 ((Int.tmod (IntKind.wrap .i64 e523) (IntKind.wrap .i64 ((IntKind.wrap .i64 ((IntKind.wrap .i64 (Int.tmod s_0.1 (5:Int))) +(1:Int))) +(IntKind.wrap .i64 ((IntKind.wrap .i64 (Int.tmod s_0.2.1 (4:Int))) +(1:Int)))))) - (IntKind.wrap .i64 ((IntKind.wrap .i64 (Int.tmod s_0.1 (5:Int))) +(1:Int))))) +(1:Int))))))
    (some (ByteArray.extract {data:= #[97,98,99,100,101] } (Int.toNat (Int.tmod (Int.tmod (IntKind.wrap .i64 e523) (IntKind.wrap .i64 ((IntKind.wrap .i64 ((IntKind.wrap .i64 (Int.tmod s_0.1 (5:Int))) +(1:Int))) +(IntKind.wrap .i64 ((IntKind.wrap .i64 (Int.tmod s_0.2.1 (4:Int))) +(1:Int)))))) (5:Int))) (Int.toNat (IntKind.wrap .i64 ((Int.tmod (Int.tmod (IntKind.wrap .i64 e523) (IntKind.wrap .i64 ((IntKind.wrap .i64 ((IntKind.wrap .i64 (Int.tmod s_0.1 (5:Int))) +(1:Int))) +(IntKind.wrap .i64 ((IntKind.wrap .i64 (Int.tmod s_0.2.1 (4:Int))) +(1:Int)))))) (5:Int)) +(1:Int))))))).bind fun z68=>
    (app z59.2.2.1 ([z68] :List ByteArray)).bind fun t71=>
    some (AU.next ((IntKind.wrap .i64 (z59.1+(1:Int))),((z59.2.1),t71,(z59.2.2.2.1),(z59.2.2.2.2)))))
   (some (AU.done z59.2))).bind fun z58=>
   some z58)
  (some ((ByteArray.extract {data:= #[83,84,85,86] } (Int.toNat (Int.tmod (IntKind.wrap .i64 e458) (IntKind.wrap .i64 ((IntKind.wrap .i64 (Int.tmod s_0.2.1 (4:Int))) +(1:Int))))) (Int.toNat (IntKind.wrap .i64 ((Int.tmod (IntKind.wrap .i64 e468) (IntKind.wrap .i64 ((IntKind.wrap .i64 (Int.tmod s_0.2.1 (4:Int))) +(1:Int)))) +(1:Int))))),([] :List ByteArray),{data:= #[] },{data:= #[] }))).bind fun z57=>
  (cond (decide (i_z47< (((List.length s_0.2.2.2.2.1):Nat):Int)))
  ((idx s_0.2.2.2.2.1 i_z47).bind fun e632=>
   need ((IntKind.wrap .i64 ((((List.length z47.2.2.1):Nat):Int) +(1:Int))) ≠ 0) <|
   (cond (decide ((Int.tmod (IntKind.wrap .i64 e632) (IntKind.wrap .i64 ((((List.length z47.2.2.1):Nat):Int) +(1:Int)))) >(0:Int)))
   (need (0≤(IntKind.wrap .i64 ((Int.tmod (IntKind.wrap .i64 e632) (IntKind.wrap .i64 ((((List.length z47.2.2.1):Nat):Int) +(1:Int)))) - (1:Int)))∧(IntKind.wrap .i64 ((Int.tmod (IntKind.wrap .i64 e632) (IntKind.wrap .i64 ((((List.length z47.2.2.1):Nat):Int) +(1:Int)))) - (1:Int))) ≤(Int.tmod (IntKind.wrap .i64 e632) (IntKind.wrap .i64 ((((List.length z47.2.2.1):Nat):Int) +(1:Int))))∧(Int.tmod (IntKind.wrap .i64 e632) (IntKind.wrap .i64 ((((List.length z47.2.2.1):Nat):Int) +(1:Int)))) ≤(ByteArray.size {data:= #[112,113,114,115,116] } :Nat)) <|
    some ((z57.1),z57.2.1,(ByteArray.extract {data:= #[112,113,114,115,116] } (Int.toNat (IntKind.wrap .i64 ((Int.tmod (IntKind.wrap .i64 e632) (IntKind.wrap .i64 ((((List.length z47.2.2.1):Nat):Int) +(1:Int)))) - (1:Int)))) (Int.toNat (Int.tmod (IntKind.wrap .i64 e632) (IntKind.wrap .i64 ((((List.length z47.2.2.1):Nat):Int) +(1:Int)))))),(z57.2.2.2)))
   (some z57)).bind fun z78=>
   some z78)
  (some z57)).bind fun z73=>
  (app z47.2.2.2.2 ([((z73.1),z73.2.1,(z73.2.2.1),(z73.2.2.2))] :List C3)).bind fun t85=>
  some (z47.1,z47.2.1,z47.2.2.1,(z47.2.2.2.1),t85)).bind fun z46=>
 (forS (σ:=CW) (0:Int) (IntKind.wrap .i64 ((IntKind.wrap .i64 (Int.tmod s_0.2.1 (4:Int))) +(1:Int))) z46 fun i_z87 z87=>
  need (0≤i_z87∧i_z87≤(IntKind.wrap .i64 (i_z87+(1:Int)))∧(IntKind.wrap .i64 (i_z87+(1:Int))) ≤(ByteArray.size {data:= #[83,84,85,86] } :Nat)) <|
  (loop (σ:=(Int×Bool)) (β:=Bool) ((0:Int),false) fun z89=>
   cond (decide (z89.1< (((List.length z87.2.2.2.2):Nat):Int)))
   ((cond z89.2
    (some true)
    ((idx z87.2.2.2.2 z89.1).bind fun e875=>
     some (ByteArray.toList e875.1==ByteArray.toList (ByteArray.extract {data:= #[83,84,85,86] } (Int.toNat i_z87) (Int.toNat (IntKind.wrap .i64 (i_z87+(1:Int)))))))).bind fun z91=>
    some (AU.next ((IntKind.wrap .i64 (z89.1+(1:Int))),z91)))
   (some (AU.done z89.2))).bind fun z88=>
  (cond (!z88)
  ((app z87.2.2.2.2 ([((ByteArray.extract {data:= #[83,84,85,86] } (Int.toNat i_z87) (Int.toNat (IntKind.wrap .i64 (i_z87+(1:Int))))),([] :List ByteArray),{data:= #[] },{data:= #[] })] :List C3)).bind fun t98=>
   some (z87.1,z87.2.1,z87.2.2.1,(z87.2.2.2.1),t98))
  (some z87)).bind fun z95=>
  some z95).bind fun z86=>
 some (z86.1,z86.2.1,z86.2.2.1,(z86.2.2.2.1),z86.2.2.2.2)
set_option maxHeartbeats 4000000 in
theorem Ez {φ:AC} {h:AH} {F:List Chk} {s_0:Int×Int×Slc×Slc×Slc×Slc×Slc×Unit} {bj:List Int} {bk:List (List Int)} {bl:List Int} {bm:List Int} {bn:List Int} (bo:Ro.SliceIs (Ro.int .u8) φ s_0.2.2.1 bj) (bp:Ro.SliceIs (Ro.list (Ro.int .u8)) φ s_0.2.2.2.1 bk) (cg:Ro.SliceIs (Ro.int .u8) φ s_0.2.2.2.2.1 bl) (ch:Ro.SliceIs (Ro.int .u8) φ s_0.2.2.2.2.2.1 bm) (ci:Ro.SliceIs (Ro.int .u8) φ s_0.2.2.2.2.2.2.1 bn) (s0:St φ (F) h) {r:(List F6×List G7×List ET×ByteArray×List C3)} (hd:BQ (s_0.1,s_0.2.1,bj,bk,bl,bm,bn)=some r):
 CallsH Tryz.prog 56 [(.agg #[(.int .u8 s_0.1),(.int .u8 s_0.2.1),(sv s_0.2.2.1),(sv s_0.2.2.2.1),(sv s_0.2.2.2.2.1),(sv s_0.2.2.2.2.2.1),(sv s_0.2.2.2.2.2.2.1)])] h (Ar fun v h'=> ∃ψ:AC,∃y:Slc×Slc×Slc×ByteArray×Slc×Unit,∃cj:List F6,∃ck:List G7,∃cl:List ET,∃cm:List C3,Sub φ ψ∧v=((.one (.agg [.slice, .slice, .slice, .string, .slice])):Sh).val y∧(cj,ck,cl,y.2.2.2.1,cm)=r∧Ro.SliceIs GY ψ y.1 cj∧Ro.SliceIs Kk ψ y.2.1 ck∧Ro.SliceIs GZ ψ y.2.2.1 cl∧Ro.SliceIs F7 ψ y.2.2.2.2.1 cm∧St ψ (F) h'):=by
 refine AR mixed Tryz.func56 ?_
 rw [Ex]
 unfold DB
 unfold BQ at hd
 have cn:s_0.2.2.1.2.1=List.length bj:=bo.length
 have fd:s_0.2.2.2.1.2.1=List.length bk:=bp.length
 have fe:s_0.2.2.2.2.1.2.1=List.length bl:=cg.length
 have co:s_0.2.2.2.2.2.1.2.1=List.length bm:=ch.length
 have ff:s_0.2.2.2.2.2.2.1.2.1=List.length bn:=ci.length
 refine AY (vs:= [.int .u8 s_0.1, .int .u8 s_0.2.1,sv s_0.2.2.1,sv s_0.2.2.2.1,sv s_0.2.2.2.2.1,sv s_0.2.2.2.2.2.1,sv s_0.2.2.2.2.2.2.1]) s0 fun r1 nm fg=> ?_
 refine AY (vs:= [.slice none 0 0, .slice none 0 0, .slice none 0 0, .string ({data:= #[] }), .slice none 0 0]) fg fun r2 nn bq=> ?_
 refine AA (x:=s_0.1) bq.at1 rfl ?_
 refine Cd hd id fun np hd=> ?_
 refine AA (x:=s_0.2.1) bq.at1 rfl ?_
 refine Cd hd id fun nq hd=> ?_
 refine AY (vs:= [.slice none 0 0, .slice none 0 0, .slice none 0 0, .string ({data:= #[] }), .slice none 0 0]) bq fun r5 nr fh=> ?_
 refine AQ fh rfl rfl fun ns fi=> ?_
 refine AQ fi rfl rfl fun nt fj=> ?_
 refine AQ fj rfl rfl fun nu fk=> ?_
 refine AQ fk rfl rfl fun nv fl=> ?_
 refine AQ fl rfl rfl fun nw fm=> ?_
 have fn:=D6 (t0:=((none,0,0):Slc)) (t1:=((none,0,0):Slc)) (t2:=((none,0,0):Slc)) (t4:=((none,0,0):Slc)) (x1:=([] :List G7)) (x3:= {data:= #[83] }) (((fm.nil 176 GY).nil 179 GZ).nil 172 F7).at3.at3.at3.at3 (Ro.SliceIs.nil Kk φ)
 obtain ⟨fo,fp,hd⟩:=bS hd
 refine AT (fun (y:Int×Unit) w_ g=> ∃ψ:AC,∃cp:CW,Sub φ ψ∧cp=g∧St ψ (cO 107 DT (some ⟨r5,0,none⟩) cp::Wq4 r2::Wq0 r1 s_0::F) w_) (g:=fo) ?_ ?_
 ·refine BJ fp (fun fq (y:Int×Unit) w_ g=> ∃ψ:AC,∃cq:CW,Sub φ ψ∧y.1=fq∧cq=g∧St ψ (cO 107 DT (some ⟨r5,0,none⟩) cq::Wq4 r2::Wq0 r1 s_0::F) w_) ((0:Int),()) rfl ⟨φ,(([] :List F6),([] :List G7),([] :List ET),{data:= #[83] },([] :List C3)),(Sub.refl _),rfl,rfl,fn.at2.at2.at2⟩ ?_ ?_
  ·rintro _ z7 nx _ _ ⟨ny,ag,cr,rfl,rfl,ct⟩ u fr cu cv
   try dsimp only at u fr cu cv
   refine AA (x:=s_0.2.2.2.2.2.1) ct.at2 rfl ?_
   refine Ai (dT co cu) ?_
   obtain ⟨fs,nz,o0,ft,o1,cw,fu,b0⟩:=Ft ct
   obtain rfl:r5=fs:=by simpa using cw
   clear cw
   refine AA (x:=ft) b0.at3 rfl ?_
   refine AA (x:=s_0.2.2.2.2.2.1) b0.at5 rfl ?_
   obtain ⟨br,fv,u⟩:=bS u
   obtain ⟨o2,o3,fw,fx,fy,cx⟩:=(ch.mono cr).get fv
   refine AF _ fw (Aa fx ?_)
   obtain rfl:=fy
   refine AG (x:=br) (AE b0.sub (cx 0 _ rfl)) rfl ?_
   refine Cd u id fun o4 u=> ?_
   refine Cd u id fun o5 u=> ?_
   refine KP b0 fun r13 o6 o7 b1=> ?_
   refine AO (AE b1.sub (cx 0 _ rfl)) ?_
   refine AO (St.cell (b:=r1) (j:=5) b1.at6 rfl) ?_
   refine AO (St.cell (b:=r5) (j:=2) b1.at4 rfl) ?_
   refine AY (vs:= [.int .i64 (IntKind.wrap .i64 ((IntKind.wrap .i64 (Int.tmod br (3:Int))) +(1:Int))), .slice (some ⟨r13,0,none⟩) 1 1]) b1 fun r14 o8 cy=> ?_
   refine AO (St.cell (b:=r5) (j:=2) cy.at5 rfl) ?_
   have fz:=St.lit (r:=Ro.str) (l:=([(ByteArray.extract {data:= #[112,113,114,115,116] } (Int.toNat z7.1) (Int.toNat (wN z7.1)))] :List ByteArray)) (n:=1) cy.at1 (.cons (a:= [_]) rfl .nil) rfl (by decide)
   obtain ⟨g0,cz,g1,d0⟩:=St.freezeRow (t:=((some ⟨r13,0,none⟩,1,1):Slc)) fz
   obtain ⟨g2,g3,u⟩:=bS u
   refine Aj (r:=GZ) (ms:=([((IntKind.wrap .i64 ((IntKind.wrap .i64 (Int.tmod br (3:Int))) +(1:Int))),([(ByteArray.extract {data:= #[112,113,114,115,116] } (Int.toNat z7.1) (Int.toNat (wN z7.1)))] :List ByteArray))] :List ET)) OI d0.tail.at1 rfl (St.cells d0) (.cons (a:= [_,_]) ⟨[_],_,rfl,rfl,⟨((some ⟨r13,0,none⟩,1,1):Slc),rfl,g1⟩⟩ .nil) rfl g3 ?_
   intro t15 o9 g4
   refine AQ g4.at3 rfl rfl fun oa g5=> ?_
   obtain rfl:=iS u
   exact Ag ((wN z7.1),()) _ rfl rfl ⟨g0,(ag.1,ag.2.1,g2,(ag.2.2.2.1),ag.2.2.2.2),(cr.trans cz),cv,rfl,((((D6 (x1:=ag.2.1) (x3:=(ag.2.2.2.1)) g5.at3.at2.at3.at3.at3.at3.at3 (fu.mono cz)).at2).at2).at2)⟩
  ·rintro _ z7 ob ⟨g6,g7,g8,rfl,rfl,d1⟩ g9
   refine AA (x:=s_0.2.2.2.2.2.1) d1.at2 rfl ?_
   refine AX (dF co g9) ?_
   exact AJ (AK (z7.1,()) rfl ⟨g6,g7,g8,rfl,d1.at2.at2.at2⟩)
 rintro z6 oc ⟨bs,ga,a3,rfl,gb⟩
 try dsimp only at hd
 obtain ⟨gc,gd,hd⟩:=bS hd
 refine AT (fun (y:Int×Unit) w_ g=> ∃ψ:AC,∃d2:CW,Sub bs ψ∧d2=g∧St ψ (cO 107 DT (some ⟨r5,0,none⟩) d2::Wq4 r2::Wq0 r1 s_0::F) w_) (g:=gc) ?_ ?_
 ·refine BJ gd (fun ge (y:Int×Unit) w_ g=> ∃ψ:AC,∃d3:CW,Sub bs ψ∧y.1=ge∧d3=g∧St ψ (cO 107 DT (some ⟨r5,0,none⟩) d3::Wq4 r2::Wq0 r1 s_0::F) w_) ((0:Int),()) rfl ⟨bs,ga,(Sub.refl _),rfl,rfl,gb.at2.at2.at2⟩ ?_ ?_
  ·rintro _ z17 od _ _ ⟨b2,e,d4,rfl,rfl,gf⟩ z gg d5 d6
   try dsimp only at z gg d5 d6
   refine Ai (by exact decide_eq_true d5) ?_
   refine Cd z id fun oe z=> ?_
   obtain ⟨gh,gi,og,oh,oi,d7,gj,d8⟩:=Ft gf
   obtain rfl:r5=gh:=by simpa using d7
   clear d7
   refine AA (x:=gi) d8.at3 rfl ?_
   refine AY (vs:= [.string (ByteArray.extract {data:= #[97,98,99,100,101] } (Int.toNat z17.1) (Int.toNat (wN z17.1))), .string (ByteArray.extract {data:= #[97,98,99,100,101] } (Int.toNat z17.1) (Int.toNat (wN z17.1))), .string ({data:= #[] }), .bool false]) d8 fun r19 oj d9=> ?_
   obtain ⟨ar,gk,z⟩:=bS z
   refine Aj (r:=GY) (ms:=([((ByteArray.extract {data:= #[97,98,99,100,101] } (Int.toNat z17.1) (Int.toNat (wN z17.1))),(ByteArray.extract {data:= #[97,98,99,100,101] } (Int.toNat z17.1) (Int.toNat (wN z17.1))),{data:= #[] },false)] :List F6)) OH d9.tail.at2 rfl (St.cells d9) (.cons (a:= [_,_,_,_]) ⟨[_],_,rfl,rfl,⟨[_],_,rfl,rfl,⟨[_],_,rfl,rfl,rfl⟩⟩⟩ .nil) rfl gk ?_
   intro t20 ok gl
   refine AQ gl.at3 rfl rfl fun ol da=> ?_
   refine AA (x:=s_0.2.2.2.2.2.2.1) da.at5 rfl ?_
   have b3:=D6 (x1:=e.2.1) (x3:=(e.2.2.2.1)) da.at1.at3.at3.at3.at3.at3.at3 gj
   obtain ⟨gm,q,z⟩:=bS z
   refine Ao (fun (y:Unit) w_ g=> ∃ψ:AC,∃db:CW,Sub b2 ψ∧db=g∧St ψ (cO 107 DT (some ⟨r5,0,none⟩) db::Wq4 r2::Wq0 r1 s_0::F) w_) (g:=gm) ?_ ?_
   ·refine AL q (by rw [ff] <;>rfl) (fun _ q=> ?_) (fun _ q=> ?_)
    ·refine AA (x:=s_0.2.2.2.2.2.2.1) b3.at2 rfl ?_
     obtain ⟨om,gn,q⟩:=bS q
     refine CV ci gn (Sub.trans (a3.trans d4) b3.sub) ?_
     obtain ⟨go,on,oo,gp,op,dc,dd,b4⟩:=Ft b3
     obtain rfl:r5=go:=by simpa using dc
     clear dc
     try dsimp only at b4 dd
     have a0:=(b4.at1).rowLen
     refine AA (x:=gp) b4.at3 rfl ?_
     refine Cd q (by rw [a0]; exact id) fun oq q=> ?_
     have de:=D6 (x1:=e.2.1) (x3:=((e.2.2.2.1))) b4.at2.at2.at2.at3.at3.at3.at3 dd
     obtain ⟨gq,d,q⟩:=bS q
     refine Ao (fun (y:Unit) w_ g=> ∃ψ:AC,∃df:CW,Sub b2 ψ∧df=g∧St ψ (cO 107 DT (some ⟨r5,0,none⟩) df::Wq4 r2::Wq0 r1 s_0::F) w_) (g:=gq) ?_ ?_
     ·refine AL d (by rw [a0] <;>rfl) (fun _ d=> ?_) (fun _ d=> ?_)
      ·obtain ⟨gr,os,ot,dg,ou,dh,b5,ah⟩:=Ft de
       obtain rfl:r5=gr:=by simpa using dh
       clear dh
       try dsimp only at ah b5
       refine AA (x:=dg) ah.at3 rfl ?_
       refine AA (x:=dg) ah.at3 rfl ?_
       obtain ⟨bt,di,d⟩:=bS d
       rw [← a0] at di
       obtain ⟨ov,ow,gs,gt,gu,au⟩:=(ah.at1).get di
       refine AF _ gs (Aa gt ?_)
       obtain ⟨_,_,rfl,gv,gw⟩:=gu
       obtain rfl:=gv
       obtain ⟨gx,rfl,b6⟩:=gw
       have bu:=b6.length
       refine AG (x:=gx) (by rw [Ae]; exact (au 1 _ rfl)) rfl ?_
       refine FZ ?_ ?_
       ·refine KP ah fun r32 ox dj av=> ?_
        refine AO (by rw [Ae]; exact (dj _ _ (au 1 _ rfl))) ?_
        refine AO (St.cell (b:=r5) (j:=2) av.at4 rfl) ?_
        refine AO (St.cell (b:=r5) (j:=2) av.at4 rfl) ?_
        refine FZ ?_ ?_
        ·obtain ⟨oy,gy,gz⟩:=b6.heap av.sub
         have h0:=St.lit (r:=Ro.str) (l:=([] :List ByteArray)) (n:=0) av .nil rfl (by decide)
         obtain ⟨oz,h1,d⟩:=bS d
         refine Aj (r:=Ro.str) (ms:=bt.2) CO h0 rfl gz gy bu.symm h1 ?_
         intro t33 p0 dk
         refine AO (St.cell (b:=r5) (j:=2) dk.at4 rfl) ?_
         refine AY (vs:= [.string (ByteArray.extract {data:= #[97,98,99,100,101] } (Int.toNat z17.1) (Int.toNat (wN z17.1)))]) dk fun r34 p1 bv=> ?_
         refine AO (St.cell (b:=r5) (j:=2) bv.at5 rfl) ?_
         obtain ⟨p2,h2,d⟩:=bS d
         refine Aj (r:=Ro.str) (ms:=([(ByteArray.extract {data:= #[97,98,99,100,101] } (Int.toNat z17.1) (Int.toNat (wN z17.1)))] :List ByteArray)) CO bv.tail rfl (St.cells bv) (.cons (a:= [_]) rfl .nil) rfl h2 ?_
         intro t35 p3 bw
         refine AO (St.cell (b:=r5) (j:=2) bw.at4 rfl) ?_
         obtain ⟨p4,bx,d⟩:=bS d
         rw [← a0] at bx
         obtain ⟨p5,p6,dl,h3,h4,p7⟩:=(bw.at2).get bx
         refine AF _ dl (Aa h3 ?_)
         obtain ⟨_,_,rfl,h5,h6⟩:=h4
         obtain rfl:=h5
         obtain ⟨p8,rfl,p9⟩:=h6
         obtain ⟨h7,dm,h8,h9⟩:=St.freezeRow (t:=t35) bw
         obtain ⟨hb,dn,d⟩:=bS d
         rw [← a0] at dn
         refine OF (j:=1) h9.at1 bx dn (by rintro _ ⟨_,_,rfl,rfl,⟨t1,rfl,q1⟩⟩; exact ⟨[_],_,rfl,rfl,⟨t35,rfl,h8⟩⟩) rfl rfl dl (by rw [Ae]; rfl) fun pa hc=> ?_
         have he:=(((D6 (x1:=e.2.1) (x3:=(((e.2.2.2.1)))) hc.at2.at1.at2.at3.at3.at3.at3 (b5.mono dm)).at2).at2).at2
         obtain rfl:=iS d
         exact AS (()) rfl ⟨h7,(ar,e.2.1,hb,(((e.2.2.2.1))),e.2.2.2.2),dm,rfl,he⟩
        ·refine KP av fun r37 pb hf b7=> ?_
         refine AO (by rw [Ae]; exact (hf _ _ (dj _ _ (au 1 _ rfl)))) ?_
         refine AO (St.cell (b:=r5) (j:=2) b7.at5 rfl) ?_
         refine AO (St.cell (b:=r5) (j:=2) b7.at5 rfl) ?_
         obtain ⟨pc,hg,hh⟩:=b6.heap b7.sub
         have hi:=St.lit (r:=Ro.str) (l:=([] :List ByteArray)) (n:=0) b7.at1 .nil rfl (by decide)
         obtain ⟨pd,hj,d⟩:=bS d
         refine Aj (r:=Ro.str) (ms:=bt.2) CO hi rfl hh hg bu.symm hj ?_
         intro t38 pe bz
         refine AO (St.cell (b:=r5) (j:=2) bz.at5 rfl) ?_
         obtain ⟨pf,hk,d⟩:=bS d
         refine Aj (r:=Ro.str) (ms:=([(ByteArray.extract {data:= #[97,98,99,100,101] } (Int.toNat z17.1) (Int.toNat (wN z17.1)))] :List ByteArray)) CO bz.at1.tail rfl (St.cells bz.at1) (.cons (a:= [_]) rfl .nil) rfl hk ?_
         intro t39 pg c0
         refine AO (St.cell (b:=r5) (j:=2) c0.at4 rfl) ?_
         obtain ⟨ph,c1,d⟩:=bS d
         rw [← a0] at c1
         obtain ⟨pi,pj,dp,hl,hm,pk⟩:=(c0.at2).get c1
         refine AF _ dp (Aa hl ?_)
         obtain ⟨_,_,rfl,hn,ho⟩:=hm
         obtain rfl:=hn
         obtain ⟨pl,rfl,pm⟩:=ho
         obtain ⟨hp,dq,hq,hr⟩:=St.freezeRow (t:=t39) c0
         obtain ⟨hs,dr,d⟩:=bS d
         rw [← a0] at dr
         refine OF (j:=1) hr.at1 c1 dr (by rintro _ ⟨_,_,rfl,rfl,⟨t1,rfl,q1⟩⟩; exact ⟨[_],_,rfl,rfl,⟨t39,rfl,hq⟩⟩) rfl rfl dp (by rw [Ae]; rfl) fun pn ht=> ?_
         have hu:=(((D6 (x1:=e.2.1) (x3:=(((e.2.2.2.1)))) ht.at2.at1.at2.at3.at3.at3.at3 (b5.mono dq)).at2).at2).at2
         obtain rfl:=iS d
         exact AS (()) rfl ⟨hp,(ar,e.2.1,hs,(((e.2.2.2.1))),e.2.2.2.2),dq,rfl,hu⟩
       ·refine KP ah fun r41 po ds c2=> ?_
        refine AO (by rw [Ae]; exact (ds _ _ (au 1 _ rfl))) ?_
        refine AO (St.cell (b:=r5) (j:=2) c2.at4 rfl) ?_
        refine AO (St.cell (b:=r5) (j:=2) c2.at4 rfl) ?_
        refine KP c2 fun r42 pp hv b8=> ?_
        refine AO (by rw [Ae]; exact (hv _ _ (ds _ _ (au 1 _ rfl)))) ?_
        refine AO (St.cell (b:=r5) (j:=2) b8.at5 rfl) ?_
        refine AO (St.cell (b:=r5) (j:=2) b8.at5 rfl) ?_
        obtain ⟨pq,hw,hx⟩:=b6.heap b8.sub
        have hy:=St.lit (r:=Ro.str) (l:=([] :List ByteArray)) (n:=0) b8 .nil rfl (by decide)
        obtain ⟨pr,hz,d⟩:=bS d
        refine Aj (r:=Ro.str) (ms:=bt.2) CO hy rfl hx hw bu.symm hz ?_
        intro t43 ps c3
        refine AO (St.cell (b:=r5) (j:=2) c3.at5 rfl) ?_
        obtain ⟨pt,i0,d⟩:=bS d
        refine Aj (r:=Ro.str) (ms:=([(ByteArray.extract {data:= #[97,98,99,100,101] } (Int.toNat z17.1) (Int.toNat (wN z17.1)))] :List ByteArray)) CO c3.at1.tail rfl (St.cells c3.at1) (.cons (a:= [_]) rfl .nil) rfl i0 ?_
        intro t44 pu c4
        refine AO (St.cell (b:=r5) (j:=2) c4.at4 rfl) ?_
        obtain ⟨pv,c5,d⟩:=bS d
        rw [← a0] at c5
        obtain ⟨pw,px,dt,i1,i2,py⟩:=(c4.at2).get c5
        refine AF _ dt (Aa i1 ?_)
        obtain ⟨_,_,rfl,i3,i4⟩:=i2
        obtain rfl:=i3
        obtain ⟨pz,rfl,q0⟩:=i4
        obtain ⟨i5,du,i6,i7⟩:=St.freezeRow (t:=t44) c4
        obtain ⟨i8,dv,d⟩:=bS d
        rw [← a0] at dv
        refine OF (j:=1) i7.at1 c5 dv (by rintro _ ⟨_,_,rfl,rfl,⟨t1,rfl,q1⟩⟩; exact ⟨[_],_,rfl,rfl,⟨t44,rfl,i6⟩⟩) rfl rfl dt (by rw [Ae]; rfl) fun q2 i9=> ?_
        have ia:=(((D6 (x1:=e.2.1) (x3:=(((e.2.2.2.1)))) i9.at2.at1.at2.at3.at3.at3.at3 (b5.mono du)).at2).at2).at2
        obtain rfl:=iS d
        exact AS (()) rfl ⟨i5,(ar,e.2.1,i8,(((e.2.2.2.1))),e.2.2.2.2),du,rfl,ia⟩
      obtain rfl:=iS d
      exact AS (()) rfl ⟨b2,(ar,e.2.1,e.2.2.1,((e.2.2.2.1)),e.2.2.2.2),(Sub.refl _),rfl,de.at2.at2.at2⟩
     rintro z27 q3 ⟨ib,ic,ie,rfl,ig⟩
     try dsimp only at q
     obtain rfl:=iS q
     exact AS (()) rfl ⟨ib,ic,ie,rfl,ig.at2.at2.at2⟩
    obtain rfl:=iS q
    exact AS (()) rfl ⟨b2,(ar,e.2.1,e.2.2.1,(e.2.2.2.1),e.2.2.2.2),(Sub.refl _),rfl,b3.at2.at2.at2⟩
   rintro z22 q4 ⟨ih,ii,ij,rfl,ik⟩
   try dsimp only at z
   obtain rfl:=iS z
   exact Ag ((wN z17.1),()) _ rfl rfl ⟨ih,ii,(d4.trans ij),d6,rfl,ik.at2.at2.at2⟩
  ·rintro _ z17 q5 ⟨il,im,io,rfl,rfl,ip⟩ iq
   refine AX (by exact decide_eq_false (Int.not_lt.2 iq)) ?_
   exact AJ (AK (z17.1,()) rfl ⟨il,im,io,rfl,ip.at2.at2.at2⟩)
 rintro z16 q6 ⟨c6,ir,a7,rfl,it⟩
 try dsimp only at hd
 obtain ⟨iu,iv,hd⟩:=bS hd
 refine AT (fun (y:Int×Unit) w_ g=> ∃ψ:AC,∃dw:CW,Sub c6 ψ∧dw=g∧St ψ (cO 107 DT (some ⟨r5,0,none⟩) dw::Wq4 r2::Wq0 r1 s_0::F) w_) (g:=iu) ?_ ?_
 ·refine BJ iv (fun iw (y:Int×Unit) w_ g=> ∃ψ:AC,∃dx:CW,Sub c6 ψ∧y.1=iw∧dx=g∧St ψ (cO 107 DT (some ⟨r5,0,none⟩) dx::Wq4 r2::Wq0 r1 s_0::F) w_) ((0:Int),()) rfl ⟨c6,ir,(Sub.refl _),rfl,rfl,it.at2.at2.at2⟩ ?_ ?_
  ·rintro _ z47 q7 _ _ ⟨ai,c,a8,rfl,rfl,aj⟩ i ix dy dz
   try dsimp only at i ix dy dz
   refine AA (x:=s_0.2.2.1) aj.at2 rfl ?_
   refine Ai (dT cn dy) ?_
   refine AA (x:=s_0.2.2.1) aj.at2 rfl ?_
   obtain ⟨ak,iy,i⟩:=bS i
   obtain ⟨q8,q9,iz,j0,j1,e0⟩:=(bo.mono ((a3.trans a7).trans a8)).get iy
   refine AF _ iz (Aa j0 ?_)
   obtain rfl:=j1
   refine AG (x:=ak) (AE aj.sub (e0 0 _ rfl)) rfl ?_
   refine Cd i id fun qa i=> ?_
   refine AA (x:=s_0.2.2.1) aj.at2 rfl ?_
   obtain ⟨al,j2,i⟩:=bS i
   obtain ⟨qb,qc,j3,j4,j5,e1⟩:=(bo.mono ((a3.trans a7).trans a8)).get j2
   refine AF _ j3 (Aa j4 ?_)
   obtain rfl:=j5
   refine AG (x:=al) (AE aj.sub (e1 0 _ rfl)) rfl ?_
   refine Cd i id fun qd i=> ?_
   refine Cd i id fun qe i=> ?_
   refine KP aj fun r55 qf qg aw=> ?_
   refine AO (AE aw.sub (e1 0 _ rfl)) ?_
   refine AO (St.cell (b:=r1) (j:=2) aw.at3 rfl) ?_
   refine AO (AE aw.sub (e0 0 _ rfl)) ?_
   refine AO (St.cell (b:=r1) (j:=2) aw.at3 rfl) ?_
   refine AQ aw rfl rfl fun qh j6=> ?_
   refine AQ j6 rfl rfl fun qi j7=> ?_
   refine AQ j7 rfl rfl fun qj j8=> ?_
   refine AQ j8 rfl rfl fun qk e2=> ?_
   refine AA (x:=s_0.2.2.2.1) e2.at3 rfl ?_
   have j9:=St.unro (r:=Ro.str) (cs:= [.string ({data:= #[] })]) (x:= {data:= #[] }) (St.unro (r:=Ro.str) (cs:= [.string ({data:= #[] })]) (x:= {data:= #[] }) (e2.nil 9 Ro.str) rfl) rfl
   have ja:=St.unro (r:=Ro.str) (cs:= [.string (ByteArray.extract {data:= #[83,84,85,86] } (Int.toNat (Int.tmod (IntKind.wrap .i64 ak) (IntKind.wrap .i64 ((IntKind.wrap .i64 (Int.tmod s_0.2.1 (4:Int))) +(1:Int))))) (Int.toNat (IntKind.wrap .i64 ((Int.tmod (IntKind.wrap .i64 al) (IntKind.wrap .i64 ((IntKind.wrap .i64 (Int.tmod s_0.2.1 (4:Int))) +(1:Int)))) +(1:Int)))))]) (x:=(ByteArray.extract {data:= #[83,84,85,86] } (Int.toNat (Int.tmod (IntKind.wrap .i64 ak) (IntKind.wrap .i64 ((IntKind.wrap .i64 (Int.tmod s_0.2.1 (4:Int))) +(1:Int))))) (Int.toNat (IntKind.wrap .i64 ((Int.tmod (IntKind.wrap .i64 al) (IntKind.wrap .i64 ((IntKind.wrap .i64 (Int.tmod s_0.2.1 (4:Int))) +(1:Int)))) +(1:Int)))))) (St.unpair ((St.unpair j9).at1)) rfl
   have e3:St ai (cO 172 Rq0 (some ⟨r55,0,none⟩) ((ByteArray.extract {data:= #[83,84,85,86] } (Int.toNat (Int.tmod (IntKind.wrap .i64 ak) (IntKind.wrap .i64 ((IntKind.wrap .i64 (Int.tmod s_0.2.1 (4:Int))) +(1:Int))))) (Int.toNat (IntKind.wrap .i64 ((Int.tmod (IntKind.wrap .i64 al) (IntKind.wrap .i64 ((IntKind.wrap .i64 (Int.tmod s_0.2.1 (4:Int))) +(1:Int)))) +(1:Int))))),([] :List ByteArray),{data:= #[] },{data:= #[] })::cO 107 DT (some ⟨r5,0,none⟩) c::Wq4 r2::Wq0 r1 s_0::F) _:=St.shut (St.unpair ja).at1
   obtain ⟨jb,a4,i⟩:=bS i
   refine Ao (fun (y:Unit) w_ g=> ∃ψ:AC,∃e4:C3,Sub ai ψ∧e4=g∧St ψ (cO 172 Rq0 (some ⟨r55,0,none⟩) e4::cO 107 DT (some ⟨r5,0,none⟩) c::Wq4 r2::Wq0 r1 s_0::F) w_) (g:=jb) ?_ ?_
   ·refine AL a4 (by rw [fd] <;>rfl) (fun _ a4=> ?_) (fun _ a4=> ?_)
    ·have jc:=e3.at3
     obtain ⟨jd,je,a4⟩:=bS a4
     refine AT (fun (y:Int×Unit) w_ g=> ∃ψ:AC,∃e5:C3,Sub ai ψ∧e5=g∧St ψ (cO 172 Rq0 (some ⟨r55,0,none⟩) e5::cO 107 DT (some ⟨r5,0,none⟩) c::Wq4 r2::Wq0 r1 s_0::F) w_) (g:=jd) ?_ ?_
     ·refine Dr je (fun (y:Int×Unit) w_ g=> ∃ψ:AC,∃e6:C3,Sub ai ψ∧(y.1,e6)=g∧St ψ (cO 172 Rq0 (some ⟨r55,0,none⟩) e6::cO 107 DT (some ⟨r5,0,none⟩) c::Wq4 r2::Wq0 r1 s_0::F) w_) ((0:Int),()) rfl ⟨ai,((ByteArray.extract {data:= #[83,84,85,86] } (Int.toNat (Int.tmod (IntKind.wrap .i64 ak) (IntKind.wrap .i64 ((IntKind.wrap .i64 (Int.tmod s_0.2.1 (4:Int))) +(1:Int))))) (Int.toNat (IntKind.wrap .i64 ((Int.tmod (IntKind.wrap .i64 al) (IntKind.wrap .i64 ((IntKind.wrap .i64 (Int.tmod s_0.2.1 (4:Int))) +(1:Int)))) +(1:Int))))),([] :List ByteArray),{data:= #[] },{data:= #[] }),(Sub.refl _),rfl,jc.at3.at3.at3⟩ ?_
      ·rintro z59 ql _ _ ⟨b9,k,ax,rfl,a5⟩ f jf
       try dsimp only at f
       refine AA (x:=s_0.2.2.2.1) a5.at3 rfl ?_
       obtain ⟨qm,jg,f⟩:=bS f
       refine OG bp jg (Sub.trans (((a3.trans a7).trans a8).trans ax) a5.sub) fun qn jh=> ?_
       have ji:=jh.length
       refine AL f (by rw [ji] <;>rfl) (fun _ f=> ?_) (fun _ f=> ?_)
       ·refine AA (x:=s_0.2.2.2.1) a5.at3 rfl ?_
        obtain ⟨qo,jj,f⟩:=bS f
        refine OG bp jj (Sub.trans (((a3.trans a7).trans a8).trans ax) a5.sub) fun qp jk=> ?_
        obtain ⟨ba,jl,f⟩:=bS f
        refine CV jk jl (Sub.trans (((a3.trans a7).trans a8).trans ax) a5.sub) ?_
        refine Cd f id fun qq f=> ?_
        refine Cd f id fun qr f=> ?_
        refine Cd f id fun qs f=> ?_
        refine Cd f id fun qt f=> ?_
        obtain ⟨jm,a9,f⟩:=bS f
        refine Ao (fun (y:ByteArray×Unit) w_ g=> ∃ψ:AC,Sub b9 ψ∧y.1=g∧St ψ (cO 172 Rq0 (some ⟨r55,0,none⟩) k::cO 107 DT (some ⟨r5,0,none⟩) c::Wq4 r2::Wq0 r1 s_0::F) w_) (g:=jm) ?_ ?_
        ·refine AL a9 rfl (fun _ a9=> ?_) (fun _ a9=> ?_)
         ·refine Cd a9 id fun qu a9=> ?_
          obtain rfl:=iS a9
          exact AS ((ByteArray.extract {data:= #[83,84,85,86] } (Int.toNat (IntKind.wrap .i64 ((Int.tmod (IntKind.wrap .i64 ba) (IntKind.wrap .i64 ((IntKind.wrap .i64 ((IntKind.wrap .i64 (Int.tmod s_0.1 (5:Int))) +(1:Int))) +(IntKind.wrap .i64 ((IntKind.wrap .i64 (Int.tmod s_0.2.1 (4:Int))) +(1:Int)))))) - (IntKind.wrap .i64 ((IntKind.wrap .i64 (Int.tmod s_0.1 (5:Int))) +(1:Int)))))) (Int.toNat (IntKind.wrap .i64 ((IntKind.wrap .i64 ((Int.tmod (IntKind.wrap .i64 ba) (IntKind.wrap .i64 ((IntKind.wrap .i64 ((IntKind.wrap .i64 (Int.tmod s_0.1 (5:Int))) +(1:Int))) +(IntKind.wrap .i64 ((IntKind.wrap .i64 (Int.tmod s_0.2.1 (4:Int))) +(1:Int)))))) - (IntKind.wrap .i64 ((IntKind.wrap .i64 (Int.tmod s_0.1 (5:Int))) +(1:Int))))) +(1:Int))))),()) rfl ⟨b9,(Sub.refl _),rfl,a5.at3.at3.at3.at3⟩
         obtain rfl:=iS a9
         exact AS ((ByteArray.extract {data:= #[97,98,99,100,101] } (Int.toNat (Int.tmod (Int.tmod (IntKind.wrap .i64 ba) (IntKind.wrap .i64 ((IntKind.wrap .i64 ((IntKind.wrap .i64 (Int.tmod s_0.1 (5:Int))) +(1:Int))) +(IntKind.wrap .i64 ((IntKind.wrap .i64 (Int.tmod s_0.2.1 (4:Int))) +(1:Int)))))) (5:Int))) (Int.toNat (IntKind.wrap .i64 ((Int.tmod (Int.tmod (IntKind.wrap .i64 ba) (IntKind.wrap .i64 ((IntKind.wrap .i64 ((IntKind.wrap .i64 (Int.tmod s_0.1 (5:Int))) +(1:Int))) +(IntKind.wrap .i64 ((IntKind.wrap .i64 (Int.tmod s_0.2.1 (4:Int))) +(1:Int)))))) (5:Int)) +(1:Int))))),()) rfl ⟨b9,(Sub.refl _),rfl,a5.at3.at3.at3.at3⟩
        rintro z68 qv ⟨c7,jn,rfl,jo⟩
        try dsimp only at f
        obtain ⟨jp,qw,e7,qx,jq⟩:=jo.open
        obtain rfl:r55=jp:=by simpa using e7
        clear e7
        obtain ⟨qy,qz,rfl,r0,jr⟩:=jq.at1.pair
        obtain ⟨js,jt⟩:=jr.ro
        subst js
        obtain ⟨r3,r4,rfl,r6,e8⟩:=jt.pair
        obtain ⟨c8,ju⟩:=e8.rowCs
        subst ju
        obtain ⟨r7,r8,rfl,r9,jv⟩:=e8.at1.pair
        obtain ⟨jw,jx⟩:=jv.ro
        subst jw
        obtain ⟨jy,jz⟩:=jx.ro
        subst jy
        have e9:St c7 (cR 9 Ro.str c8 k.2.1::cW 172 r55 [.string (k.1),sv c8, .string (k.2.2.1), .string (k.2.2.2)] ::cO 107 DT (some ⟨r5,0,none⟩) c::Wq4 r2::Wq0 r1 s_0::F) _:=jz
        refine AA (x:=c8) e9.at1 rfl ?_
        refine AY (vs:= [.string z68.1]) e9 fun r70 ra ea=> ?_
        obtain ⟨eb,k0,f⟩:=bS f
        refine Aj (r:=Ro.str) (ms:=([z68.1] :List ByteArray)) CO ea.tail rfl (St.cells ea) (.cons (a:= [_]) rfl .nil) rfl k0 ?_
        intro t71 rb k1
        refine AQ k1.at1 rfl rfl fun rc k2=> ?_
        have k3:=St.unro (r:=Ro.str) (cs:= [.string (k.2.2.1)]) (x:=(k.2.2.1)) (St.unro (r:=Ro.str) (cs:= [.string (k.2.2.2)]) (x:=(k.2.2.2)) k2.at1 rfl) rfl
        have k4:St c7 (cO 172 Rq0 (some ⟨r55,0,none⟩) ((k.1),eb,(k.2.2.1),(k.2.2.2))::cO 107 DT (some ⟨r5,0,none⟩) c::Wq4 r2::Wq0 r1 s_0::F) _:=St.shut (St.unpair (St.unro (r:=Ro.str) (cs:= [.string (k.1)]) (x:=(k.1)) (St.unpair ((St.unpair k3).at1)) rfl)).at1
        obtain rfl:=iS f
        exact Ag ((wN z59.1),()) _ rfl rfl ⟨c7,((k.1),eb,(k.2.2.1),(k.2.2.2)),(ax.trans jn),rfl,k4.at3.at3.at3.at3⟩
       obtain rfl:=iS f
       obtain rfl:=jf _ rfl
       exact AJ (AK (z59.1,()) rfl ⟨b9,k,ax,rfl,a5.at3.at3.at3.at3⟩)
     rintro z58 rd ⟨k5,k6,k7,rfl,k8⟩
     try dsimp only at a4
     obtain rfl:=iS a4
     exact AS (()) rfl ⟨k5,k6,k7,rfl,k8.at3.at3.at3.at3⟩
    obtain rfl:=iS a4
    exact AS (()) rfl ⟨ai,((ByteArray.extract {data:= #[83,84,85,86] } (Int.toNat (Int.tmod (IntKind.wrap .i64 ak) (IntKind.wrap .i64 ((IntKind.wrap .i64 (Int.tmod s_0.2.1 (4:Int))) +(1:Int))))) (Int.toNat (IntKind.wrap .i64 ((Int.tmod (IntKind.wrap .i64 al) (IntKind.wrap .i64 ((IntKind.wrap .i64 (Int.tmod s_0.2.1 (4:Int))) +(1:Int)))) +(1:Int))))),([] :List ByteArray),{data:= #[] },{data:= #[] }),(Sub.refl _),rfl,e3.at3.at3.at3.at3⟩
   rintro z57 re ⟨aa,o,ec,rfl,ay⟩
   try dsimp only at i
   refine AA (x:=s_0.2.2.2.2.1) ay.at3 rfl ?_
   obtain ⟨k9,s,i⟩:=bS i
   refine Ao (fun (y:Unit) w_ g=> ∃ψ:AC,∃ed:C3,Sub aa ψ∧ed=g∧St ψ (cO 172 Rq0 (some ⟨r55,0,none⟩) ed::cO 107 DT (some ⟨r5,0,none⟩) c::Wq4 r2::Wq0 r1 s_0::F) w_) (g:=k9) ?_ ?_
   ·refine AL s (by rw [fe] <;>rfl) (fun _ s=> ?_) (fun _ s=> ?_)
    ·refine AA (x:=s_0.2.2.2.2.1) ay.at3 rfl ?_
     obtain ⟨a6,ka,s⟩:=bS s
     refine CV cg ka (Sub.trans (((a3.trans a7).trans a8).trans ec) ay.sub) ?_
     obtain ⟨kb,am,c9,a1,an,ee,kc,bb⟩:=Ft ay.at1
     obtain rfl:r5=kb:=by simpa using ee
     clear ee
     have bc:=(bb.at1).rowLen
     refine AA (x:=a1) bb.at3 rfl ?_
     refine Cd s (by rw [bc]; exact id) fun rf s=> ?_
     obtain ⟨kd,ab,s⟩:=bS s
     refine Ao (fun (y:Unit) w_ g=> ∃ψ:AC,∃ef:C3,Sub aa ψ∧ef=g∧St ψ (cO 172 Rq0 (some ⟨r55,0,none⟩) ef::cR 172 F7 an c.2.2.2.2::cR 179 GZ a1 c.2.2.1::cR 176 GY am c.1::cW 107 r5 [sv am,sv c9,sv a1, .string (c.2.2.2.1),sv an] ::Wq4 r2::Wq0 r1 s_0::F) w_) (g:=kd) ?_ ?_
     ·refine AL ab (by rw [bc] <;>rfl) (fun _ ab=> ?_) (fun _ ab=> ?_)
      ·refine Cd ab (by rw [bc]; exact id) fun rg ab=> ?_
       obtain ⟨ke,rh,eg,ri,kf⟩:=bb.at4.open
       obtain rfl:r55=ke:=by simpa using eg
       clear eg
       obtain ⟨rj,rk,rfl,rl,kg⟩:=kf.at1.pair
       obtain ⟨kh,ki⟩:=kg.ro
       subst kh
       obtain ⟨rm,rn,rfl,rp,eh⟩:=ki.pair
       obtain ⟨ei,kj⟩:=eh.rowCs
       subst kj
       obtain ⟨rq,rr,rfl,rs,kk⟩:=eh.at1.pair
       obtain ⟨kl,km⟩:=kk.ro
       subst kl
       obtain ⟨kn,ko⟩:=km.ro
       subst kn
       have kp:St aa (cR 9 Ro.str ei o.2.1::cW 172 r55 [.string (o.1),sv ei, .string (o.2.2.1), .string (o.2.2.2)] ::cR 172 F7 an c.2.2.2.2::cR 179 GZ a1 c.2.2.1::cR 176 GY am c.1::cW 107 r5 [sv am,sv c9,sv a1, .string (c.2.2.2.1),sv an] ::Wq4 r2::Wq0 r1 s_0::F) _:=ko
       refine AQ kp.at1 rfl rfl fun rt kq=> ?_
       have kr:=St.unro (r:=Ro.str) (cs:= [.string (ByteArray.extract {data:= #[112,113,114,115,116] } (Int.toNat (IntKind.wrap .i64 ((Int.tmod (IntKind.wrap .i64 a6) (IntKind.wrap .i64 (((a1.2.1:Nat):Int) +(1:Int)))) - (1:Int)))) (Int.toNat (Int.tmod (IntKind.wrap .i64 a6) (IntKind.wrap .i64 (((a1.2.1:Nat):Int) +(1:Int))))))]) (x:=(ByteArray.extract {data:= #[112,113,114,115,116] } (Int.toNat (IntKind.wrap .i64 ((Int.tmod (IntKind.wrap .i64 a6) (IntKind.wrap .i64 ((((List.length c.2.2.1):Nat):Int) +(1:Int)))) - (1:Int)))) (Int.toNat (Int.tmod (IntKind.wrap .i64 a6) (IntKind.wrap .i64 ((((List.length c.2.2.1):Nat):Int) +(1:Int))))))) (St.unro (r:=Ro.str) (cs:= [.string (o.2.2.2)]) (x:=(o.2.2.2)) kq.at1 rfl) (show _=_ by rw [bc]; rfl)
       have ks:St aa (cO 172 Rq0 (some ⟨r55,0,none⟩) ((o.1),o.2.1,(ByteArray.extract {data:= #[112,113,114,115,116] } (Int.toNat (IntKind.wrap .i64 ((Int.tmod (IntKind.wrap .i64 a6) (IntKind.wrap .i64 ((((List.length c.2.2.1):Nat):Int) +(1:Int)))) - (1:Int)))) (Int.toNat (Int.tmod (IntKind.wrap .i64 a6) (IntKind.wrap .i64 ((((List.length c.2.2.1):Nat):Int) +(1:Int)))))),(o.2.2.2))::cR 172 F7 an c.2.2.2.2::cR 179 GZ a1 c.2.2.1::cR 176 GY am c.1::cW 107 r5 [sv am,sv c9,sv a1, .string (c.2.2.2.1),sv an] ::Wq4 r2::Wq0 r1 s_0::F) _:=St.shut (St.unpair (St.unro (r:=Ro.str) (cs:= [.string (o.1)]) (x:=(o.1)) (St.unpair ((St.unpair kr).at1)) rfl)).at1
       obtain rfl:=iS ab
       exact AS (()) rfl ⟨aa,((o.1),o.2.1,(ByteArray.extract {data:= #[112,113,114,115,116] } (Int.toNat (IntKind.wrap .i64 ((Int.tmod (IntKind.wrap .i64 a6) (IntKind.wrap .i64 ((((List.length c.2.2.1):Nat):Int) +(1:Int)))) - (1:Int)))) (Int.toNat (Int.tmod (IntKind.wrap .i64 a6) (IntKind.wrap .i64 ((((List.length c.2.2.1):Nat):Int) +(1:Int)))))),(o.2.2.2)),(Sub.refl _),rfl,ks.at6.at6.at6.at6.at6.at6.at6⟩
      obtain rfl:=iS ab
      exact AS (()) rfl ⟨aa,o,(Sub.refl _),rfl,bb.at6.at6.at5.at5.at5.at5.at6⟩
     rintro z78 ru ⟨kt,ku,ej,rfl,kv⟩
     try dsimp only at s
     have kw:=(((D6 (x1:=c.2.1) (x3:=(c.2.2.2.1)) kv.at3.at3.at3.at4.at3.at3.at3 (kc.mono ej)).at3).at3).at2
     obtain rfl:=iS s
     exact AS (()) rfl ⟨kt,ku,ej,rfl,kw.at3⟩
    obtain rfl:=iS s
    exact AS (()) rfl ⟨aa,o,(Sub.refl _),rfl,ay.at3.at3.at3.at3⟩
   rintro z73 rv ⟨kx,p,ky,rfl,kz⟩
   try dsimp only at i
   obtain ⟨l0,ek,l1,el,ca,em,l2,en⟩:=Ft kz.at1
   obtain rfl:r5=l0:=by simpa using em
   clear em
   refine AA (x:=ca) en.at3 rfl ?_
   obtain ⟨l3,rx,eo,ry,l4⟩:=en.at4.open
   obtain rfl:r55=l3:=by simpa using eo
   clear eo
   obtain ⟨rz,s1,rfl,s2,l5⟩:=l4.at1.pair
   obtain ⟨l6,l7⟩:=l5.ro
   subst l6
   obtain ⟨s3,s4,rfl,s5,ep⟩:=l7.pair
   obtain ⟨ao,l8⟩:=ep.rowCs
   subst l8
   obtain ⟨s6,s7,rfl,s8,l9⟩:=ep.at1.pair
   obtain ⟨la,lb⟩:=l9.ro
   subst la
   obtain ⟨lc,ld⟩:=lb.ro
   subst lc
   have az:St kx (cR 9 Ro.str ao p.2.1::cW 172 r55 [.string (p.1),sv ao, .string (p.2.2.1), .string (p.2.2.2)] ::cR 172 F7 ca c.2.2.2.2::cR 179 GZ el c.2.2.1::cR 176 GY ek c.1::cW 107 r5 [sv ek,sv l1,sv el, .string (c.2.2.2.1),sv ca] ::Wq4 r2::Wq0 r1 s_0::F) _:=ld
   refine AA (x:=(p.1)) az.at1 rfl ?_
   refine AA (x:=ao) az.at1 rfl ?_
   refine AA (x:=(p.2.2.1)) az.at1 rfl ?_
   refine AA (x:=(p.2.2.2)) az.at1 rfl ?_
   refine AY (vs:= [.string (p.1),sv ao, .string (p.2.2.1), .string (p.2.2.2)]) az fun r84 s9 le=> ?_
   obtain ⟨lf,er,lg,es⟩:=St.freezeRow (t:=ao) le.at1
   obtain ⟨lh,li,i⟩:=bS i
   refine Aj (r:=F7) (ms:=([((p.1),p.2.1,(p.2.2.1),(p.2.2.2))] :List C3)) Ks es.tail.at1 rfl (St.cells es) (.cons (a:= [_,_,_,_]) ⟨[_],_,rfl,rfl,⟨[_],_,rfl,⟨ao,rfl,lg⟩,⟨[_],_,rfl,rfl,rfl⟩⟩⟩ .nil) rfl li ?_
   intro t85 sa lj
   refine AQ lj.at4 rfl rfl fun sb lk=> ?_
   have ll:=((D6 (x1:=c.2.1) (x3:=(c.2.2.2.1)) lk.at4.at4.at3.at3.at3.at3.at3 (l2.mono er)).at1.tail).at2
   obtain rfl:=iS i
   exact Ag ((wN z47.1),()) _ rfl rfl ⟨lf,(c.1,c.2.1,c.2.2.1,(c.2.2.2.1),lh),(((a8.trans ec).trans ky).trans er),dz,rfl,ll.at2.at2⟩
  ·rintro _ z47 sc ⟨lm,ln,lo,rfl,rfl,eu⟩ lp
   refine AA (x:=s_0.2.2.1) eu.at2 rfl ?_
   refine AX (dF cn lp) ?_
   exact AJ (AK (z47.1,()) rfl ⟨lm,ln,lo,rfl,eu.at2.at2.at2⟩)
 rintro z46 sd ⟨cb,lq,lr,rfl,ls⟩
 try dsimp only at hd
 obtain ⟨lt,lu,hd⟩:=bS hd
 refine AT (fun (y:Int×Unit) w_ g=> ∃ψ:AC,∃ev:CW,Sub cb ψ∧ev=g∧St ψ (cO 107 DT (some ⟨r5,0,none⟩) ev::Wq4 r2::Wq0 r1 s_0::F) w_) (g:=lt) ?_ ?_
 ·refine BJ lu (fun lv (y:Int×Unit) w_ g=> ∃ψ:AC,∃ew:CW,Sub cb ψ∧y.1=lv∧ew=g∧St ψ (cO 107 DT (some ⟨r5,0,none⟩) ew::Wq4 r2::Wq0 r1 s_0::F) w_) ((0:Int),()) rfl ⟨cb,lq,(Sub.refl _),rfl,rfl,ls.at2.at2.at2⟩ ?_ ?_
  ·rintro _ z87 se _ _ ⟨cc,m,lw,rfl,rfl,lx⟩ w ly ex ey
   try dsimp only at w ly ex ey
   refine Ai (by exact decide_eq_true ex) ?_
   refine Cd w id fun sf w=> ?_
   obtain ⟨lz,m0,w⟩:=bS w
   refine AT (fun (y:Int×Bool×Unit) w_ g=> ∃ψ:AC,Sub cc ψ∧y.2.1=g∧St ψ (cO 107 DT (some ⟨r5,0,none⟩) m::Wq4 r2::Wq0 r1 s_0::F) w_) (g:=lz) ?_ ?_
   ·refine Dr m0 (fun (y:Int×Bool×Unit) w_ g=> ∃ψ:AC,Sub cc ψ∧(y.1,y.2.1)=g∧St ψ (cO 107 DT (some ⟨r5,0,none⟩) m::Wq4 r2::Wq0 r1 s_0::F) w_) ((0:Int),false,()) rfl ⟨cc,(Sub.refl _),rfl,lx.at2.at2.at2⟩ ?_
    ·rintro z89 sg _ _ ⟨bd,ez,rfl,m1⟩ a2 m2
     try dsimp only at a2
     obtain ⟨m3,f0,m4,f1,be,f2,f3,ac⟩:=Ft m1
     obtain rfl:r5=m3:=by simpa using f2
     clear f2
     have m5:=(ac).rowLen
     refine AA (x:=be) ac.at3 rfl ?_
     refine AL a2 (by rw [m5] <;>rfl) (fun _ a2=> ?_) (fun _ a2=> ?_)
     ·obtain ⟨m6,ad,a2⟩:=bS a2
      refine Ao (fun (y:Bool×Unit) w_ g=> ∃ψ:AC,Sub bd ψ∧y.1=g∧St ψ (cR 172 F7 be m.2.2.2.2::cR 179 GZ f1 m.2.2.1::cR 176 GY f0 m.1::cW 107 r5 [sv f0,sv m4,sv f1, .string (m.2.2.2.1),sv be] ::Wq4 r2::Wq0 r1 s_0::F) w_) (g:=m6) ?_ ?_
      ·refine AL ad rfl (fun _ ad=> ?_) (fun _ ad=> ?_)
       ·have m7:=ac.at5
        obtain rfl:=iS ad
        exact AS (true,()) rfl ⟨bd,(Sub.refl _),rfl,m7.at5.at5.at5.at5.at5⟩
       refine AA (x:=be) ac.at3 rfl ?_
       obtain ⟨f4,m8,ad⟩:=bS ad
       obtain ⟨sh,si,m9,ma,mb,mc⟩:=(ac).get m8
       refine AF _ m9 (Aa ma ?_)
       obtain ⟨_,_,rfl,md,me⟩:=mb
       obtain rfl:=md
       obtain ⟨_,_,rfl,mf,mg⟩:=me
       obtain ⟨sj,rfl,sk⟩:=mf
       obtain ⟨_,_,rfl,mh,mi⟩:=mg
       obtain rfl:=mh
       obtain rfl:=mi
       refine AG (x:=f4.1) (mc 0 _ rfl) rfl ?_
       obtain rfl:=iS ad
       exact AS ((ByteArray.toList f4.1==ByteArray.toList (ByteArray.extract {data:= #[83,84,85,86] } (Int.toNat z87.1) (Int.toNat (wN z87.1)))),()) rfl ⟨bd,(Sub.refl _),rfl,ac.at5.at5.at5.at5.at5.at5⟩
      rintro z91 sl ⟨mj,f5,rfl,mk⟩
      try dsimp only at a2
      have ml:=(((D6 (x1:=m.2.1) (x3:=(m.2.2.2.1)) mk.at2.at2.at2.at3.at3.at3.at3 (f3.mono f5)).at2).at2).at2
      obtain rfl:=iS a2
      exact Ag ((wN z89.1),z91.1,()) _ rfl rfl ⟨mj,(ez.trans f5),rfl,ml⟩
     obtain rfl:=iS a2
     obtain rfl:=m2 _ rfl
     exact AJ (AK (z89.1,z89.2.1,()) rfl ⟨bd,ez,rfl,((((D6 (x1:=m.2.1) (x3:=(m.2.2.2.1)) ac.at2.at2.at2.at3.at3.at3.at3 f3).at2).at2).at2)⟩)
   rintro z88 sm ⟨cd,mm,rfl,f6⟩
   try dsimp only at w
   obtain ⟨mn,ae,w⟩:=bS w
   refine Ao (fun (y:Unit) w_ g=> ∃ψ:AC,∃f7:CW,Sub cd ψ∧f7=g∧St ψ (cO 107 DT (some ⟨r5,0,none⟩) f7::Wq4 r2::Wq0 r1 s_0::F) w_) (g:=mn) ?_ ?_
   ·refine AL ae rfl (fun _ ae=> ?_) (fun _ ae=> ?_)
    ·obtain ⟨mo,sn,so,sp,mp,f8,mq,f9⟩:=Ft f6
     obtain rfl:r5=mo:=by simpa using f8
     clear f8
     refine AA (x:=mp) f9.at3 rfl ?_
     refine AY (vs:= [.string (ByteArray.extract {data:= #[83,84,85,86] } (Int.toNat z87.1) (Int.toNat (wN z87.1))), .slice none 0 0, .string ({data:= #[] }), .string ({data:= #[] })]) f9 fun r97 sq fa=> ?_
     obtain ⟨mr,mu,ae⟩:=bS ae
     refine Aj (r:=F7) (ms:=([((ByteArray.extract {data:= #[83,84,85,86] } (Int.toNat z87.1) (Int.toNat (wN z87.1))),([] :List ByteArray),{data:= #[] },{data:= #[] })] :List C3)) Ks fa.tail rfl (St.cells fa) (.cons (a:= [_,_,_,_]) ⟨[_],_,rfl,rfl,⟨[_],_,rfl,⟨((none,0,0):Slc),rfl,Ro.SliceIs.nil _ _⟩,⟨[_],_,rfl,rfl,rfl⟩⟩⟩ .nil) rfl mu ?_
     intro t98 sr mv
     refine AQ mv.at3 rfl rfl fun ss mw=> ?_
     obtain rfl:=iS ae
     exact AS (()) rfl ⟨cd,(m.1,m.2.1,m.2.2.1,(m.2.2.2.1),mr),(Sub.refl _),rfl,((((D6 (x1:=m.2.1) (x3:=(m.2.2.2.1)) mw.at3.at3.at3.at3.at3.at3.at3 mq).at2).at2).at2)⟩
    obtain rfl:=iS ae
    exact AS (()) rfl ⟨cd,m,(Sub.refl _),rfl,f6.at2.at2.at2⟩
   rintro z95 st ⟨mx,my,mz,rfl,n0⟩
   try dsimp only at w
   obtain rfl:=iS w
   exact Ag ((wN z87.1),()) _ rfl rfl ⟨mx,my,((lw.trans mm).trans mz),ey,rfl,n0.at2.at2.at2⟩
  ·rintro _ z87 su ⟨n1,n2,n3,rfl,rfl,n4⟩ n5
   refine AX (by exact decide_eq_false (Int.not_lt.2 n5)) ?_
   exact AJ (AK (z87.1,()) rfl ⟨n1,n2,n3,rfl,n4.at2.at2.at2⟩)
 rintro z86 sw ⟨sx,af,n6,rfl,n7⟩
 try dsimp only at hd
 obtain ⟨n8,bf,ce,bg,bh,fb,n9,ap⟩:=Ft n7
 obtain rfl:r5=n8:=by simpa using fb
 clear fb
 refine AA (x:=bf) ap.at3 rfl ?_
 refine AA (x:=ce) ap.at3 rfl ?_
 refine AA (x:=bg) ap.at3 rfl ?_
 refine AA (x:=(af.2.2.2.1)) ap.at3 rfl ?_
 refine AA (x:=bh) ap.at3 rfl ?_
 refine AQ ap.at4 rfl rfl fun sy na=> ?_
 refine AQ na rfl rfl fun sz nb=> ?_
 refine AQ nb rfl rfl fun t3 nc=> ?_
 refine AQ nc rfl rfl fun t5 nd=> ?_
 refine AQ nd rfl rfl fun t6 aq=> ?_
 refine AA (x:=bf) aq rfl ?_
 refine AA (x:=ce) aq rfl ?_
 refine AA (x:=bg) aq rfl ?_
 refine AA (x:=(af.2.2.2.1)) aq rfl ?_
 refine AA (x:=bh) aq rfl ?_
 obtain ⟨t7,fc,nf,ng⟩:=St.freezeRow (t:=bf) aq.at3
 obtain ⟨t8,cf,nh,ni⟩:=St.freezeRow (t:=bg) ng.at2
 obtain ⟨nj,bi,nk,nl⟩:=St.freezeRow (t:=bh) ni.at1
 obtain rfl:=iS hd
 exact AB ⟨nj,(bf,ce,bg,(af.2.2.2.1),bh,()),af.1,af.2.1,af.2.2.1,af.2.2.2.2,((((((a3.trans a7).trans lr).trans n6).trans fc).trans cf).trans bi),rfl,rfl,(nf.mono (cf.trans bi)),(n9.mono ((fc.trans cf).trans bi)),(nh.mono bi),nk,nl.tail.tail.tail⟩
theorem QI:G5 Tryz.prog 29 29 65 3:=⟨Tryz.underlying29, .inl Tryz.underlying29,⟨Tryz.t65,by kernel_rfl,rfl,⟨_,rfl,rfl⟩,by decide,by decide⟩,by decide⟩
theorem ED:G5 Tryz.prog 30 30 3 1:=⟨Tryz.underlying30, .inl Tryz.underlying30,⟨Tryz.t3,by kernel_rfl,rfl,⟨_,rfl,rfl⟩,by decide,by decide⟩,by decide⟩
noncomputable def Co (g_0:CW):Option (List ByteArray×List ByteArray×List BC×List Int×List Int×List ByteArray×Int×ByteArray):=
 (CG (g_0.1,g_0.2.1,g_0.2.2.1,g_0.2.2.2.1,g_0.2.2.2.2)).bind fun t8=>
 cond (!t8)
 (some (([] :List ByteArray),([] :List ByteArray),([] :List BC),([] :List Int),([] :List Int),([] :List ByteArray),(1:Int),{data:= #[] }))
 ((forS (σ:=Ay) (0:Int) (((List.length g_0.2.2.2.2):Nat):Int) (([{data:= #[36,101,110,100] }] :List ByteArray),([] :List ByteArray),([] :List BC),([(0:Int)] :List Int),([(0:Int)] :List Int),([{data:= #[] }] :List ByteArray)) fun i_z21 z21=>
  (idx g_0.2.2.2.2 i_z21).bind fun e109=>
  (As z21.2.1 e109.1).bind fun t27=>
  (cond (decide (t27< (0:Int)))
  ((idx g_0.2.2.2.2 i_z21).bind fun e159=>
   (app (z21.1,z21.2.1,z21.2.2.1,z21.2.2.2.1,z21.2.2.2.2.1,z21.2.2.2.2.2).2.1 ([e159.1] :List ByteArray)).bind fun t34=>
   some ((z21.1,z21.2.1,z21.2.2.1,z21.2.2.2.1,z21.2.2.2.2.1,z21.2.2.2.2.2).1,t34,(z21.1,z21.2.1,z21.2.2.1,z21.2.2.2.1,z21.2.2.2.2.1,z21.2.2.2.2.2).2.2.1,(z21.1,z21.2.1,z21.2.2.1,z21.2.2.2.1,z21.2.2.2.2.1,z21.2.2.2.2.2).2.2.2.1,(z21.1,z21.2.1,z21.2.2.1,z21.2.2.2.1,z21.2.2.2.2.1,z21.2.2.2.2.2).2.2.2.2.1,(z21.1,z21.2.1,z21.2.2.1,z21.2.2.2.1,z21.2.2.2.2.1,z21.2.2.2.2.2).2.2.2.2.2))
  (some (z21.1,z21.2.1,z21.2.2.1,z21.2.2.2.1,z21.2.2.2.2.1,z21.2.2.2.2.2))).bind fun z28=>
  (idx g_0.2.2.2.2 i_z21).bind fun e224=>
  (app z28.2.2.2.2.2 ([e224.2.2.2] :List ByteArray)).bind fun t40=>
  some (z28.1,z28.2.1,z28.2.2.1,z28.2.2.2.1,z28.2.2.2.2.1,t40)).bind fun z20=>
  (Cf (σ:=(Ay×Ay)) (β:=(List ByteArray×List ByteArray×List BC×List Int×List Int×List ByteArray×Int×ByteArray)) (0:Int) (((List.length g_0.1):Nat):Int) ((([] :List ByteArray),([] :List ByteArray),([] :List BC),([] :List Int),([] :List Int),([] :List ByteArray)),z20) fun i_z42 z42=>
   (idx g_0.1 i_z42).bind fun e324=>
   (As z42.2.2.1 e324.1).bind fun t48=>
   cond (decide (t48≥ (0:Int)))
   ((idx g_0.1 i_z42).bind fun e346=>
    some (AU.done (([] :List ByteArray),([] :List ByteArray),([] :List BC),([] :List Int),([] :List Int),([] :List ByteArray),(15:Int),e346.1)))
   ((idx g_0.1 i_z42).bind fun e403=>
    (app z42.2.1 ([e403.1] :List ByteArray)).bind fun t63=>
    (idx g_0.1 i_z42).bind fun e431=>
    (Br (g_0.1,g_0.2.1,g_0.2.2.1,g_0.2.2.2.1,g_0.2.2.2.2) e431.1).bind fun t73=>
    (app z42.2.2.2.2.1 ([t73] :List Int)).bind fun t75=>
    some (AU.next (z42.1,(t63,z42.2.2.1,z42.2.2.2.1,t75,z42.2.2.2.2.2.1,z42.2.2.2.2.2.2))))).bind fun e_z41=>match e_z41 with
  | .next z41=>
   (forS (σ:=Ay) (0:Int) (((List.length g_0.2.2.1):Nat):Int) z41.2 fun i_z77 z77=>
    (idx g_0.2.2.1 i_z77).bind fun e527=>
    (app z77.2.2.2.2.1 ([e527.1] :List Int)).bind fun t84=>
    some (z77.1,z77.2.1,z77.2.2.1,z77.2.2.2.1,t84,z77.2.2.2.2.2)).bind fun z76=>
   (BP (z76.1,z76.2.1) g_0.2.2.2.1).bind fun t94=>
   (Cf (σ:=(Ay×Ay)) (β:=(List ByteArray×List ByteArray×List BC×List Int×List Int×List ByteArray×Int×ByteArray)) (0:Int) (((List.length g_0.2.2.2.2):Nat):Int) (z41.1,(z76.1,z76.2.1,([((IntKind.wrap .i64 ((((List.length z76.1):Nat):Int) +(((List.length z76.2.1):Nat):Int))),([t94] :List Int),(0:Int))] :List BC),z76.2.2.2.1,z76.2.2.2.2.1,z76.2.2.2.2.2)) fun i_z98 z98=>
    (idx g_0.2.2.2.2 i_z98).bind fun e644=>
    (BP (z98.2.1,z98.2.2.1) e644.1).bind fun t114=>
    (Cf (σ:=(Ay×BC)) (β:=(List ByteArray×List ByteArray×List BC×List Int×List Int×List ByteArray×Int×ByteArray)) (0:Int) (((List.length e644.2.1):Nat):Int) (z98.1,(t114,([] :List Int),(0:Int))) fun i_z117 z117=>
     (idx e644.2.1 i_z117).bind fun e735=>
     (BP (z98.2.1,z98.2.2.1) e735).bind fun t128=>
     cond (decide (t128< (0:Int)))
     ((idx e644.2.1 i_z117).bind fun e753=>
      some (AU.done (([] :List ByteArray),([] :List ByteArray),([] :List BC),([] :List Int),([] :List Int),([] :List ByteArray),(16:Int),e753)))
     ((app z117.2.2.1 ([t128] :List Int)).bind fun t140=>
      (cond (decide (t128< (((List.length z98.2.1):Nat):Int)))
      ((idx z98.2.2.2.2.1 t128).bind fun e849=>
       some ((((z117.2.1),t140,(z117.2.2.2)).1),((z117.2.1),t140,(z117.2.2.2)).2.1,e849))
      (some ((z117.2.1),t140,(z117.2.2.2)))).bind fun z142=>
      some (AU.next (z117.1,z142)))).bind fun e_z116=>match e_z116 with
    | .next z116=>
     ((cond (!(ByteArray.toList e644.2.2.1==ByteArray.toList {data:= #[] }))
     ((Br (g_0.1,g_0.2.1,g_0.2.2.1,g_0.2.2.2.1,g_0.2.2.2.2) e644.2.2.1).bind fun t154=>
      cond (t154==(0:Int))
      (some (AU.done (([] :List ByteArray),([] :List ByteArray),([] :List BC),([] :List Int),([] :List Int),([] :List ByteArray),(16:Int),e644.2.2.1)))
      (some (AU.next (((z116.2.1),z116.2.2.1,t154),z116.1))))
     (some (AU.next (z116.2,z116.1)))):Option (AU (BC×Ay) (List ByteArray×List ByteArray×List BC×List Int×List Int×List ByteArray×Int×ByteArray))).bind fun e_z147=>match e_z147 with
     | .next z147=>
      (app z98.2.2.2.1 ([((z147.1.1),z147.1.2.1,(z147.1.2.2))] :List BC)).bind fun t168=>
      some (AU.next (z147.2,(z98.2.1,z98.2.2.1,t168,z98.2.2.2.2.1,z98.2.2.2.2.2.1,z98.2.2.2.2.2.2)))
     | .done q1132=>some (AU.done q1132)
    | .done q1133=>some (AU.done q1133)).bind fun e_z97=>match e_z97 with
   | .next z97=>
    (As z97.2.2.1 g_0.2.2.2.1).bind fun t171=>
    cond (decide (t171< (0:Int)))
    (some (([] :List ByteArray),([] :List ByteArray),([] :List BC),([] :List Int),([] :List Int),([] :List ByteArray),(16:Int),g_0.2.2.2.1))
    (some (z97.2.1,z97.2.2.1,z97.2.2.2.1,z97.2.2.2.2.1,z97.2.2.2.2.2.1,z97.2.2.2.2.2.2,(0:Int),{data:= #[] }))
   | .done q1286=>some q1286
  | .done q1287=>some q1287)
set_option maxHeartbeats 4000000 in
theorem Jw {φ:AC} {h:AH} {F:List Chk} {g_0:Slc×Slc×Slc×ByteArray×Slc×Unit} {c8:List F6} {cx:List G7} {c9:List ET} {ca:List C3} (ar:Ro.SliceIs GY φ g_0.1 c8) (cb:Ro.SliceIs Kk φ g_0.2.1 cx) (bc:Ro.SliceIs GZ φ g_0.2.2.1 c9) (au:Ro.SliceIs F7 φ g_0.2.2.2.2.1 ca) (s0:St φ (F) h) {r:(List ByteArray×List ByteArray×List BC×List Int×List Int×List ByteArray×Int×ByteArray)} (hd:Co (c8,cx,c9,g_0.2.2.2.1,ca)=some r):
 CallsH Tryz.prog 55 [(.agg #[(sv g_0.1),(sv g_0.2.1),(sv g_0.2.2.1),(.string g_0.2.2.2.1),(sv g_0.2.2.2.2.1)])] h (Ar fun v h'=> ∃ψ:AC,∃y:(Pl6)×Int×ByteArray×Unit,∃cy:List ByteArray,∃cz:List ByteArray,∃d0:List BC,∃d1:List Int,∃d2:List Int,∃d3:List ByteArray,Sub φ ψ∧v=((.tuple [(.agg [.slice, .slice, .slice, .slice, .slice, .slice]),aI,(.atom .string)]):Sh).val y∧(cy,cz,d0,d1,d2,d3,y.2.1,y.2.2.1)=r∧Ro.SliceIs Ro.str ψ y.1.1 cy∧Ro.SliceIs Ro.str ψ y.1.2.1 cz∧Ro.SliceIs CF ψ y.1.2.2.1 d0∧Ro.SliceIs (Ro.int .i64) ψ y.1.2.2.2.1 d1∧Ro.SliceIs (Ro.int .i64) ψ y.1.2.2.2.2.1 d2∧Ro.SliceIs Ro.str ψ y.1.2.2.2.2.2.1 d3∧St ψ (F) h'):=by
 refine AR mixed Tryz.func55 ?_
 rw [Jq]
 unfold Gc
 unfold Co at hd
 have d4:g_0.1.2.1=List.length c8:=ar.length
 have d5:g_0.2.2.1.2.1=List.length c9:=bc.length
 have bj:g_0.2.2.2.2.1.2.1=List.length ca:=au.length
 refine AY (vs:= [sv g_0.1,sv g_0.2.1,sv g_0.2.2.1, .string g_0.2.2.2.1,sv g_0.2.2.2.2.1]) s0 fun r1 q2 fo=> ?_
 refine AY (vs:= [.slice none 0 0, .slice none 0 0, .slice none 0 0, .slice none 0 0, .slice none 0 0, .slice none 0 0]) fo fun r2 q3 b5=> ?_
 refine AA (x:=g_0.1) b5.at1 rfl ?_
 refine AA (x:=g_0.2.1) b5.at1 rfl ?_
 refine AA (x:=g_0.2.2.1) b5.at1 rfl ?_
 refine AA (x:=g_0.2.2.2.1) b5.at1 rfl ?_
 refine AA (x:=g_0.2.2.2.2.1) b5.at1 rfl ?_
 obtain ⟨q4,fp,hd⟩:=bS hd
 refine AI (Hl (g_0:=(g_0.1,g_0.2.1,g_0.2.2.1,g_0.2.2.2.1,g_0.2.2.2.2.1,())) ar cb bc au b5 fp) ?_
 rintro _ q5 ⟨a8,t8,p,rfl,rfl,d6⟩
 refine ⟨t8,rfl,?_⟩
 refine AL hd rfl (fun _ hd=> ?_) (fun _ hd=> ?_)
 ·refine AQ d6 rfl rfl fun q6 fq=> ?_
  refine AQ fq rfl rfl fun q7 fr=> ?_
  refine AQ fr rfl rfl fun q8 fs=> ?_
  refine AQ fs rfl rfl fun q9 ft=> ?_
  refine AQ ft rfl rfl fun qa fu=> ?_
  refine AQ fu rfl rfl fun qb ay=> ?_
  refine AA (x:=((none,0,0):Slc)) ay rfl ?_
  refine AA (x:=((none,0,0):Slc)) ay rfl ?_
  refine AA (x:=((none,0,0):Slc)) ay rfl ?_
  refine AA (x:=((none,0,0):Slc)) ay rfl ?_
  refine AA (x:=((none,0,0):Slc)) ay rfl ?_
  refine AA (x:=((none,0,0):Slc)) ay rfl ?_
  obtain rfl:=iS hd
  exact AB ⟨a8,((((none,0,0):Slc),((none,0,0):Slc),((none,0,0):Slc),((none,0,0):Slc),((none,0,0):Slc),((none,0,0):Slc),()),(1:Int),{data:= #[] },()),([] :List ByteArray),([] :List ByteArray),([] :List BC),([] :List Int),([] :List Int),([] :List ByteArray),p,rfl,rfl,(Ro.SliceIs.nil Ro.str a8),(Ro.SliceIs.nil Ro.str a8),(Ro.SliceIs.nil CF a8),(Ro.SliceIs.nil (Ro.int .i64) a8),(Ro.SliceIs.nil (Ro.int .i64) a8),(Ro.SliceIs.nil Ro.str a8),ay.tail.tail⟩
 refine AY (vs:= [.string ({data:= #[36,101,110,100] })]) d6 fun r15 qc fv=> ?_
 refine AY (vs:= [.int .i64 (0:Int)]) fv fun r16 qd fw=> ?_
 refine AY (vs:= [.int .i64 (0:Int)]) fw fun r17 qe fx=> ?_
 refine AY (vs:= [.string ({data:= #[] })]) fx fun r18 qf fy=> ?_
 refine AY (vs:= [.slice none 0 0, .slice none 0 0, .slice none 0 0, .slice none 0 0, .slice none 0 0, .slice none 0 0]) fy fun r19 qg fz=> ?_
 refine AQ fz rfl rfl fun qh g0=> ?_
 refine AQ g0 rfl rfl fun qi g1=> ?_
 refine AQ g1 rfl rfl fun qj g2=> ?_
 refine AQ g2 rfl rfl fun qk g3=> ?_
 refine AQ g3 rfl rfl fun ql g4=> ?_
 refine AQ g4 rfl rfl fun qm g5=> ?_
 have g6:=St.lit (r:=Ro.str) (l:=([{data:= #[36,101,110,100] }] :List ByteArray)) (n:=1) g5.at4 (.cons (a:= [_]) rfl .nil) rfl (by decide)
 have g7:=St.lit (r:=(Ro.int .i64)) (l:=([(0:Int)] :List Int)) (n:=1) ((g6.nil 9 Ro.str).nil 65 CF).at6 (.cons (a:= [_]) rfl .nil) rfl (by decide)
 have g8:=St.lit (r:=(Ro.int .i64)) (l:=([(0:Int)] :List Int)) (n:=1) g7.at6 (.cons (a:= [_]) rfl .nil) rfl (by decide)
 have g9:=St.lit (r:=Ro.str) (l:=([{data:= #[] }] :List ByteArray)) (n:=1) g8.at6 (.cons (a:= [_]) rfl .nil) rfl (by decide)
 have ga:=Hd (t0:=((some ⟨r15,0,none⟩,1,1):Slc)) (t1:=((none,0,0):Slc)) (t2:=((none,0,0):Slc)) (t3:=((some ⟨r16,0,none⟩,1,1):Slc)) (t4:=((some ⟨r17,0,none⟩,1,1):Slc)) (t5:=((some ⟨r18,0,none⟩,1,1):Slc)) g9.at6.at6.at6.at6.at6.at6.at6
 obtain ⟨gb,gc,hd⟩:=bS hd
 refine AT (fun (y:Int×Unit) w_ g=> ∃ψ:AC,∃d7:Ay,Sub a8 ψ∧d7=g∧St ψ (cO 32 EU (some ⟨r19,0,none⟩) d7::Wq5 r2::Wq1 r1 g_0::F) w_) (g:=gb) ?_ ?_
 ·refine BJ gc (fun gd (y:Int×Unit) w_ g=> ∃ψ:AC,∃d8:Ay,Sub a8 ψ∧y.1=gd∧d8=g∧St ψ (cO 32 EU (some ⟨r19,0,none⟩) d8::Wq5 r2::Wq1 r1 g_0::F) w_) ((0:Int),()) rfl ⟨a8,(([{data:= #[36,101,110,100] }] :List ByteArray),([] :List ByteArray),([] :List BC),([(0:Int)] :List Int),([(0:Int)] :List Int),([{data:= #[] }] :List ByteArray)),(Sub.refl _),rfl,rfl,ga.at2.at2.at2⟩ ?_ ?_
  ·rintro _ z21 qn _ _ ⟨qo,a6,bk,rfl,rfl,d9⟩ a4 ge da db
   try dsimp only at a4 ge da db
   refine AA (x:=g_0.2.2.2.2.1) d9.at2 rfl ?_
   refine Ai (dT bj da) ?_
   obtain ⟨gf,qp,gg,qq,qr,qs,qt,dc,bl⟩:=Ew d9
   obtain rfl:r19=gf:=by simpa using dc
   clear dc
   refine AA (x:=gg) bl.at6 rfl ?_
   refine AA (x:=g_0.2.2.2.2.1) bl.at8 rfl ?_
   obtain ⟨gh,gi,a4⟩:=bS a4
   obtain ⟨qu,qv,gj,gk,gl,gm⟩:=(au.mono (p.trans bk)).get gi
   refine AF _ gj (Aa gk ?_)
   obtain ⟨_,_,rfl,gn,go⟩:=gl
   obtain rfl:=gn
   obtain ⟨_,_,rfl,gp,gq⟩:=go
   obtain ⟨qw,rfl,qx⟩:=gp
   obtain ⟨_,_,rfl,gr,gs⟩:=gq
   obtain rfl:=gr
   obtain rfl:=gs
   refine AG (x:=gh.1) (AE bl.sub (gm 0 _ rfl)) rfl ?_
   obtain ⟨qy,gt,a4⟩:=bS a4
   refine AI (Bc bl.at4 gt) ?_
   rintro _ qz ⟨cc,t27,cd,rfl,rfl,gu⟩
   refine ⟨t27,rfl,?_⟩
   have dd:=Hd gu.at5.at1.at5.at5.at5.at5.at6.at6.at6.at6.at6.at6.at6
   obtain ⟨gv,af,a4⟩:=bS a4
   refine Ao (fun (y:Unit) w_ g=> ∃ψ:AC,∃de:Ay,Sub cc ψ∧de=g∧St ψ (cO 32 EU (some ⟨r19,0,none⟩) de::Wq5 r2::Wq1 r1 g_0::F) w_) (g:=gv) ?_ ?_
   ·refine AL af rfl (fun _ af=> ?_) (fun _ af=> ?_)
    ·obtain ⟨gw,r0,gx,r3,r4,r5,r6,df,bd⟩:=Ew dd
     obtain rfl:r19=gw:=by simpa using df
     clear df
     try dsimp only at bd
     refine AA (x:=gx) bd.at6 rfl ?_
     refine AA (x:=g_0.2.2.2.2.1) bd.at8 rfl ?_
     obtain ⟨ce,gy,af⟩:=bS af
     obtain ⟨r7,r8,gz,h0,h1,h2⟩:=(au.mono ((p.trans bk).trans cd)).get gy
     refine AF _ gz (Aa h0 ?_)
     obtain ⟨_,_,rfl,h3,h4⟩:=h1
     obtain rfl:=h3
     obtain ⟨_,_,rfl,h5,h6⟩:=h4
     obtain ⟨r9,rfl,ra⟩:=h5
     obtain ⟨_,_,rfl,h7,h8⟩:=h6
     obtain rfl:=h7
     obtain rfl:=h8
     refine AG (x:=ce.1) (AE bd.sub (h2 0 _ rfl)) rfl ?_
     refine AY (vs:= [.string ce.1]) bd fun r33 rb cf=> ?_
     refine AO (St.cell (b:=r19) (j:=1) cf.at7 rfl) ?_
     obtain ⟨h9,hb,af⟩:=bS af
     refine Aj (r:=Ro.str) (ms:=([ce.1] :List ByteArray)) CO cf.tail.at4 rfl (St.cells cf) (.cons (a:= [_]) rfl .nil) rfl hb ?_
     intro t34 rc hc
     refine AQ hc.at6 rfl rfl fun rd he=> ?_
     obtain rfl:=iS af
     exact AS (()) rfl ⟨cc,(a6.1,h9,a6.2.2.1,a6.2.2.2.1,a6.2.2.2.2.1,a6.2.2.2.2.2),(Sub.refl _),rfl,((((Hd he.at6.at2.at6.at6.at6.at6.at6.at6.at6.at6.at6.at6.at6).at2).at2).at2)⟩
    obtain rfl:=iS af
    exact AS (()) rfl ⟨cc,(a6.1,a6.2.1,a6.2.2.1,a6.2.2.2.1,a6.2.2.2.2.1,a6.2.2.2.2.2),(Sub.refl _),rfl,dd.at2.at2.at2⟩
   rintro z28 re ⟨hf,be,dg,rfl,hg⟩
   try dsimp only at a4
   obtain ⟨hh,rf,rg,rh,ri,rj,hi,dh,bm⟩:=Ew hg
   obtain rfl:r19=hh:=by simpa using dh
   clear dh
   refine AA (x:=hi) bm.at6 rfl ?_
   refine AA (x:=g_0.2.2.2.2.1) bm.at8 rfl ?_
   obtain ⟨cg,hj,a4⟩:=bS a4
   obtain ⟨rk,rl,hk,hl,hm,hn⟩:=(au.mono (((p.trans bk).trans cd).trans dg)).get hj
   refine AF _ hk (Aa hl ?_)
   obtain ⟨_,_,rfl,ho,hp⟩:=hm
   obtain rfl:=ho
   obtain ⟨_,_,rfl,hq,hr⟩:=hp
   obtain ⟨rm,rfl,rn⟩:=hq
   obtain ⟨_,_,rfl,hs,ht⟩:=hr
   obtain rfl:=hs
   obtain rfl:=ht
   refine AG (x:=cg.2.2.2) (by rw [Ae]; exact (AE bm.sub (hn 3 _ rfl))) rfl ?_
   refine AY (vs:= [.string cg.2.2.2]) bm fun r39 rp ch=> ?_
   refine AO (St.cell (b:=r19) (j:=5) ch.at7 rfl) ?_
   obtain ⟨hu,hv,a4⟩:=bS a4
   refine Aj (r:=Ro.str) (ms:=([cg.2.2.2] :List ByteArray)) CO ch.tail rfl (St.cells ch) (.cons (a:= [_]) rfl .nil) rfl hv ?_
   intro t40 rq hw
   refine AQ hw.at6 rfl rfl fun rr hx=> ?_
   obtain rfl:=iS a4
   exact Ag ((wN z21.1),()) _ rfl rfl ⟨hf,(be.1,be.2.1,be.2.2.1,be.2.2.2.1,be.2.2.2.2.1,hu),((bk.trans cd).trans dg),db,rfl,((((Hd hx.at6.at6.at6.at6.at6.at6.at6.at6.at6.at6.at6.at6.at6).at2).at2).at2)⟩
  ·rintro _ z21 rs ⟨hy,hz,i0,rfl,rfl,di⟩ i1
   refine AA (x:=g_0.2.2.2.2.1) di.at2 rfl ?_
   refine AX (dF bj i1) ?_
   exact AJ (AK (z21.1,()) rfl ⟨hy,hz,i0,rfl,di.at2.at2.at2⟩)
 rintro z20 rt ⟨ci,i2,u,rfl,i3⟩
 try dsimp only at hd
 have i4:=Hd (t0:=((none,0,0):Slc)) (t1:=((none,0,0):Slc)) (t2:=((none,0,0):Slc)) (t3:=((none,0,0):Slc)) (t4:=((none,0,0):Slc)) (t5:=((none,0,0):Slc)) ((((((i3.nil 9 Ro.str).nil 9 Ro.str).nil 65 CF).nil 3 (Ro.int .i64)).nil 3 (Ro.int .i64)).nil 9 Ro.str).at7.at6.at6.at6.at6.at6.at6
 obtain ⟨i5,i6,hd⟩:=bS hd
 refine AT (fun (y:Int×ByteArray×Int×Unit) w_ g=> ∃ψ:AC,∃dj:Ay,∃dk:Ay,Sub ci ψ∧AU.next (dj,dk)=g∧St ψ (cO 32 EU (some ⟨r2,0,none⟩) dj::cO 32 EU (some ⟨r19,0,none⟩) dk::Wq1 r1 g_0::F) w_) (g:=i5) ?_ ?_
 ·refine Be i6 (fun i7 (y:Int×ByteArray×Int×Unit) w_ g=> ∃ψ:AC,∃dl:Ay,∃dm:Ay,Sub ci ψ∧y.1=i7∧(dl,dm)=g∧St ψ (cO 32 EU (some ⟨r2,0,none⟩) dl::cO 32 EU (some ⟨r19,0,none⟩) dm::Wq1 r1 g_0::F) w_) ((0:Int),{data:= #[] },(0:Int),()) rfl ⟨ci,(([] :List ByteArray),([] :List ByteArray),([] :List BC),([] :List Int),([] :List Int),([] :List ByteArray)),i2,(Sub.refl _),rfl,rfl,i4.at2.at2.at2⟩ ?_ ?_
  ·rintro _ z42 ru _ _ ⟨rv,i8,bn,a9,rfl,rfl,dn⟩ s i9 dp dq ia
   try dsimp only at s i9 dp dq
   refine AA (x:=g_0.1) dn.at2 rfl ?_
   refine Ai (dT d4 dp) ?_
   obtain ⟨ib,ic,ie,rx,ig,ry,rz,dr,bo⟩:=Ew dn.at1
   obtain rfl:r19=ib:=by simpa using dr
   clear dr
   refine AA (x:=ie) bo.at6 rfl ?_
   refine AA (x:=g_0.1) bo.at8 rfl ?_
   obtain ⟨ih,ii,s⟩:=bS s
   obtain ⟨s1,s2,ij,ik,il,im⟩:=(ar.mono ((p.trans u).trans a9)).get ii
   refine AF _ ij (Aa ik ?_)
   obtain ⟨_,_,rfl,io,ip⟩:=il
   obtain rfl:=io
   obtain ⟨_,_,rfl,iq,ir⟩:=ip
   obtain rfl:=iq
   obtain ⟨_,_,rfl,it,iu⟩:=ir
   obtain rfl:=it
   obtain rfl:=iu
   refine AG (x:=ih.1) (AE bo.sub (im 0 _ rfl)) rfl ?_
   obtain ⟨s3,iv,s⟩:=bS s
   refine AI (Bc bo.at4 iv) ?_
   rintro _ s4 ⟨az,t48,ag,rfl,rfl,b0⟩
   refine ⟨t48,rfl,?_⟩
   refine AL s rfl (fun _ s=> ?_) (fun _ s=> ?_)
   ·refine AA (x:=g_0.1) b0.at8 rfl ?_
    obtain ⟨ds,iw,s⟩:=bS s
    obtain ⟨s5,s6,ix,iy,iz,dt⟩:=(ar.mono (((p.trans u).trans a9).trans ag)).get iw
    refine AF _ ix (Aa iy ?_)
    obtain ⟨_,_,rfl,j0,j1⟩:=iz
    obtain rfl:=j0
    obtain ⟨_,_,rfl,j2,j3⟩:=j1
    obtain rfl:=j2
    obtain ⟨_,_,rfl,j4,j5⟩:=j3
    obtain rfl:=j4
    obtain rfl:=j5
    refine AG (x:=ds.1) (AE b0.sub (dt 0 _ rfl)) rfl ?_
    obtain ⟨j6,s7,s8,s9,sa,sb,sc,du,j7⟩:=Ew b0.at7
    obtain rfl:r2=j6:=by simpa using du
    clear du
    refine AQ j7.at6 rfl rfl fun sd j8=> ?_
    refine AQ j8 rfl rfl fun se j9=> ?_
    refine AQ j9 rfl rfl fun sf ja=> ?_
    refine AQ ja rfl rfl fun sg jb=> ?_
    refine AQ jb rfl rfl fun sh jc=> ?_
    refine AQ jc rfl rfl fun si ah=> ?_
    refine AO (AE ah.sub (dt 0 _ rfl)) ?_
    refine AO (St.cell (b:=r1) (j:=0) ah.at14 rfl) ?_
    refine AA (x:=((none,0,0):Slc)) ah rfl ?_
    refine AA (x:=((none,0,0):Slc)) ah rfl ?_
    refine AA (x:=((none,0,0):Slc)) ah rfl ?_
    refine AA (x:=((none,0,0):Slc)) ah rfl ?_
    refine AA (x:=((none,0,0):Slc)) ah rfl ?_
    refine AA (x:=((none,0,0):Slc)) ah rfl ?_
    obtain rfl:=iS s
    obtain rfl:=ia _ rfl
    try dsimp only at hd
    obtain rfl:=iS hd
    exact Af (Ah (AB ⟨az,((((none,0,0):Slc),((none,0,0):Slc),((none,0,0):Slc),((none,0,0):Slc),((none,0,0):Slc),((none,0,0):Slc),()),(15:Int),ds.1,()),([] :List ByteArray),([] :List ByteArray),([] :List BC),([] :List Int),([] :List Int),([] :List ByteArray),(((p.trans u).trans a9).trans ag),rfl,rfl,(Ro.SliceIs.nil Ro.str az),(Ro.SliceIs.nil Ro.str az),(Ro.SliceIs.nil CF az),(Ro.SliceIs.nil (Ro.int .i64) az),(Ro.SliceIs.nil (Ro.int .i64) az),(Ro.SliceIs.nil Ro.str az),ah.tail.tail.tail.tail.tail.tail.tail.tail.tail.tail.tail.tail.tail.tail.tail⟩))
   refine AA (x:=ic) b0.at6 rfl ?_
   refine AA (x:=g_0.1) b0.at8 rfl ?_
   obtain ⟨cj,jd,s⟩:=bS s
   obtain ⟨sj,sk,je,jf,jg,jh⟩:=(ar.mono (((p.trans u).trans a9).trans ag)).get jd
   refine AF _ je (Aa jf ?_)
   obtain ⟨_,_,rfl,ji,jj⟩:=jg
   obtain rfl:=ji
   obtain ⟨_,_,rfl,jk,jl⟩:=jj
   obtain rfl:=jk
   obtain ⟨_,_,rfl,jm,jn⟩:=jl
   obtain rfl:=jm
   obtain rfl:=jn
   refine AG (x:=cj.1) (AE b0.sub (jh 0 _ rfl)) rfl ?_
   refine AY (vs:= [.string cj.1]) b0 fun r62 sl ck=> ?_
   refine AO (St.cell (b:=r19) (j:=0) ck.at7 rfl) ?_
   obtain ⟨jo,jp,s⟩:=bS s
   refine Aj (r:=Ro.str) (ms:=([cj.1] :List ByteArray)) CO ck.tail.at5 rfl (St.cells ck) (.cons (a:= [_]) rfl .nil) rfl jp ?_
   intro t63 sm jq
   refine AQ jq.at6 rfl rfl fun sn ai=> ?_
   refine AA (x:=ig) ai rfl ?_
   refine AA (x:=g_0.1) ai.at8 rfl ?_
   refine AA (x:=g_0.2.1) ai.at8 rfl ?_
   refine AA (x:=g_0.2.2.1) ai.at8 rfl ?_
   refine AA (x:=g_0.2.2.2.1) ai.at8 rfl ?_
   refine AA (x:=g_0.2.2.2.2.1) ai.at8 rfl ?_
   refine AA (x:=g_0.1) ai.at8 rfl ?_
   obtain ⟨jr,js,s⟩:=bS s
   obtain ⟨so,sp,jt,ju,jv,jw⟩:=(ar.mono (((p.trans u).trans a9).trans ag)).get js
   refine AF _ jt (Aa ju ?_)
   obtain ⟨_,_,rfl,jx,jy⟩:=jv
   obtain rfl:=jx
   obtain ⟨_,_,rfl,jz,k0⟩:=jy
   obtain rfl:=jz
   obtain ⟨_,_,rfl,k1,k2⟩:=k0
   obtain rfl:=k1
   obtain rfl:=k2
   refine AG (x:=jr.1) (AE ai.sub (jw 0 _ rfl)) rfl ?_
   obtain ⟨sq,k3,s⟩:=bS s
   refine AI (EY (g_0:=(g_0.1,g_0.2.1,g_0.2.2.1,g_0.2.2.2.1,g_0.2.2.2.2.1,())) (ar.mono (((p.trans u).trans a9).trans ag)) (cb.mono (((p.trans u).trans a9).trans ag)) (bc.mono (((p.trans u).trans a9).trans ag)) (au.mono (((p.trans u).trans a9).trans ag)) ai k3) ?_
   rintro _ sr ⟨k4,t73,k5,rfl,rfl,dv⟩
   refine ⟨t73,rfl,?_⟩
   refine AO (St.cell (b:=r19) (j:=3) dv rfl) ?_
   refine AY (vs:= [.int .i64 t73]) dv fun r74 ss cl=> ?_
   refine AO (St.cell (b:=r19) (j:=3) cl.at1 rfl) ?_
   obtain ⟨k6,k7,s⟩:=bS s
   refine Aj (r:=(Ro.int .i64)) (ms:=([t73] :List Int)) ED cl.tail.at5 rfl (St.cells cl) (.cons (a:= [_]) rfl .nil) rfl k7 ?_
   intro t75 st k8
   refine AQ k8.at1 rfl rfl fun su k9=> ?_
   obtain rfl:=iS s
   exact Ag ((wN z42.1),z42.2.1,z42.2.2.1,()) _ rfl rfl ⟨k4,i8,(jo,bn.2.1,bn.2.2.1,k6,bn.2.2.2.2.1,bn.2.2.2.2.2),((a9.trans ag).trans k5),dq,rfl,((((Hd k9.at2.at3.at6.at4.at6.at6.at6.at6.at6.at6.at6.at6.at6).at2).at1).at2)⟩
  ·rintro _ z42 sw _ ⟨ka,kb,kc,kd,rfl,rfl,dw⟩ ke kf
   subst kf
   refine AA (x:=g_0.1) dw.at2 rfl ?_
   refine AX (dF d4 ke) ?_
   exact AJ (AK (z42.1,z42.2.1,z42.2.2.1,()) rfl ⟨ka,kb,kc,kd,rfl,dw.at2.at2.at2⟩)
 rintro z41 sx ⟨cm,cn,kg,aa,rfl,kh⟩
 try dsimp only at hd
 obtain ⟨ki,kj,hd⟩:=bS hd
 refine AT (fun (y:Int×Unit) w_ g=> ∃ψ:AC,∃dx:Ay,Sub cm ψ∧dx=g∧St ψ (cO 32 EU (some ⟨r19,0,none⟩) dx::cO 32 EU (some ⟨r2,0,none⟩) cn::Wq1 r1 g_0::F) w_) (g:=ki) ?_ ?_
 ·refine BJ kj (fun kk (y:Int×Unit) w_ g=> ∃ψ:AC,∃dy:Ay,Sub cm ψ∧y.1=kk∧dy=g∧St ψ (cO 32 EU (some ⟨r19,0,none⟩) dy::cO 32 EU (some ⟨r2,0,none⟩) cn::Wq1 r1 g_0::F) w_) ((0:Int),()) rfl ⟨cm,kg,(Sub.refl _),rfl,rfl,kh.at2.at1.at2⟩ ?_ ?_
  ·rintro _ z77 sy _ _ ⟨kl,bf,dz,rfl,rfl,e0⟩ b6 km e1 e2
   try dsimp only at b6 km e1 e2
   refine AA (x:=g_0.2.2.1) e0.at2 rfl ?_
   refine Ai (dT d5 e1) ?_
   obtain ⟨kn,sz,t6,t7,t9,ko,ta,e3,bp⟩:=Ew e0
   obtain rfl:r19=kn:=by simpa using e3
   clear e3
   refine AA (x:=ko) bp.at6 rfl ?_
   refine AA (x:=g_0.2.2.1) bp.at8 rfl ?_
   obtain ⟨co,kp,b6⟩:=bS b6
   obtain ⟨tb,tc,kq,kr,ks,kt⟩:=(bc.mono (((p.trans u).trans aa).trans dz)).get kp
   refine AF _ kq (Aa kr ?_)
   obtain ⟨_,_,rfl,ku,kv⟩:=ks
   obtain rfl:=ku
   obtain ⟨td,rfl,te⟩:=kv
   refine AG (x:=co.1) (AE bp.sub (kt 0 _ rfl)) rfl ?_
   refine AY (vs:= [.int .i64 co.1]) bp fun r83 tf cp=> ?_
   refine AO (St.cell (b:=r19) (j:=4) cp.at7 rfl) ?_
   obtain ⟨kw,kx,b6⟩:=bS b6
   refine Aj (r:=(Ro.int .i64)) (ms:=([co.1] :List Int)) ED cp.tail.at1 rfl (St.cells cp) (.cons (a:= [_]) rfl .nil) rfl kx ?_
   intro t84 tg ky
   refine AQ ky.at6 rfl rfl fun th kz=> ?_
   obtain rfl:=iS b6
   exact Ag ((wN z77.1),()) _ rfl rfl ⟨kl,(bf.1,bf.2.1,bf.2.2.1,bf.2.2.2.1,kw,bf.2.2.2.2.2),dz,e2,rfl,((((Hd kz.at6.at6.at6.at6.at5.at6.at6.at6.at6.at6.at6.at6.at6).at2).at2).at2)⟩
  ·rintro _ z77 ti ⟨l0,l1,l2,rfl,rfl,e4⟩ l3
   refine AA (x:=g_0.2.2.1) e4.at2 rfl ?_
   refine AX (dF d5 l3) ?_
   exact AJ (AK (z77.1,()) rfl ⟨l0,l1,l2,rfl,e4.at2.at2.at2⟩)
 rintro z76 tj ⟨tk,q,aj,rfl,l4⟩
 try dsimp only at hd
 obtain ⟨l5,bq,br,a2,e5,e6,e7,e8,a5⟩:=Ew l4
 obtain rfl:r19=l5:=by simpa using e8
 clear e8
 have l6:=(a5.at5).rowLen
 have l7:=(a5.at4).rowLen
 refine AA (x:=bq) a5.at6 rfl ?_
 refine AA (x:=br) a5.at6 rfl ?_
 refine AA (x:=bq) a5.at6 rfl ?_
 refine AA (x:=br) a5.at6 rfl ?_
 refine AA (x:=a2) a5.at6 rfl ?_
 refine AA (x:=e5) a5.at6 rfl ?_
 refine AA (x:=e6) a5.at6 rfl ?_
 refine AA (x:=e7) a5.at6 rfl ?_
 refine AA (x:=g_0.2.2.2.1) a5.at8 rfl ?_
 obtain ⟨tl,l8,hd⟩:=bS hd
 refine AI (Ct (p_0:=(bq,br,a2,e5,e6,e7,())) a5.at5.at5.at1 l8) ?_
 rintro _ tm ⟨tn,t94,ak,rfl,rfl,l9⟩
 refine ⟨t94,rfl,?_⟩
 refine AY (vs:= [.int .i64 t94]) l9 fun r95 tp la=> ?_
 refine AY (vs:= [.int .i64 (IntKind.wrap .i64 (((bq.2.1:Nat):Int) +((br.2.1:Nat):Int))), .slice (some ⟨r95,0,none⟩) 1 1, .int .i64 (0:Int)]) la fun r96 tq lb=> ?_
 refine AQ lb.at8 rfl rfl fun tr lc=> ?_
 have ld:=St.lit (r:=(Ro.int .i64)) (l:=([t94] :List Int)) (n:=1) lc.at3.at4.at4 (.cons (a:= [_]) rfl .nil) rfl (by decide)
 obtain ⟨cq,al,le,lf⟩:=St.freezeRow (t:=((some ⟨r95,0,none⟩,1,1):Slc)) ld
 have lg:=St.lit (r:=CF) (l:=([((IntKind.wrap .i64 ((((List.length q.1):Nat):Int) +(((List.length q.2.1):Nat):Int))),([t94] :List Int),(0:Int))] :List BC)) (n:=1) lf.at3 (.cons (a:= [_,_,_]) ⟨[_],_,rfl,(show _=_ by rw [l6,l7]; rfl),⟨[_],_,rfl,⟨((some ⟨r95,0,none⟩,1,1):Slc),rfl,le⟩,rfl⟩⟩ .nil) rfl (by decide)
 have lh:=((((Hd (t2:=((some ⟨r96,0,none⟩,1,1):Slc)) lg.at6.at6.at6.at6.at6.at6.at6.at6.at6.at6).at3).at2).at2).at3
 obtain ⟨li,lj,hd⟩:=bS hd
 refine AT (fun (y:Int×ByteArray×Int×Unit) w_ g=> ∃ψ:AC,∃e9:Ay,∃ea:Ay,Sub cq ψ∧AU.next (e9,ea)=g∧St ψ (cO 32 EU (some ⟨r2,0,none⟩) e9::cO 32 EU (some ⟨r19,0,none⟩) ea::cR 65 CF a2 q.2.2.1::Wq1 r1 g_0::F) w_) (g:=li) ?_ ?_
 ·refine Be lj (fun lk (y:Int×ByteArray×Int×Unit) w_ g=> ∃ψ:AC,∃eb:Ay,∃ec:Ay,Sub cq ψ∧y.1=lk∧(eb,ec)=g∧St ψ (cO 32 EU (some ⟨r2,0,none⟩) eb::cO 32 EU (some ⟨r19,0,none⟩) ec::cR 65 CF a2 q.2.2.1::Wq1 r1 g_0::F) w_) ((0:Int),z41.2.1,z41.2.2.1,()) rfl ⟨cq,cn,(q.1,q.2.1,([((IntKind.wrap .i64 ((((List.length q.1):Nat):Int) +(((List.length q.2.1):Nat):Int))),([t94] :List Int),(0:Int))] :List BC),q.2.2.2.1,q.2.2.2.2.1,q.2.2.2.2.2),(Sub.refl _),rfl,rfl,lh⟩ ?_ ?_
  ·rintro _ z98 ts _ _ ⟨tt,ed,c,av,rfl,rfl,b1⟩ w ll ee ef eg
   try dsimp only at w ll ee ef
   refine AA (x:=g_0.2.2.2.2.1) b1.at3 rfl ?_
   refine Ai (dT bj ee) ?_
   refine AA (x:=g_0.2.2.2.2.1) b1.at3 rfl ?_
   obtain ⟨d,lm,w⟩:=bS w
   obtain ⟨tu,tv,ln,lo,lp,bs⟩:=(au.mono ((((((p.trans u).trans aa).trans aj).trans ak).trans al).trans av)).get lm
   refine AF _ ln (Aa lo ?_)
   obtain ⟨_,_,rfl,lq,lr⟩:=lp
   obtain rfl:=lq
   obtain ⟨_,_,rfl,ls,lt⟩:=lr
   obtain ⟨z,rfl,cr⟩:=ls
   have eh:=cr.length
   obtain ⟨_,_,rfl,lu,lv⟩:=lt
   obtain rfl:=lu
   obtain rfl:=lv
   refine AG (x:=d.1) (AE b1.sub (bs 0 _ rfl)) rfl ?_
   refine AG (x:=z) (by rw [Ae]; exact (AE b1.sub (bs 1 _ rfl))) rfl ?_
   refine AG (x:=d.2.2.1) (by rw [Ae]; exact (AE b1.sub (bs 2 _ rfl))) rfl ?_
   refine AG (x:=d.2.2.2) (by rw [Ae]; exact (AE b1.sub (bs 3 _ rfl))) rfl ?_
   refine AY (vs:= [.string ({data:= #[] }), .slice none 0 0, .string ({data:= #[] }), .string ({data:= #[] })]) b1 fun r106 tw lw=> ?_
   refine AQ lw rfl rfl fun tx lx=> ?_
   refine AQ lx rfl rfl fun ty ly=> ?_
   refine AQ ly rfl rfl fun tz lz=> ?_
   refine AQ lz rfl rfl fun u0 m0=> ?_
   obtain ⟨m1,e,k,f,i,m,o,ei,am⟩:=Ew m0.at2
   obtain rfl:r19=m1:=by simpa using ei
   clear ei
   have m2:=(am.at5).rowLen
   refine AA (x:=e) am.at6 rfl ?_
   refine AA (x:=k) am.at6 rfl ?_
   refine AA (x:=f) am.at6 rfl ?_
   refine AA (x:=i) am.at6 rfl ?_
   refine AA (x:=m) am.at6 rfl ?_
   refine AA (x:=o) am.at6 rfl ?_
   refine AA (x:=d.1) am.at7 rfl ?_
   obtain ⟨u1,m3,w⟩:=bS w
   refine AI (Ct (p_0:=(e,k,f,i,m,o,())) am.at5.at5.at1 m3) ?_
   rintro _ u2 ⟨bt,t114,an,rfl,rfl,m4⟩
   refine ⟨t114,rfl,?_⟩
   refine AY (vs:= [.int .i64 (0:Int), .slice none 0 0, .int .i64 (0:Int)]) m4 fun r115 u3 m5=> ?_
   refine AQ m5 rfl rfl fun u4 m6=> ?_
   refine AQ m6 rfl rfl fun u5 m7=> ?_
   refine AQ m7 rfl rfl fun u6 m8=> ?_
   have m9:=St.unpair ((St.unro (r:=(Ro.int .i64)) (cs:= [.int .i64 (0:Int)]) (x:=(0:Int)) (m8.nil 3 (Ro.int .i64)) rfl).at1)
   have ma:St bt (cO 65 Rq1 (some ⟨r115,0,none⟩) (t114,([] :List Int),(0:Int))::cR 9 Ro.str e c.1::cR 9 Ro.str k c.2.1::cR 9 Ro.str o c.2.2.2.2.2::cR 3 (Ro.int .i64) m c.2.2.2.2.1::cR 3 (Ro.int .i64) i c.2.2.2.1::cR 65 CF f c.2.2.1::cW 32 r19 [sv e,sv k,sv f,sv i,sv m,sv o] ::cW 172 r106 [.string d.1,sv z, .string d.2.2.1, .string d.2.2.2] ::cO 32 EU (some ⟨r2,0,none⟩) ed::cR 65 CF a2 q.2.2.1::Wq1 r1 g_0::F) _:=St.shut (St.unpair (St.unro (r:=(Ro.int .i64)) (cs:= [.int .i64 t114]) (x:=t114) m9 rfl)).at1
   obtain ⟨mb,mc,w⟩:=bS w
   refine AT (fun (y:Int×ByteArray×Int×Unit) w_ g=> ∃ψ:AC,∃ej:Ay,∃ek:BC,Sub bt ψ∧AU.next (ej,ek)=g∧St ψ (cO 32 EU (some ⟨r2,0,none⟩) ej::cO 65 Rq1 (some ⟨r115,0,none⟩) ek::cR 9 Ro.str e c.1::cR 9 Ro.str k c.2.1::cR 9 Ro.str o c.2.2.2.2.2::cR 3 (Ro.int .i64) m c.2.2.2.2.1::cR 3 (Ro.int .i64) i c.2.2.2.1::cR 65 CF f c.2.2.1::cW 32 r19 [sv e,sv k,sv f,sv i,sv m,sv o] ::cW 172 r106 [.string d.1,sv z, .string d.2.2.1, .string d.2.2.2] ::cR 65 CF a2 q.2.2.1::Wq1 r1 g_0::F) w_) (g:=mb) ?_ ?_
   ·refine Be mc (fun md (y:Int×ByteArray×Int×Unit) w_ g=> ∃ψ:AC,∃el:Ay,∃em:BC,Sub bt ψ∧y.1=md∧(el,em)=g∧St ψ (cO 32 EU (some ⟨r2,0,none⟩) el::cO 65 Rq1 (some ⟨r115,0,none⟩) em::cR 9 Ro.str e c.1::cR 9 Ro.str k c.2.1::cR 9 Ro.str o c.2.2.2.2.2::cR 3 (Ro.int .i64) m c.2.2.2.2.1::cR 3 (Ro.int .i64) i c.2.2.2.1::cR 65 CF f c.2.2.1::cW 32 r19 [sv e,sv k,sv f,sv i,sv m,sv o] ::cW 172 r106 [.string d.1,sv z, .string d.2.2.1, .string d.2.2.2] ::cR 65 CF a2 q.2.2.1::Wq1 r1 g_0::F) w_) ((0:Int),z98.2.1,z98.2.2.1,()) rfl ⟨bt,ed,(t114,([] :List Int),(0:Int)),(Sub.refl _),rfl,rfl,ma.at11.at11.at10.at10.at10.at10.at10.at10.at10.at10.at10.at11⟩ ?_ ?_
    ·rintro _ z117 u7 _ _ ⟨u8,b7,a0,bu,rfl,rfl,ab⟩ a1 me en eo mf
     try dsimp only at a1 me en eo
     refine AA (x:=z) ab.at9 rfl ?_
     refine Ai (dT eh en) ?_
     refine AA (x:=e) ab.at8 rfl ?_
     refine AA (x:=k) ab.at8 rfl ?_
     refine AA (x:=f) ab.at8 rfl ?_
     refine AA (x:=i) ab.at8 rfl ?_
     refine AA (x:=m) ab.at8 rfl ?_
     refine AA (x:=o) ab.at8 rfl ?_
     refine AA (x:=z) ab.at9 rfl ?_
     obtain ⟨u9,mg,a1⟩:=bS a1
     refine CV cr mg (Sub.trans (an.trans bu) ab.sub) ?_
     obtain ⟨ua,mh,a1⟩:=bS a1
     refine AI (Ct (p_0:=(e,k,f,i,m,o,())) ab.at2.at3.at1 mh) ?_
     rintro _ ub ⟨a3,t128,ct,rfl,rfl,bv⟩
     refine ⟨t128,rfl,?_⟩
     refine AL a1 rfl (fun _ a1=> ?_) (fun _ a1=> ?_)
     ·refine AA (x:=z) bv.at9 rfl ?_
      obtain ⟨ep,mi,a1⟩:=bS a1
      obtain ⟨uc,ud,mj,mk,ml,er⟩:=(cr.mono ((an.trans bu).trans ct)).get mi
      refine AF _ mj (Aa mk ?_)
      obtain rfl:=ml
      refine AG (x:=ep) (AE bv.sub (er 0 _ rfl)) rfl ?_
      obtain ⟨mm,ue,uf,ug,uh,ui,uj,es,mn⟩:=Ew bv.at2
      obtain rfl:r2=mm:=by simpa using es
      clear es
      refine AQ mn.at6 rfl rfl fun uk mo=> ?_
      refine AQ mo rfl rfl fun ul mp=> ?_
      refine AQ mp rfl rfl fun um mq=> ?_
      refine AQ mq rfl rfl fun un mr=> ?_
      refine AQ mr rfl rfl fun uo mu=> ?_
      refine AQ mu rfl rfl fun up ao=> ?_
      refine AO (AE ao.sub (er 0 _ rfl)) ?_
      refine AO (St.cell (b:=r106) (j:=1) ao.at15 rfl) ?_
      refine AA (x:=((none,0,0):Slc)) ao rfl ?_
      refine AA (x:=((none,0,0):Slc)) ao rfl ?_
      refine AA (x:=((none,0,0):Slc)) ao rfl ?_
      refine AA (x:=((none,0,0):Slc)) ao rfl ?_
      refine AA (x:=((none,0,0):Slc)) ao rfl ?_
      refine AA (x:=((none,0,0):Slc)) ao rfl ?_
      obtain rfl:=iS a1
      obtain rfl:=mf _ rfl
      try dsimp only at w
      obtain rfl:=iS w
      obtain rfl:=eg _ rfl
      try dsimp only at hd
      obtain rfl:=iS hd
      exact Af (Ah (Af (Ah (AB ⟨a3,((((none,0,0):Slc),((none,0,0):Slc),((none,0,0):Slc),((none,0,0):Slc),((none,0,0):Slc),((none,0,0):Slc),()),(16:Int),ep,()),([] :List ByteArray),([] :List ByteArray),([] :List BC),([] :List Int),([] :List Int),([] :List ByteArray),(((((((((p.trans u).trans aa).trans aj).trans ak).trans al).trans av).trans an).trans bu).trans ct),rfl,rfl,(Ro.SliceIs.nil Ro.str a3),(Ro.SliceIs.nil Ro.str a3),(Ro.SliceIs.nil CF a3),(Ro.SliceIs.nil (Ro.int .i64) a3),(Ro.SliceIs.nil (Ro.int .i64) a3),(Ro.SliceIs.nil Ro.str a3),ao.tail.tail.tail.tail.tail.tail.tail.tail.tail.tail.tail.tail.tail.tail.tail.tail.tail.tail⟩))))
     obtain ⟨mv,uq,eu,ur,mw⟩:=bv.at3.open
     obtain rfl:r115=mv:=by simpa using eu
     clear eu
     obtain ⟨us,ut,rfl,uu,mx⟩:=mw.at1.pair
     obtain ⟨my,mz⟩:=mx.ro
     subst my
     obtain ⟨uv,uw,rfl,ux,ev⟩:=mz.pair
     obtain ⟨cu,n0⟩:=ev.rowCs
     subst n0
     obtain ⟨n1,n2⟩:=ev.at1.ro
     subst n1
     have ew:St a3 (cR 3 (Ro.int .i64) cu a0.2.1::cW 65 r115 [.int .i64 (a0.1),sv cu, .int .i64 (a0.2.2)] ::cR 9 Ro.str e c.1::cR 9 Ro.str k c.2.1::cO 32 EU (some ⟨r2,0,none⟩) b7::cR 9 Ro.str o c.2.2.2.2.2::cR 3 (Ro.int .i64) m c.2.2.2.2.1::cR 3 (Ro.int .i64) i c.2.2.2.1::cR 65 CF f c.2.2.1::cW 32 r19 [sv e,sv k,sv f,sv i,sv m,sv o] ::cW 172 r106 [.string d.1,sv z, .string d.2.2.1, .string d.2.2.2] ::cR 65 CF a2 q.2.2.1::Wq1 r1 g_0::F) _:=n2
     refine AA (x:=cu) ew.at1 rfl ?_
     refine AY (vs:= [.int .i64 t128]) ew fun r139 uy ex=> ?_
     obtain ⟨bg,n3,a1⟩:=bS a1
     refine Aj (r:=(Ro.int .i64)) (ms:=([t128] :List Int)) ED ex.tail rfl (St.cells ex) (.cons (a:= [_]) rfl .nil) rfl n3 ?_
     intro t140 uz n4
     refine AQ n4.at1 rfl rfl fun v0 ey=> ?_
     refine AA (x:=e) ey.at9 rfl ?_
     have n5:=St.unro (r:=(Ro.int .i64)) (cs:= [.int .i64 (a0.1)]) (x:=(a0.1)) (St.unpair ((St.unro (r:=(Ro.int .i64)) (cs:= [.int .i64 (a0.2.2)]) (x:=(a0.2.2)) ey.at1 rfl).at1)) rfl
     have bw:St a3 (cO 65 Rq1 (some ⟨r115,0,none⟩) ((a0.1),bg,(a0.2.2))::cR 9 Ro.str e c.1::cR 9 Ro.str k c.2.1::cO 32 EU (some ⟨r2,0,none⟩) b7::cR 9 Ro.str o c.2.2.2.2.2::cR 3 (Ro.int .i64) m c.2.2.2.2.1::cR 3 (Ro.int .i64) i c.2.2.2.1::cR 65 CF f c.2.2.1::cW 32 r19 [sv e,sv k,sv f,sv i,sv m,sv o] ::cW 172 r106 [.string d.1,sv z, .string d.2.2.1, .string d.2.2.2] ::cR 65 CF a2 q.2.2.1::Wq1 r1 g_0::F) _:=St.shut (St.unpair n5).at1
     obtain ⟨n6,b2,a1⟩:=bS a1
     refine Ao (fun (y:Unit) w_ g=> ∃ψ:AC,∃ez:BC,Sub a3 ψ∧ez=g∧St ψ (cO 65 Rq1 (some ⟨r115,0,none⟩) ez::cR 9 Ro.str e c.1::cR 9 Ro.str k c.2.1::cO 32 EU (some ⟨r2,0,none⟩) b7::cR 9 Ro.str o c.2.2.2.2.2::cR 3 (Ro.int .i64) m c.2.2.2.2.1::cR 3 (Ro.int .i64) i c.2.2.2.1::cR 65 CF f c.2.2.1::cW 32 r19 [sv e,sv k,sv f,sv i,sv m,sv o] ::cW 172 r106 [.string d.1,sv z, .string d.2.2.1, .string d.2.2.2] ::cR 65 CF a2 q.2.2.1::Wq1 r1 g_0::F) w_) (g:=n6) ?_ ?_
     ·refine AL b2 (by rw [m2] <;>rfl) (fun _ b2=> ?_) (fun _ b2=> ?_)
      ·refine AA (x:=i) bw.at8 rfl ?_
       obtain ⟨bx,n7,b2⟩:=bS b2
       refine Is bw.at6 n7 ?_
       obtain ⟨n8,v1,f0,v2,n9⟩:=bw.open
       obtain rfl:r115=n8:=by simpa using f0
       clear f0
       obtain ⟨v3,v4,rfl,v5,na⟩:=n9.at1.pair
       obtain ⟨nb,nc⟩:=na.ro
       subst nb
       obtain ⟨v6,v7,rfl,v8,f1⟩:=nc.pair
       obtain ⟨f2,nd⟩:=f1.rowCs
       subst nd
       obtain ⟨nf,ng⟩:=f1.at1.ro
       subst nf
       have nh:St a3 (cR 3 (Ro.int .i64) f2 bg::cW 65 r115 [.int .i64 ((a0.1)),sv f2, .int .i64 ((a0.2.2))] ::cR 9 Ro.str e c.1::cR 9 Ro.str k c.2.1::cO 32 EU (some ⟨r2,0,none⟩) b7::cR 9 Ro.str o c.2.2.2.2.2::cR 3 (Ro.int .i64) m c.2.2.2.2.1::cR 3 (Ro.int .i64) i c.2.2.2.1::cR 65 CF f c.2.2.1::cW 32 r19 [sv e,sv k,sv f,sv i,sv m,sv o] ::cW 172 r106 [.string d.1,sv z, .string d.2.2.1, .string d.2.2.2] ::cR 65 CF a2 q.2.2.1::Wq1 r1 g_0::F) _:=ng
       refine AQ nh.at1 rfl rfl fun v9 ni=> ?_
       have nj:=St.unro (r:=(Ro.int .i64)) (cs:= [.int .i64 ((a0.1))]) (x:=((a0.1))) (St.unpair ((St.unro (r:=(Ro.int .i64)) (cs:= [.int .i64 bx]) (x:=bx) ni.at1 rfl).at1)) rfl
       have nk:St a3 (cO 65 Rq1 (some ⟨r115,0,none⟩) (((a0.1)),bg,bx)::cR 9 Ro.str e c.1::cR 9 Ro.str k c.2.1::cO 32 EU (some ⟨r2,0,none⟩) b7::cR 9 Ro.str o c.2.2.2.2.2::cR 3 (Ro.int .i64) m c.2.2.2.2.1::cR 3 (Ro.int .i64) i c.2.2.2.1::cR 65 CF f c.2.2.1::cW 32 r19 [sv e,sv k,sv f,sv i,sv m,sv o] ::cW 172 r106 [.string d.1,sv z, .string d.2.2.1, .string d.2.2.2] ::cR 65 CF a2 q.2.2.1::Wq1 r1 g_0::F) _:=St.shut (St.unpair nj).at1
       obtain rfl:=iS b2
       exact AS (()) rfl ⟨a3,(((a0.1)),bg,bx),(Sub.refl _),rfl,nk.at11.at11.at11.at11.at11.at11.at11.at11.at11.at11.at11.at11⟩
      obtain rfl:=iS b2
      exact AS (()) rfl ⟨a3,((a0.1),bg,(a0.2.2)),(Sub.refl _),rfl,bw.at11.at11.at11.at11.at11.at11.at11.at11.at11.at11.at11.at11⟩
     rintro z142 va ⟨nl,nm,nn,rfl,np⟩
     try dsimp only at a1
     obtain rfl:=iS a1
     exact Ag ((wN z117.1),z117.2.1,z117.2.2.1,()) _ rfl rfl ⟨nl,b7,nm,((bu.trans ct).trans nn),eo,rfl,np.at11.at11.at11.at11.at11.at11.at11.at11.at10.at10.at10.at11⟩
    ·rintro _ z117 vb _ ⟨nq,nr,ns,nt,rfl,rfl,f3⟩ nu nv
     subst nv
     refine AA (x:=z) f3.at9 rfl ?_
     refine AX (dF eh nu) ?_
     exact AJ (AK (z117.1,z117.2.1,z117.2.2.1,()) rfl ⟨nq,nr,ns,nt,rfl,f3.at11.at11.at11.at11.at11.at11.at11.at11.at11.at11.at11.at11⟩)
   rintro z116 vc ⟨f4,bz,ac,b8,rfl,ap⟩
   try dsimp only at w
   refine AA (x:=d.2.2.1) ap.at9 rfl ?_
   obtain ⟨nw,a7,w⟩:=bS w
   refine Ao (fun (y:ByteArray×Int×Unit) w_ g=> ∃ψ:AC,∃f5:BC,∃f6:Ay,Sub f4 ψ∧AU.next (f5,f6)=g∧St ψ (cO 65 Rq1 (some ⟨r115,0,none⟩) f5::cO 32 EU (some ⟨r2,0,none⟩) f6::cR 9 Ro.str e c.1::cR 9 Ro.str k c.2.1::cR 9 Ro.str o c.2.2.2.2.2::cR 3 (Ro.int .i64) m c.2.2.2.2.1::cR 3 (Ro.int .i64) i c.2.2.2.1::cR 65 CF f c.2.2.1::cW 32 r19 [sv e,sv k,sv f,sv i,sv m,sv o] ::cW 172 r106 [.string d.1,sv z, .string d.2.2.1, .string d.2.2.2] ::cR 65 CF a2 q.2.2.1::Wq1 r1 g_0::F) w_) (g:=nw) ?_ ?_
   ·refine AL a7 rfl (fun _ a7=> ?_) (fun _ a7=> ?_)
    ·refine AA (x:=g_0.1) ap.at11 rfl ?_
     refine AA (x:=g_0.2.1) ap.at11 rfl ?_
     refine AA (x:=g_0.2.2.1) ap.at11 rfl ?_
     refine AA (x:=g_0.2.2.2.1) ap.at11 rfl ?_
     refine AA (x:=g_0.2.2.2.2.1) ap.at11 rfl ?_
     refine AA (x:=d.2.2.1) ap.at9 rfl ?_
     obtain ⟨vd,nx,a7⟩:=bS a7
     refine AI (EY (g_0:=(g_0.1,g_0.2.1,g_0.2.2.1,g_0.2.2.2.1,g_0.2.2.2.2.1,())) (ar.mono ((((((((p.trans u).trans aa).trans aj).trans ak).trans al).trans av).trans an).trans b8)) (cb.mono ((((((((p.trans u).trans aa).trans aj).trans ak).trans al).trans av).trans an).trans b8)) (bc.mono ((((((((p.trans u).trans aa).trans aj).trans ak).trans al).trans av).trans an).trans b8)) (au.mono ((((((((p.trans u).trans aa).trans aj).trans ak).trans al).trans av).trans an).trans b8)) ap nx) ?_
     rintro _ ve ⟨ad,t154,f7,rfl,rfl,ny⟩
     refine ⟨t154,rfl,?_⟩
     obtain ⟨nz,vf,f8,vg,o0⟩:=ny.at1.open
     obtain rfl:r115=nz:=by simpa using f8
     clear f8
     obtain ⟨vh,vi,rfl,vj,o1⟩:=o0.at1.pair
     obtain ⟨o2,o3⟩:=o1.ro
     subst o2
     obtain ⟨vk,vl,rfl,vm,f9⟩:=o3.pair
     obtain ⟨fa,o4⟩:=f9.rowCs
     subst o4
     obtain ⟨o5,o6⟩:=f9.at1.ro
     subst o5
     have o7:St ad (cR 3 (Ro.int .i64) fa ac.2.1::cW 65 r115 [.int .i64 (ac.1),sv fa, .int .i64 (ac.2.2)] ::cO 32 EU (some ⟨r2,0,none⟩) bz::cR 9 Ro.str e c.1::cR 9 Ro.str k c.2.1::cR 9 Ro.str o c.2.2.2.2.2::cR 3 (Ro.int .i64) m c.2.2.2.2.1::cR 3 (Ro.int .i64) i c.2.2.2.1::cR 65 CF f c.2.2.1::cW 32 r19 [sv e,sv k,sv f,sv i,sv m,sv o] ::cW 172 r106 [.string d.1,sv z, .string d.2.2.1, .string d.2.2.2] ::cR 65 CF a2 q.2.2.1::Wq1 r1 g_0::F) _:=o6
     refine AQ o7.at1 rfl rfl fun vn c0=> ?_
     refine AA (x:=t154) c0 rfl ?_
     refine AL a7 rfl (fun _ a7=> ?_) (fun _ a7=> ?_)
     ·refine AA (x:=d.2.2.1) c0.at10 rfl ?_
      obtain ⟨o8,vo,vp,vq,vr,vt,vu,fb,o9⟩:=Ew c0.at2
      obtain rfl:r2=o8:=by simpa using fb
      clear fb
      refine AQ o9.at6 rfl rfl fun vv oa=> ?_
      refine AQ oa rfl rfl fun vw ob=> ?_
      refine AQ ob rfl rfl fun vx oc=> ?_
      refine AQ oc rfl rfl fun vy od=> ?_
      refine AQ od rfl rfl fun vz oe=> ?_
      refine AQ oe rfl rfl fun w0 aw=> ?_
      refine AO (St.cell (b:=r106) (j:=2) aw.at16 rfl) ?_
      refine AA (x:=((none,0,0):Slc)) aw rfl ?_
      refine AA (x:=((none,0,0):Slc)) aw rfl ?_
      refine AA (x:=((none,0,0):Slc)) aw rfl ?_
      refine AA (x:=((none,0,0):Slc)) aw rfl ?_
      refine AA (x:=((none,0,0):Slc)) aw rfl ?_
      refine AA (x:=((none,0,0):Slc)) aw rfl ?_
      obtain rfl:=iS a7
      try dsimp only at w
      obtain rfl:=iS w
      obtain rfl:=eg _ rfl
      try dsimp only at hd
      obtain rfl:=iS hd
      exact So (Af (Ah (AB ⟨ad,((((none,0,0):Slc),((none,0,0):Slc),((none,0,0):Slc),((none,0,0):Slc),((none,0,0):Slc),((none,0,0):Slc),()),(16:Int),d.2.2.1,()),([] :List ByteArray),([] :List ByteArray),([] :List BC),([] :List Int),([] :List Int),([] :List ByteArray),(((((((((p.trans u).trans aa).trans aj).trans ak).trans al).trans av).trans an).trans b8).trans f7),rfl,rfl,(Ro.SliceIs.nil Ro.str ad),(Ro.SliceIs.nil Ro.str ad),(Ro.SliceIs.nil CF ad),(Ro.SliceIs.nil (Ro.int .i64) ad),(Ro.SliceIs.nil (Ro.int .i64) ad),(Ro.SliceIs.nil Ro.str ad),aw.tail.tail.tail.tail.tail.tail.tail.tail.tail.tail.tail.tail.tail.tail.tail.tail.tail.tail.tail⟩)))
     have og:=St.unro (r:=(Ro.int .i64)) (cs:= [.int .i64 (ac.1)]) (x:=(ac.1)) (St.unpair ((St.unro (r:=(Ro.int .i64)) (cs:= [.int .i64 t154]) (x:=t154) c0.at1 rfl).at1)) rfl
     have oh:St ad (cO 65 Rq1 (some ⟨r115,0,none⟩) ((ac.1),ac.2.1,t154)::cO 32 EU (some ⟨r2,0,none⟩) bz::cR 9 Ro.str e c.1::cR 9 Ro.str k c.2.1::cR 9 Ro.str o c.2.2.2.2.2::cR 3 (Ro.int .i64) m c.2.2.2.2.1::cR 3 (Ro.int .i64) i c.2.2.2.1::cR 65 CF f c.2.2.1::cW 32 r19 [sv e,sv k,sv f,sv i,sv m,sv o] ::cW 172 r106 [.string d.1,sv z, .string d.2.2.1, .string d.2.2.2] ::cR 65 CF a2 q.2.2.1::Wq1 r1 g_0::F) _:=St.shut (St.unpair og).at1
     obtain rfl:=iS a7
     exact AS (z116.2.1,z116.2.2.1,()) rfl ⟨ad,((ac.1),ac.2.1,t154),bz,f7,rfl,oh.at11.at11.at11.at11.at11.at11.at11.at11.at11.at11.at11.at11⟩
    obtain rfl:=iS a7
    exact AS (z116.2.1,z116.2.2.1,()) rfl ⟨f4,ac,bz,(Sub.refl _),rfl,ap.at11.at11.at11.at11.at11.at11.at11.at11.at11.at11.at10.at11⟩
   rintro z147 w1 ⟨oi,ae,fc,oj,rfl,fd⟩
   try dsimp only at w
   refine AA (x:=f) fd.at8 rfl ?_
   obtain ⟨ok,w2,fe,w3,ol⟩:=fd.open
   obtain rfl:r115=ok:=by simpa using fe
   clear fe
   obtain ⟨w4,w5,rfl,w6,om⟩:=ol.at1.pair
   obtain ⟨on,oo⟩:=om.ro
   subst on
   obtain ⟨w7,w8,rfl,w9,ff⟩:=oo.pair
   obtain ⟨b9,op⟩:=ff.rowCs
   subst op
   obtain ⟨oq,os⟩:=ff.at1.ro
   subst oq
   have c1:St oi (cR 3 (Ro.int .i64) b9 ae.2.1::cW 65 r115 [.int .i64 (ae.1),sv b9, .int .i64 (ae.2.2)] ::cO 32 EU (some ⟨r2,0,none⟩) fc::cR 9 Ro.str e c.1::cR 9 Ro.str k c.2.1::cR 9 Ro.str o c.2.2.2.2.2::cR 3 (Ro.int .i64) m c.2.2.2.2.1::cR 3 (Ro.int .i64) i c.2.2.2.1::cR 65 CF f c.2.2.1::cW 32 r19 [sv e,sv k,sv f,sv i,sv m,sv o] ::cW 172 r106 [.string d.1,sv z, .string d.2.2.1, .string d.2.2.2] ::cR 65 CF a2 q.2.2.1::Wq1 r1 g_0::F) _:=os
   refine AA (x:=(ae.1)) c1.at1 rfl ?_
   refine AA (x:=b9) c1.at1 rfl ?_
   refine AA (x:=(ae.2.2)) c1.at1 rfl ?_
   refine AY (vs:= [.int .i64 (ae.1),sv b9, .int .i64 (ae.2.2)]) c1 fun r167 wa ot=> ?_
   obtain ⟨ou,ov,ow,fg⟩:=St.freezeRow (t:=b9) ot.at1
   obtain ⟨ox,oy,w⟩:=bS w
   refine Aj (r:=CF) (ms:=([((ae.1),ae.2.1,(ae.2.2))] :List BC)) QI fg.tail.at7 rfl (St.cells fg) (.cons (a:= [_,_,_]) ⟨[_],_,rfl,rfl,⟨[_],_,rfl,⟨b9,rfl,ow⟩,rfl⟩⟩ .nil) rfl oy ?_
   intro t168 wb oz
   refine AQ oz.at8 rfl rfl fun wc p0=> ?_
   obtain rfl:=iS w
   exact Ag ((wN z98.1),z147.1,z147.2.1,()) _ rfl rfl ⟨ou,fc,(c.1,c.2.1,ox,c.2.2.2.1,c.2.2.2.2.1,c.2.2.2.2.2),((((av.trans an).trans b8).trans oj).trans ov),ef,rfl,(((((((Hd p0.at4.at5.at3.at8.at8.at8.at6.at6.at6.at6.at6.at6.at6).at1.tail).at2.tail).at3).at3).at2).at3)⟩
  ·rintro _ z98 wd _ ⟨p1,p2,p3,p4,rfl,rfl,fh⟩ p5 p6
   subst p6
   refine AA (x:=g_0.2.2.2.2.1) fh.at3 rfl ?_
   refine AX (dF bj p5) ?_
   exact AJ (AK (z98.1,z98.2.1,z98.2.2.1,()) rfl ⟨p1,p2,p3,p4,rfl,fh.at3.at3.at3.at3⟩)
 rintro z97 we ⟨wf,wg,ba,fi,rfl,p7⟩
 try dsimp only at hd
 obtain ⟨p8,c2,bh,c3,c4,c5,c6,fj,cv⟩:=Ew p7.at1
 obtain rfl:r19=p8:=by simpa using fj
 clear fj
 refine AA (x:=bh) cv.at6 rfl ?_
 refine AA (x:=g_0.2.2.2.1) cv.at9 rfl ?_
 obtain ⟨wh,p9,hd⟩:=bS hd
 refine AI (Bc cv.at4 p9) ?_
 rintro _ wi ⟨b3,t171,fk,rfl,rfl,aq⟩
 refine ⟨t171,rfl,?_⟩
 refine AL hd rfl (fun _ hd=> ?_) (fun _ hd=> ?_)
 ·refine AA (x:=g_0.2.2.2.1) aq.at9 rfl ?_
  obtain ⟨pa,wj,wk,wl,wm,wn,wo,fl,pb⟩:=Ew aq.at7
  obtain rfl:r2=pa:=by simpa using fl
  clear fl
  refine AQ pb.at6 rfl rfl fun wp pc=> ?_
  refine AQ pc rfl rfl fun wq pd=> ?_
  refine AQ pd rfl rfl fun wr pe=> ?_
  refine AQ pe rfl rfl fun ws pf=> ?_
  refine AQ pf rfl rfl fun wt pg=> ?_
  refine AQ pg rfl rfl fun wu ax=> ?_
  refine AO (St.cell (b:=r1) (j:=3) ax.at15 rfl) ?_
  refine AA (x:=((none,0,0):Slc)) ax rfl ?_
  refine AA (x:=((none,0,0):Slc)) ax rfl ?_
  refine AA (x:=((none,0,0):Slc)) ax rfl ?_
  refine AA (x:=((none,0,0):Slc)) ax rfl ?_
  refine AA (x:=((none,0,0):Slc)) ax rfl ?_
  refine AA (x:=((none,0,0):Slc)) ax rfl ?_
  obtain rfl:=iS hd
  exact AB ⟨b3,((((none,0,0):Slc),((none,0,0):Slc),((none,0,0):Slc),((none,0,0):Slc),((none,0,0):Slc),((none,0,0):Slc),()),(16:Int),g_0.2.2.2.1,()),([] :List ByteArray),([] :List ByteArray),([] :List BC),([] :List Int),([] :List Int),([] :List ByteArray),(((((((p.trans u).trans aa).trans aj).trans ak).trans al).trans fi).trans fk),rfl,rfl,(Ro.SliceIs.nil Ro.str b3),(Ro.SliceIs.nil Ro.str b3),(Ro.SliceIs.nil CF b3),(Ro.SliceIs.nil (Ro.int .i64) b3),(Ro.SliceIs.nil (Ro.int .i64) b3),(Ro.SliceIs.nil Ro.str b3),ax.tail.tail.tail.tail.tail.tail.tail.tail.tail.tail.tail.tail.tail.tail.tail.tail⟩
 refine AA (x:=c2) aq.at6 rfl ?_
 refine AA (x:=bh) aq.at6 rfl ?_
 refine AA (x:=c3) aq.at6 rfl ?_
 refine AA (x:=c4) aq.at6 rfl ?_
 refine AA (x:=c5) aq.at6 rfl ?_
 refine AA (x:=c6) aq.at6 rfl ?_
 obtain ⟨ph,wv,ww,wx,wy,wz,x0,fm,pi⟩:=Ew aq.at7
 obtain rfl:r2=ph:=by simpa using fm
 clear fm
 refine AQ pi.at6 rfl rfl fun x1 pj=> ?_
 refine AQ pj rfl rfl fun x2 pk=> ?_
 refine AQ pk rfl rfl fun x3 pl=> ?_
 refine AQ pl rfl rfl fun x4 pm=> ?_
 refine AQ pm rfl rfl fun x5 pn=> ?_
 refine AQ pn rfl rfl fun x6 b4=> ?_
 refine AA (x:=c2) b4 rfl ?_
 refine AA (x:=bh) b4 rfl ?_
 refine AA (x:=c3) b4 rfl ?_
 refine AA (x:=c4) b4 rfl ?_
 refine AA (x:=c5) b4 rfl ?_
 refine AA (x:=c6) b4 rfl ?_
 obtain ⟨x7,po,pp,pq⟩:=St.freezeRow (t:=c2) b4.at12
 obtain ⟨x8,fn,pr,ps⟩:=St.freezeRow (t:=bh) pq.at7
 obtain ⟨x9,cw,pt,pu⟩:=St.freezeRow (t:=c3) ps.at10
 obtain ⟨xa,c7,pv,pw⟩:=St.freezeRow (t:=c4) pu.at9
 obtain ⟨xb,bi,px,py⟩:=St.freezeRow (t:=c5) pw.at8
 obtain ⟨pz,bb,q0,q1⟩:=St.freezeRow (t:=c6) py.at7
 obtain rfl:=iS hd
 exact AB ⟨pz,((c2,bh,c3,c4,c5,c6,()),(0:Int),{data:= #[] },()),ba.1,ba.2.1,ba.2.2.1,ba.2.2.2.1,ba.2.2.2.2.1,ba.2.2.2.2.2,(((((((((((((p.trans u).trans aa).trans aj).trans ak).trans al).trans fi).trans fk).trans po).trans fn).trans cw).trans c7).trans bi).trans bb),rfl,rfl,(pp.mono ((((fn.trans cw).trans c7).trans bi).trans bb)),(pr.mono (((cw.trans c7).trans bi).trans bb)),(pt.mono ((c7.trans bi).trans bb)),(pv.mono (bi.trans bb)),(px.mono bb),q0,q1.tail.tail.tail.tail.tail.tail.tail.tail.tail.tail⟩
noncomputable def Bh (s_0:KQ):Option (List ByteArray×List ByteArray×List BC×List Int×List Int×List ByteArray):=
 (BQ (s_0.1,s_0.2.1,s_0.2.2.1,s_0.2.2.2.1,s_0.2.2.2.2.1,s_0.2.2.2.2.2.1,s_0.2.2.2.2.2.2)).bind fun t10=>
 (Co (t10.1,t10.2.1,t10.2.2.1,t10.2.2.2.1,t10.2.2.2.2)).bind fun t11=>
 some (t11.1,t11.2.1,t11.2.2.1,t11.2.2.2.1,t11.2.2.2.2.1,t11.2.2.2.2.2.1)
theorem Fx {φ:AC} {h:AH} {F:List Chk} {s_0:Int×Int×Slc×Slc×Slc×Slc×Slc×Unit} {d:List Int} {e:List (List Int)} {f:List Int} {g:List Int} {i:List Int} (p:Ro.SliceIs (Ro.int .u8) φ s_0.2.2.1 d) (q:Ro.SliceIs (Ro.list (Ro.int .u8)) φ s_0.2.2.2.1 e) (s:Ro.SliceIs (Ro.int .u8) φ s_0.2.2.2.2.1 f) (t:Ro.SliceIs (Ro.int .u8) φ s_0.2.2.2.2.2.1 g) (u:Ro.SliceIs (Ro.int .u8) φ s_0.2.2.2.2.2.2.1 i) (s0:St φ (F) h) {r:(List ByteArray×List ByteArray×List BC×List Int×List Int×List ByteArray)} (hd:Bh (s_0.1,s_0.2.1,d,e,f,g,i)=some r):
 CallsH Tryz.prog 15 [(.agg #[(.int .u8 s_0.1),(.int .u8 s_0.2.1),(sv s_0.2.2.1),(sv s_0.2.2.2.1),(sv s_0.2.2.2.2.1),(sv s_0.2.2.2.2.2.1),(sv s_0.2.2.2.2.2.2.1)])] h (Ar fun v h'=> ∃ψ:AC,∃y:Pl6,∃j:List ByteArray,∃k:List ByteArray,∃l:List BC,∃m:List Int,∃n:List Int,∃o:List ByteArray,Sub φ ψ∧v=((.one (.agg [.slice, .slice, .slice, .slice, .slice, .slice])):Sh).val y∧(j,k,l,m,n,o)=r∧Ro.SliceIs Ro.str ψ y.1 j∧Ro.SliceIs Ro.str ψ y.2.1 k∧Ro.SliceIs CF ψ y.2.2.1 l∧Ro.SliceIs (Ro.int .i64) ψ y.2.2.2.1 m∧Ro.SliceIs (Ro.int .i64) ψ y.2.2.2.2.1 n∧Ro.SliceIs Ro.str ψ y.2.2.2.2.2.1 o∧St ψ (F) h'):=by
 refine AR mixed Tryz.func15 ?_
 rw [Fu]
 unfold Dm
 unfold Bh at hd
 refine AY (vs:= [.int .u8 s_0.1, .int .u8 s_0.2.1,sv s_0.2.2.1,sv s_0.2.2.2.1,sv s_0.2.2.2.2.1,sv s_0.2.2.2.2.2.1,sv s_0.2.2.2.2.2.2.1]) s0 fun r1 az w=> ?_
 refine AY (vs:= [.slice none 0 0, .slice none 0 0, .slice none 0 0, .slice none 0 0, .slice none 0 0, .slice none 0 0]) w fun r2 b0 a=> ?_
 refine AA (x:=s_0.1) a.at1 rfl ?_
 refine AA (x:=s_0.2.1) a.at1 rfl ?_
 refine AA (x:=s_0.2.2.1) a.at1 rfl ?_
 refine AA (x:=s_0.2.2.2.1) a.at1 rfl ?_
 refine AA (x:=s_0.2.2.2.2.1) a.at1 rfl ?_
 refine AA (x:=s_0.2.2.2.2.2.1) a.at1 rfl ?_
 refine AA (x:=s_0.2.2.2.2.2.2.1) a.at1 rfl ?_
 obtain ⟨b1,z,hd⟩:=bS hd
 refine AI (Ez (s_0:=(s_0.1,s_0.2.1,s_0.2.2.1,s_0.2.2.2.1,s_0.2.2.2.2.1,s_0.2.2.2.2.2.1,s_0.2.2.2.2.2.2.1,())) p q s t u a z) ?_
 rintro _ b2 ⟨b3,t10,b4,b5,b6,b7,a0,rfl,rfl,a1,a2,a3,a4,a5⟩
 refine ⟨t10,rfl,?_⟩
 try dsimp only at hd
 obtain ⟨b8,a6,hd⟩:=bS hd
 refine AI (Jw (g_0:=(t10.1,t10.2.1,t10.2.2.1,t10.2.2.2.1,t10.2.2.2.2.1,())) a1 a2 a3 a4 a5 a6) ?_
 rintro _ b9 ⟨a7,t11,a8,a9,aa,ab,ac,ad,ae,rfl,rfl,af,ag,ah,ai,aj,ak,al⟩
 refine ⟨t11,rfl,?_⟩
 try dsimp only at hd
 refine AY (vs:= [.slice none 0 0, .slice none 0 0, .slice none 0 0, .slice none 0 0, .slice none 0 0, .slice none 0 0]) al fun r12 ba am=> ?_
 refine AQ am rfl rfl fun bb an=> ?_
 refine AQ an rfl rfl fun bc ao=> ?_
 refine AQ ao rfl rfl fun bd ap=> ?_
 refine AQ ap rfl rfl fun be aq=> ?_
 refine AQ aq rfl rfl fun bf ar=> ?_
 refine AQ ar rfl rfl fun bg b=> ?_
 refine AA (x:=t11.1.1) b rfl ?_
 refine AA (x:=t11.1.2.1) b rfl ?_
 refine AA (x:=t11.1.2.2.1) b rfl ?_
 refine AA (x:=t11.1.2.2.2.1) b rfl ?_
 refine AA (x:=t11.1.2.2.2.2.1) b rfl ?_
 refine AA (x:=t11.1.2.2.2.2.2.1) b rfl ?_
 refine AQ b.at1 rfl rfl fun bh au=> ?_
 refine AQ au rfl rfl fun bi av=> ?_
 refine AQ av rfl rfl fun bj aw=> ?_
 refine AQ aw rfl rfl fun bk ax=> ?_
 refine AQ ax rfl rfl fun bl ay=> ?_
 refine AQ ay rfl rfl fun bm c=> ?_
 refine AA (x:=t11.1.1) c rfl ?_
 refine AA (x:=t11.1.2.1) c rfl ?_
 refine AA (x:=t11.1.2.2.1) c rfl ?_
 refine AA (x:=t11.1.2.2.2.1) c rfl ?_
 refine AA (x:=t11.1.2.2.2.2.1) c rfl ?_
 refine AA (x:=t11.1.2.2.2.2.2.1) c rfl ?_
 obtain rfl:=iS hd
 exact AB ⟨a7,(t11.1.1,t11.1.2.1,t11.1.2.2.1,t11.1.2.2.2.1,t11.1.2.2.2.2.1,t11.1.2.2.2.2.2.1,()),a8,a9,aa,ab,ac,ad,(a0.trans ae),rfl,rfl,af,ag,ah,ai,aj,ak,c.tail.tail.tail⟩
end Go.Proofs.YteolcjbobmpdiaaGreatDoor
namespace Go.Eng
open Go
theorem Cw {α:Type} (l:List α) (k:Nat):idx l (k:Int)=l[k]? :=by
 unfold idx
 rw [if_pos (by omega),Int.toNat_natCast]
theorem JZ {α:Type} {l:List α} {i:Int} (h0:0≤i) (h1:i.toNat<l.length):idx l i=some l[i.toNat] :=by
 unfold idx
 rw [if_pos h0,List.getElem?_eq_getElem h1]
theorem E0 {α:Type} {l:List α} {k:Nat} (h:k<l.length):idx l (k:Int)=some l[k] :=by
 rw [Cw,List.getElem?_eq_getElem h]
theorem QJ {α:Type} {l m:List α} (h:l.length+m.length≤1073741824):app l m=some (l++m):=by unfold app; rw [if_pos h]
theorem QK {α:Type} {l:List α} {a b:Int} (h0:0≤a) (h1:a≤b) (h2:b≤(l.length:Int)):cut l a b=some ((l.take b.toNat).drop a.toNat):=by unfold cut; rw [if_pos ⟨h0,h1,h2⟩]
theorem Gi {α:Type} {l:List α} {i:Int} {x:α} (h0:0≤i) (h1:i< (l.length:Int)):Dq l i x=some (l.set i.toNat x):=by unfold Dq; rw [if_pos ⟨h0,h1⟩]
theorem Ea {α:Type} {p:Prop} [Decidable p] (h:p) (k:Option α):need p k=k:=by unfold need; rw [if_pos h]
theorem QL {σ:Type} {f:Int→σ→Option σ} (I:Int→σ→Prop): ∀(n:Nat) (i:Int) (s:σ),I i s→(∀j s,i≤j→j<i+n→I j s→ ∃s',f j s=some s'∧I (j+1) s')→ ∃s',KO f n i s=some s'∧I (i+n) s':=by
 intro n
 induction n with
 | zero=>intro i s hI _; exact ⟨s,rfl,by simpa using hI⟩
 | succ n ih=>
  intro i s hI hs
  obtain ⟨s',h1,h2⟩:=hs i s (Int.le_refl _) (by omega) hI
  obtain ⟨s'',h3,h4⟩:=ih (i+1) s' h2 fun j s hj hj'=>hs j s (by omega) (by omega)
  refine ⟨s'',by simp only [KO]; rw [h1]; exact h3,?_⟩
  rw [show i+(n+1:Nat)=i+1+n by omega]
  exact h4
theorem CA {σ:Type} {f:Int→σ→Option σ} {n:Nat} (I:Nat→σ→Prop) (hn:n≤9223372036854775807) {s:σ} (h0:I 0 s) (hs: ∀k s,k<n→I k s→ ∃s',f (k:Int) s=some s'∧I (k+1) s'): ∃s',forS 0 (n:Int) s f=some s'∧I n s':=by
 unfold forS
 rw [if_pos ⟨by omega,by omega⟩]
 obtain ⟨s',h1,h2⟩:=QL (f:=f) (fun i s=>I i.toNat s) ((n:Int) - 0).toNat 0 s (by simpa using h0) fun j s hj hj' hI=>by
  obtain ⟨s',h1,h2⟩:=hs j.toNat s (by omega) hI
  refine ⟨s',by rw [← h1,show ((j.toNat:Nat):Int)=j by omega],by rw [show (j+1).toNat=j.toNat+1 by omega]; exact h2⟩
 refine ⟨s',h1,?_⟩
 have e:((0:Int) +(((n:Int) - 0).toNat:Nat)).toNat=n:=by omega
 rw [e] at h2
 exact h2
theorem Rz {σ β:Type} {f:Int→σ→Option (AU σ β)} (I:Int→σ→Prop) (B:β→Prop): ∀(n:Nat) (i:Int) (s:σ),I i s→(∀j s,i≤j→j<i+n→I j s→(∃s',f j s=some (.next s')∧I (j+1) s')∨ ∃b,f j s=some (.done b)∧B b)→
 (∃s',IC f n i s=some (.next s')∧I (i+n) s')∨ ∃b,IC f n i s=some (.done b)∧B b:=by
 intro n
 induction n with
 | zero=>intro i s hI _; exact .inl ⟨s,rfl,by simpa using hI⟩
 | succ n ih=>
  intro i s hI hs
  rcases hs i s (Int.le_refl _) (by omega) hI with ⟨s',h1,h2⟩ | ⟨b,h1,h2⟩
  ·rcases ih (i+1) s' h2 fun j s hj hj'=>hs j s (by omega) (by omega) with ⟨s'',h3,h4⟩ | ⟨b,h3,h4⟩
   ·left
    refine ⟨s'',by simp only [IC]; rw [h1]; exact h3,?_⟩
    rw [show i+(n+1:Nat)=i+1+n by omega]
    exact h4
   ·exact .inr ⟨b,by simp only [IC]; rw [h1]; exact h3,h4⟩
  ·exact .inr ⟨b,by simp only [IC]; rw [h1]; rfl,h2⟩
theorem Kt {σ β:Type} {f:Int→σ→Option (AU σ β)} {n:Nat} (I:Nat→σ→Prop) (B:β→Prop) (hn:n≤9223372036854775807) {s:σ} (h0:I 0 s)
 (hs: ∀k s,k<n→I k s→(∃s',f (k:Int) s=some (.next s')∧I (k+1) s')∨ ∃b,f (k:Int) s=some (.done b)∧B b):
 (∃s',Cf 0 (n:Int) s f=some (.next s')∧I n s')∨ ∃b,Cf 0 (n:Int) s f=some (.done b)∧B b:=by
 unfold Cf
 rw [if_pos ⟨by omega,by omega⟩]
 rcases Rz (fun i s=>I i.toNat s) B ((n:Int) - 0).toNat 0 s (by simpa using h0) (fun j s hj hj' hI=>by
  have e:((j.toNat:Nat):Int)=j:=by omega
  rcases hs j.toNat s (by omega) hI with ⟨s',h1,h2⟩ | ⟨b,h1,h2⟩
  ·exact .inl ⟨s',by rw [← h1,e],by rw [show (j+1).toNat=j.toNat+1 by omega]; exact h2⟩
  ·exact .inr ⟨b,by rw [← h1,e],h2⟩) with ⟨s',h1,h2⟩ | h
 ·left
  refine ⟨s',h1,?_⟩
  have e:((0:Int) +(((n:Int) - 0).toNat:Nat)).toNat=n:=by omega
  rw [e] at h2
  exact h2
 ·exact .inr h
theorem Su {σ β:Type} {f:Int→σ→Option (AU σ β)} {n:Nat} (I:Nat→σ→Prop) (hn:n≤9223372036854775807) {s:σ} (h0:I 0 s)
 (hs: ∀k s,k<n→I k s→ ∃s',f (k:Int) s=some (.next s')∧I (k+1) s'): ∃s',Cf 0 (n:Int) s f=some (.next s')∧I n s':=by
 rcases Kt I (fun _=>False) hn h0 (fun k s hk hI=> .inl (hs k s hk hI)) with h | ⟨_,_,h⟩
 ·exact h
 ·exact h.elim
theorem Sv {σ β:Type} {f:σ→Option (AU σ β)} (I:σ→Prop) (μ:σ→Nat) (B:β→Prop) (hs: ∀s,I s→(∃s',f s=some (.next s')∧I s'∧μ s'<μ s)∨ ∃b,f s=some (.done b)∧B b): ∀ {s:σ},I s→ ∃b,loop s f=some b∧B b:=by
 intro s
 generalize hm:μ s=m
 induction m using Nat.strongRecOn generalizing s with
 | ind m ih=>
  intro hI
  rw [OC]
  rcases hs s hI with ⟨s',h1,h2,h3⟩ | ⟨b,h1,h2⟩
  ·rw [h1]
   exact ih (μ s') (by omega) rfl h2
  ·rw [h1]
   exact ⟨b,rfl,h2⟩
def Ok {α:Type} (o:Option α) (P:α→Prop):Prop:= ∃x,o=some x∧P x
section
variable {α β γ σ:Type} {P:γ→Prop} {k:α→Option γ}
theorem Ok.eq {o:Option α} {x:α} (h:Ok o (· =x)):o=some x:=by obtain ⟨y,h1,h2⟩:=h; rw [h1]; exact congrArg some h2
theorem Ok.of {o:Option α} {x:α} {Q:α→Prop} (h:o=some x) (hq:Q x):Ok o Q:=⟨x,h,hq⟩
theorem Ok.mono {o:Option α} {Q R:α→Prop} (h:Ok o Q) (hq: ∀x,Q x→R x):Ok o R:=by obtain ⟨x,h1,h2⟩:=h; exact ⟨x,h1,hq x h2⟩
theorem AD {x:γ} (h:P x):Ok (some x) P:=⟨x,rfl,h⟩
theorem AM {o:Option α} {Q:α→Prop} (h:Ok o Q) (hk: ∀x,Q x→Ok (k x) P):Ok (o.bind k) P:=by
 obtain ⟨x,h1,h2⟩:=h
 rw [h1]
 exact hk x h2
theorem AN {o:Option α} {x:α} (h:o=some x) (hk:Ok (k x) P):Ok (o.bind k) P:=by rw [h]; exact hk
theorem Bg {p:Prop} {d:Decidable p} {o:Option γ} (h:p) (hk:Ok o P):Ok (@need γ p d o) P:=by
 have: @need γ p d o=o:=by unfold need; exact if_pos h
 rw [this]; exact hk
theorem Cp {c:Bool} {x y:Option γ} (h:c=true) (hk:Ok x P):Ok (cond c x y) P:=by subst h; exact hk
theorem An {c:Bool} {x y:Option γ} (h:c=false) (hk:Ok y P):Ok (cond c x y) P:=by subst h; exact hk
theorem Ac {c:Bool} {x y:Option γ} (h1:c=true→Ok x P) (h2:c=false→Ok y P):Ok (cond c x y) P:=by
 cases c with
 | true=>exact h1 rfl
 | false=>exact h2 rfl
theorem Dt {l:List α} {i:Int} {x:α} (h0:0≤i) (h:l[i.toNat]? =some x) (hk:Ok (k x) P):Ok ((idx l i).bind k) P:=by
 unfold idx
 rw [if_pos h0,h]
 exact hk
theorem AV {l:List α} {i:Nat} {x:α} (h:l[i]? =some x) (hk:Ok (k x) P):Ok ((idx l (i:Int)).bind k) P:=by
 rw [Cw,h]
 exact hk
theorem Bm {l m:List α} {k:List α→Option γ} (h:l.length+m.length≤1073741824) (hk:Ok (k (l++m)) P):Ok ((app l m).bind k) P:=by
 rw [QJ h]
 exact hk
theorem Hm {l:List α} {i:Int} {x:α} {k:List α→Option γ} (h0:0≤i) (h1:i< (l.length:Int)) (hk:Ok (k (l.set i.toNat x)) P):Ok ((Dq l i x).bind k) P:=by
 rw [Gi h0 h1]
 exact hk
theorem B5 {f:Int→σ→Option σ} {n:Nat} {s:σ} {k:σ→Option γ} (I:Nat→σ→Prop) (hn:n≤9223372036854775807) (h0:I 0 s) (hs: ∀j s,j<n→I j s→Ok (f (j:Int) s) (I (j+1))) (hk: ∀s',I n s'→Ok (k s') P):
 Ok ((forS 0 (n:Int) s f).bind k) P:=by
 obtain ⟨s',h1,h2⟩:=CA I hn h0 hs
 rw [h1]
 exact hk s' h2
theorem Eb {f:Int→σ→Option (AU σ β)} {n:Nat} {s:σ} {k:AU σ β→Option γ} (I:Nat→σ→Prop) (hn:n≤9223372036854775807) (h0:I 0 s) (hs: ∀j s,j<n→I j s→Ok (f (j:Int) s) (fun e=> ∃s',e= .next s'∧I (j+1) s')) (hk: ∀s',I n s'→Ok (k (.next s')) P):
 Ok ((Cf 0 (n:Int) s f).bind k) P:=by
 obtain ⟨s',h1,h2⟩:=Su I hn h0 (fun j s hj hI=>by
  obtain ⟨e,h1,s',rfl,h2⟩:=hs j s hj hI
  exact ⟨s',h1,h2⟩)
 rw [h1]
 exact hk s' h2
theorem HJ {f:Int→σ→Option (AU σ β)} {n:Nat} {s:σ} {k:AU σ β→Option γ} (I:Nat→σ→Prop) (B:β→Prop) (hn:n≤9223372036854775807) (h0:I 0 s) (hs: ∀j s,j<n→I j s→Ok (f (j:Int) s) (fun e=>(∃s',e= .next s'∧I (j+1) s')∨ ∃b,e= .done b∧B b))
 (hk: ∀s',I n s'→Ok (k (.next s')) P) (hb: ∀b,B b→Ok (k (.done b)) P):
 Ok ((Cf 0 (n:Int) s f).bind k) P:=by
 rcases Kt I B hn h0 (fun j s hj hI=>by
  obtain ⟨e,h1,h2⟩:=hs j s hj hI
  rcases h2 with ⟨s',rfl,h2⟩ | ⟨b,rfl,h2⟩
  ·exact .inl ⟨s',h1,h2⟩
  ·exact .inr ⟨b,h1,h2⟩) with ⟨s',h1,h2⟩ | ⟨b,h1,h2⟩
 ·rw [h1]; exact hk s' h2
 ·rw [h1]; exact hb b h2
theorem DL {f:σ→Option (AU σ β)} {s:σ} {k:β→Option γ} (I:σ→Prop) (μ:σ→Nat) (B:β→Prop) (h0:I s) (hs: ∀s,I s→Ok (f s) (fun e=>(∃s',e= .next s'∧I s'∧μ s'<μ s)∨ ∃b,e= .done b∧B b)) (hk: ∀b,B b→Ok (k b) P):
 Ok ((loop s f).bind k) P:=by
 obtain ⟨b,h1,h2⟩:=Sv I μ B (fun s hI=>by
  obtain ⟨e,h1,h2⟩:=hs s hI
  rcases h2 with ⟨s',rfl,h2⟩ | ⟨b,rfl,h2⟩
  ·exact .inl ⟨s',h1,h2⟩
  ·exact .inr ⟨b,h1,h2⟩) h0
 rw [h1]
 exact hk b h2
theorem E7 {s:σ} {Q:σ→Prop} (h:Q s):Ok (some (AU.next s:AU σ β)) (fun e=> ∃s',e= .next s'∧Q s'):=⟨_,rfl,s,rfl,h⟩
theorem CQ {s:σ} {Q:σ→Prop} {B:β→Prop} (h:Q s):Ok (some (AU.next s:AU σ β)) (fun e=>(∃s',e= .next s'∧Q s')∨ ∃b,e= .done b∧B b):=⟨_,rfl, .inl ⟨s,rfl,h⟩⟩
theorem Bs {b:β} {Q:σ→Prop} {B:β→Prop} (h:B b):Ok (some (AU.done b:AU σ β)) (fun e=>(∃s',e= .next s'∧Q s')∨ ∃b,e= .done b∧B b):=⟨_,rfl, .inr ⟨b,rfl,h⟩⟩
end
theorem Ku {α β γ:Type} {P:γ→Prop} {f:Int→Unit→Option (AU Unit β)} {k:AU Unit β→Option γ} (l:List α) (q:Nat→α→Bool) (d:Nat→α→β) (hl:l.length≤9223372036854775807)
 (hf: ∀(j:Nat) x,l[j]? =some x→f (j:Int) ()=some (if q j x then .done (d j x) else .next ()))
 (h1:(∀(j:Nat) x,l[j]? =some x→q j x=false)→Ok (k (.next ())) P) (h2: ∀(j:Nat) x,l[j]? =some x→q j x=true→(∀(i:Nat) y,i<j→l[i]? =some y→q i y=false)→Ok (k (.done (d j x))) P):
 Ok ((Cf (0:Int) ((l.length:Nat):Int) () f).bind k) P:=by
 refine HJ (fun i _=> ∀(j:Nat) y,j<i→l[j]? =some y→q j y=false) (fun b=> ∃(j:Nat) (x:α),l[j]? =some x∧q j x=true∧(∀(i:Nat) y,i<j→l[i]? =some y→q i y=false)∧b=d j x) hl (fun j y h=>by omega) (fun i _ hi hI=> ?_) (fun _ h=>h1 fun j x hx=>h j x (List.getElem?_eq_some_iff.1 hx).1 hx) (fun b ⟨j,x,g1,g2,g3,g4⟩=>by rw [g4]; exact h2 j x g1 g2 g3)
 have hx:=List.getElem?_eq_getElem hi
 rw [hf i _ hx]
 cases hq:q i l[i] with
 | true=>exact ⟨_,rfl, .inr ⟨_,rfl,i,_,hx,hq,hI,rfl⟩⟩
 | false=>
  refine ⟨_,rfl, .inl ⟨(),rfl,fun j y hj hy=> ?_⟩⟩
  rcases Nat.lt_succ_iff_lt_or_eq.1 hj with h | rfl
  ·exact hI j y h hy
  ·rw [hx] at hy; cases hy; exact hq
end Go.Eng
