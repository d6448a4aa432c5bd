import Derived.Test.YtaghpjmgnjkejaaEngI
import Derived.Test.YtaghpjmgnjkejaaProg
import Derived.KernelRfl
namespace Go.Proofs.Ytaghpjmgnjkejaa
open Go Go.Eng
set_option linter.unusedVariables false

/-- tronage/tronagelaw04.MailboxLooks -/
def tronagelaw04_MailboxLooks_T (room_0 : Int) (l_1_p : Option Addr) (l_1_n l_1_c : Nat) (often_2 : Int) : T :=
  T.call 8 [] (.one (.atom .bool)) fun (t1 : Bool) =>
  T.call 9 [(.int .i64 room_0)] (.one (.atom .pointer)) fun (t2 : Option Addr) =>
  T.join [(.atom .bool)]
  (cond (Option.isNone t2)
  (T.out [(.bool true)])
  (cond (decide (((l_1_n : Nat) : Int) > (70 : Int)))
  (T.out [(.bool true)])
  (T.out [(.bool (decide (often_2 > (10 : Int))))]))) fun (z3 : Bool × Unit) =>
  cond z3.1
  (T.join [(.atom .bool)]
  (cond t1
  (T.out [(.bool (!(Option.isNone t2)))])
  (T.out [(.bool false)])) fun (z4 : Bool × Unit) =>
  T.ret (.bool z4.1))
  (T.block 0 [(.atom (.int .i64)), (.atom .slice)]
  (T.loop [(.atom (.int .i64)), (.atom .slice)] [(.int .i64 (0 : Int)), (.slice none 0 0)] fun (z6 : Int × (Option Addr × Nat × Nat) × Unit) =>
  cond (decide (z6.1 < ((l_1_n : Nat) : Int)))
  (deref l_1_p fun a7 =>
  chk (0 ≤ z6.1 ∧ z6.1 < (l_1_n : Nat)) <|
  T.load .string (a7.add (Int.toNat z6.1 * 1)) fun (t8 : ByteArray) =>
  T.call 10 [(.pointer t2), (.string t8)] (.one (.atom .bool)) fun (t9 : Bool) =>
  T.join [(.atom .slice)]
  (cond t9
  (deref l_1_p fun a11 =>
  chk (0 ≤ z6.1 ∧ z6.1 < (l_1_n : Nat)) <|
  T.load .string (a11.add (Int.toNat z6.1 * 1)) fun (t12 : ByteArray) =>
  T.new (.cells #[(.string t12)] 9 (0, 0)) fun r13 =>
  T.sem (Builtin.append_ #[22, 22] 22 #[(.slice z6.2.1.1 z6.2.1.2.1 z6.2.1.2.2), (.slice (some ⟨r13, 0, none⟩) 1 1)]) (.one (.atom .slice)) fun (t14 : Option Addr × Nat × Nat) =>
  T.out [(.slice t14.1 t14.2.1 t14.2.2)])
  (T.out [(.slice z6.2.1.1 z6.2.1.2.1 z6.2.1.2.2)])) fun (z10 : (Option Addr × Nat × Nat) × Unit) =>
  T.out [(.int .i64 (IntKind.wrap .i64 (z6.1 + (1 : Int)))), (.slice z10.1.1 z10.1.2.1 z10.1.2.2)])
  (T.brk 0 [(.int .i64 z6.1), (.slice z6.2.1.1 z6.2.1.2.1 z6.2.1.2.2)])) fun (z5 : Int × (Option Addr × Nat × Nat) × Unit) =>
  T.block 2 [(.atom (.int .i64)), (.atom .bool)]
  (T.loop [(.atom (.int .i64)), (.atom .bool)] [(.int .i64 (0 : Int)), (.bool false)] fun (z16 : Int × Bool × Unit) =>
  cond (decide (z16.1 < often_2))
  (T.call 11 [(.pointer t2)] (.one (.atom .slice)) fun (t17 : Option Addr × Nat × Nat) =>
  T.join [(.atom .bool)]
  (cond (((t17.2.1 : Nat) : Int) != ((z5.2.1.2.1 : Nat) : Int))
  (T.out [(.bool true)])
  (T.call 12 [(.pointer t2)] (.one (.atom (.int .i64))) fun (t19 : Int) =>
  T.out [(.bool (t19 != ((z5.2.1.2.1 : Nat) : Int)))])) fun (z18 : Bool × Unit) =>
  cond z18.1
  (T.ret (.bool false))
  (T.out [(.int .i64 (IntKind.wrap .i64 (z16.1 + (1 : Int)))), (.bool z16.2.1)]))
  (T.brk 2 [(.int .i64 z16.1), (.bool z16.2.1)])) fun (z15 : Int × Bool × Unit) =>
  T.block 4 [(.atom (.int .i64)), (.atom .bool)]
  (T.loop [(.atom (.int .i64)), (.atom .bool)] [(.int .i64 (0 : Int)), (.bool z15.2.1)] fun (z21 : Int × Bool × Unit) =>
  cond (decide (z21.1 < ((z5.2.1.2.1 : Nat) : Int)))
  (T.call 13 [(.pointer t2)] (.tuple [(.atom .string), (.atom .bool)]) fun (t22 : ByteArray × Bool × Unit) =>
  T.join [(.atom .bool)]
  (cond (!t22.2.1)
  (T.out [(.bool true)])
  (deref z5.2.1.1 fun a24 =>
  chk (0 ≤ z21.1 ∧ z21.1 < (z5.2.1.2.1 : Nat)) <|
  T.load .string (a24.add (Int.toNat z21.1 * 1)) fun (t25 : ByteArray) =>
  T.out [(.bool (!(ByteArray.toList t22.1 == ByteArray.toList t25)))])) fun (z23 : Bool × Unit) =>
  cond z23.1
  (T.ret (.bool false))
  (T.out [(.int .i64 (IntKind.wrap .i64 (z21.1 + (1 : Int)))), (.bool z21.2.1)]))
  (T.brk 4 [(.int .i64 z21.1), (.bool z21.2.1)])) fun (z20 : Int × Bool × Unit) =>
  T.call 13 [(.pointer t2)] (.tuple [(.atom .string), (.atom .bool)]) fun (t26 : ByteArray × Bool × Unit) =>
  T.join [(.atom .bool)]
  (cond t1
  (T.out [(.bool (!t26.2.1))])
  (T.out [(.bool false)])) fun (z27 : Bool × Unit) =>
  T.ret (.bool z27.1))
theorem tronagelaw04_MailboxLooks_den (room_0 : Int) (l_1_p : Option Addr) (l_1_n l_1_c : Nat) (often_2 : Int) : denFun Try.prog Try.f3 [(.int .i64 room_0), (.slice l_1_p l_1_n l_1_c), (.int .i64 often_2)] = tronagelaw04_MailboxLooks_T room_0 l_1_p l_1_n l_1_c often_2 := by kernel_rfl

/-- tronage/tronagelaw04.MailboxOrder -/
def tronagelaw04_MailboxOrder_T (room_0 : Int) (l_1_p : Option Addr) (l_1_n l_1_c : Nat) : T :=
  T.call 8 [] (.one (.atom .bool)) fun (t1 : Bool) =>
  T.call 14 [(.int .i64 room_0)] (.one (.atom .pointer)) fun (t2 : Option Addr) =>
  T.join [(.atom .bool)]
  (cond (Option.isNone t2)
  (T.out [(.bool true)])
  (T.out [(.bool (decide (((l_1_n : Nat) : Int) > (200 : Int))))])) fun (z3 : Bool × Unit) =>
  cond z3.1
  (T.join [(.atom .bool)]
  (cond t1
  (T.out [(.bool (!(Option.isNone t2)))])
  (T.out [(.bool false)])) fun (z4 : Bool × Unit) =>
  T.ret (.bool z4.1))
  (T.block 0 [(.atom (.int .i64)), (.atom .slice), (.atom .slice), (.atom .bool)]
  (T.loop [(.atom (.int .i64)), (.atom .slice), (.atom .slice), (.atom .bool)] [(.int .i64 (0 : Int)), (.slice none 0 0), (.slice none 0 0), (.bool false)] fun (z6 : Int × (Option Addr × Nat × Nat) × (Option Addr × Nat × Nat) × Bool × Unit) =>
  cond (decide (z6.1 < ((l_1_n : Nat) : Int)))
  (deref l_1_p fun a7 =>
  chk (0 ≤ z6.1 ∧ z6.1 < (l_1_n : Nat)) <|
  T.load (.int .i64) (a7.add (Int.toNat z6.1 * 2)) fun (t8 : Int) =>
  T.join [(.atom .slice), (.atom .slice), (.atom .bool)]
  (cond (t8 == (1 : Int))
  (deref l_1_p fun a10 =>
  chk (0 ≤ z6.1 ∧ z6.1 < (l_1_n : Nat)) <|
  T.load (.int .i64) ((a10.add (Int.toNat z6.1 * 2)).add 1) fun (t11 : Int) =>
  T.call 15 [(.pointer t2), (.int .i64 t11)] (.one (.atom .bool)) fun (t12 : Bool) =>
  T.join [(.atom .slice)]
  (cond t12
  (deref l_1_p fun a14 =>
  chk (0 ≤ z6.1 ∧ z6.1 < (l_1_n : Nat)) <|
  T.load (.int .i64) ((a14.add (Int.toNat z6.1 * 2)).add 1) fun (t15 : Int) =>
  T.new (.cells #[(.int .i64 t15)] 3 (0, 0)) fun r16 =>
  T.sem (Builtin.append_ #[35, 35] 35 #[(.slice z6.2.2.1.1 z6.2.2.1.2.1 z6.2.2.1.2.2), (.slice (some ⟨r16, 0, none⟩) 1 1)]) (.one (.atom .slice)) fun (t17 : Option Addr × Nat × Nat) =>
  T.out [(.slice t17.1 t17.2.1 t17.2.2)])
  (T.out [(.slice z6.2.2.1.1 z6.2.2.1.2.1 z6.2.2.1.2.2)])) fun (z13 : (Option Addr × Nat × Nat) × Unit) =>
  T.join [(.atom .bool)]
  (T.call 16 [(.pointer t2)] (.one (.atom (.int .i64))) fun (t19 : Int) =>
  cond (!(t12 == (decide ((IntKind.wrap .i64 (((z13.1.2.1 : Nat) : Int) - ((z6.2.1.2.1 : Nat) : Int))) ≤ t19))))
  (T.out [(.bool t12)])
  (T.out [(.bool false)])) fun (z18 : Bool × Unit) =>
  cond z18.1
  (T.ret (.bool false))
  (T.out [(.slice z6.2.1.1 z6.2.1.2.1 z6.2.1.2.2), (.slice z13.1.1 z13.1.2.1 z13.1.2.2), (.bool z6.2.2.2.1)]))
  (T.join [(.atom .slice), (.atom .bool)]
  (cond (t8 == (2 : Int))
  (T.call 17 [(.pointer t2)] (.tuple [(.atom (.int .i64)), (.atom .bool)]) fun (t21 : Int × Bool × Unit) =>
  T.join [(.atom .slice)]
  (cond t21.2.1
  (T.new (.cells #[(.int .i64 t21.1)] 3 (0, 0)) fun r23 =>
  T.sem (Builtin.append_ #[35, 35] 35 #[(.slice z6.2.1.1 z6.2.1.2.1 z6.2.1.2.2), (.slice (some ⟨r23, 0, none⟩) 1 1)]) (.one (.atom .slice)) fun (t24 : Option Addr × Nat × Nat) =>
  T.out [(.slice t24.1 t24.2.1 t24.2.2)])
  (T.out [(.slice z6.2.1.1 z6.2.1.2.1 z6.2.1.2.2)])) fun (z22 : (Option Addr × Nat × Nat) × Unit) =>
  T.join [(.atom .bool)]
  (cond (!t21.2.1)
  (T.out [(.bool (((z6.2.2.1.2.1 : Nat) : Int) != ((z22.1.2.1 : Nat) : Int)))])
  (T.out [(.bool false)])) fun (z25 : Bool × Unit) =>
  cond z25.1
  (T.ret (.bool false))
  (T.out [(.slice z22.1.1 z22.1.2.1 z22.1.2.2), (.bool z6.2.2.2.1)]))
  (T.out [(.slice z6.2.1.1 z6.2.1.2.1 z6.2.1.2.2), (.bool z6.2.2.2.1)])) fun (z20 : (Option Addr × Nat × Nat) × Bool × Unit) =>
  T.out [(.slice z20.1.1 z20.1.2.1 z20.1.2.2), (.slice z6.2.2.1.1 z6.2.2.1.2.1 z6.2.2.1.2.2), (.bool z20.2.1)])) fun (z9 : (Option Addr × Nat × Nat) × (Option Addr × Nat × Nat) × Bool × Unit) =>
  T.join [(.atom .bool)]
  (T.call 18 [(.pointer t2)] (.one (.atom (.int .i64))) fun (t27 : Int) =>
  cond (t27 != (IntKind.wrap .i64 (((z9.2.1.2.1 : Nat) : Int) - ((z9.1.2.1 : Nat) : Int))))
  (T.out [(.bool true)])
  (T.call 18 [(.pointer t2)] (.one (.atom (.int .i64))) fun (t28 : Int) =>
  T.call 16 [(.pointer t2)] (.one (.atom (.int .i64))) fun (t29 : Int) =>
  T.out [(.bool (decide (t28 > t29)))])) fun (z26 : Bool × Unit) =>
  cond z26.1
  (T.ret (.bool false))
  (T.out [(.int .i64 (IntKind.wrap .i64 (z6.1 + (1 : Int)))), (.slice z9.1.1 z9.1.2.1 z9.1.2.2), (.slice z9.2.1.1 z9.2.1.2.1 z9.2.1.2.2), (.bool z9.2.2.1)]))
  (T.brk 0 [(.int .i64 z6.1), (.slice z6.2.1.1 z6.2.1.2.1 z6.2.1.2.2), (.slice z6.2.2.1.1 z6.2.2.1.2.1 z6.2.2.1.2.2), (.bool z6.2.2.2.1)])) fun (z5 : Int × (Option Addr × Nat × Nat) × (Option Addr × Nat × Nat) × Bool × Unit) =>
  T.join [(.atom .bool)]
  (cond t1
  (T.new (.cells #[] 3 (0, 0)) fun r31 =>
  T.sem (Builtin.append_ #[35, 35] 35 #[(.slice (some ⟨r31, 0, none⟩) 0 0), (.slice z5.2.1.1 z5.2.1.2.1 z5.2.1.2.2)]) (.one (.atom .slice)) fun (t32 : Option Addr × Nat × Nat) =>
  T.call 20 [(.pointer t2)] (.one (.atom .slice)) fun (t33 : Option Addr × Nat × Nat) =>
  T.sem (Builtin.append_ #[35, 35] 35 #[(.slice t32.1 t32.2.1 t32.2.2), (.slice t33.1 t33.2.1 t33.2.2)]) (.one (.atom .slice)) fun (t34 : Option Addr × Nat × Nat) =>
  T.call 19 [(.slice z5.2.2.1.1 z5.2.2.1.2.1 z5.2.2.1.2.2), (.slice t34.1 t34.2.1 t34.2.2)] (.one (.atom .bool)) fun (t35 : Bool) =>
  T.out [(.bool t35)])
  (T.out [(.bool false)])) fun (z30 : Bool × Unit) =>
  T.ret (.bool z30.1))
theorem tronagelaw04_MailboxOrder_den (room_0 : Int) (l_1_p : Option Addr) (l_1_n l_1_c : Nat) : denFun Try.prog Try.f4 [(.int .i64 room_0), (.slice l_1_p l_1_n l_1_c)] = tronagelaw04_MailboxOrder_T room_0 l_1_p l_1_n l_1_c := by kernel_rfl

/-- tronage/tronagelaw04.MailboxRoom -/
def tronagelaw04_MailboxRoom_T (room_0 : Int) (many_1 : Int) (polls_2 : Int) (more_3 : Int) : T :=
  T.call 8 [] (.one (.atom .bool)) fun (t1 : Bool) =>
  T.call 14 [(.int .i64 room_0)] (.one (.atom .pointer)) fun (t2 : Option Addr) =>
  T.join [(.atom .bool)]
  (cond (Option.isNone t2)
  (T.out [(.bool true)])
  (cond (decide (many_1 > (100 : Int)))
  (T.out [(.bool true)])
  (cond (decide (polls_2 > (100 : Int)))
  (T.out [(.bool true)])
  (T.out [(.bool (decide (more_3 > (100 : Int))))])))) fun (z3 : Bool × Unit) =>
  cond z3.1
  (T.join [(.atom .bool)]
  (cond t1
  (T.out [(.bool (!(Option.isNone t2)))])
  (T.out [(.bool false)])) fun (z4 : Bool × Unit) =>
  T.ret (.bool z4.1))
  (T.block 0 [(.atom (.int .i64)), (.atom (.int .i64)), (.atom .bool)]
  (T.loop [(.atom (.int .i64)), (.atom (.int .i64)), (.atom .bool)] [(.int .i64 (0 : Int)), (.int .i64 (0 : Int)), (.bool false)] fun (z6 : Int × Int × Bool × Unit) =>
  cond (decide (z6.1 < many_1))
  (T.call 15 [(.pointer t2), (.int .i64 z6.1)] (.one (.atom .bool)) fun (t7 : Bool) =>
  T.call 16 [(.pointer t2)] (.one (.atom (.int .i64))) fun (t8 : Int) =>
  cond (!(t7 == (decide (z6.2.1 < t8))))
  (T.ret (.bool false))
  (T.join [(.atom (.int .i64))]
  (cond t7
  (T.out [(.int .i64 (IntKind.wrap .i64 (z6.2.1 + (1 : Int))))])
  (T.out [(.int .i64 z6.2.1)])) fun (z9 : Int × Unit) =>
  T.out [(.int .i64 (IntKind.wrap .i64 (z6.1 + (1 : Int)))), (.int .i64 z9.1), (.bool z6.2.2.1)]))
  (T.brk 0 [(.int .i64 z6.1), (.int .i64 z6.2.1), (.bool z6.2.2.1)])) fun (z5 : Int × Int × Bool × Unit) =>
  T.block 2 [(.atom (.int .i64)), (.atom (.int .i64)), (.atom .bool)]
  (T.loop [(.atom (.int .i64)), (.atom (.int .i64)), (.atom .bool)] [(.int .i64 (0 : Int)), (.int .i64 z5.2.1), (.bool z5.2.2.1)] fun (z11 : Int × Int × Bool × Unit) =>
  cond (decide (z11.1 < polls_2))
  (T.call 17 [(.pointer t2)] (.tuple [(.atom (.int .i64)), (.atom .bool)]) fun (t12 : Int × Bool × Unit) =>
  cond (!(t12.2.1 == (decide (z11.2.1 > (0 : Int)))))
  (T.ret (.bool false))
  (T.join [(.atom (.int .i64))]
  (cond t12.2.1
  (T.out [(.int .i64 (IntKind.wrap .i64 (z11.2.1 - (1 : Int))))])
  (T.out [(.int .i64 z11.2.1)])) fun (z13 : Int × Unit) =>
  T.out [(.int .i64 (IntKind.wrap .i64 (z11.1 + (1 : Int)))), (.int .i64 z13.1), (.bool z11.2.2.1)]))
  (T.brk 2 [(.int .i64 z11.1), (.int .i64 z11.2.1), (.bool z11.2.2.1)])) fun (z10 : Int × Int × Bool × Unit) =>
  T.block 4 [(.atom (.int .i64)), (.atom (.int .i64)), (.atom .bool)]
  (T.loop [(.atom (.int .i64)), (.atom (.int .i64)), (.atom .bool)] [(.int .i64 (0 : Int)), (.int .i64 z10.2.1), (.bool z10.2.2.1)] fun (z15 : Int × Int × Bool × Unit) =>
  cond (decide (z15.1 < more_3))
  (T.call 15 [(.pointer t2), (.int .i64 (IntKind.wrap .i64 ((1000 : Int) + z15.1)))] (.one (.atom .bool)) fun (t16 : Bool) =>
  T.call 16 [(.pointer t2)] (.one (.atom (.int .i64))) fun (t17 : Int) =>
  cond (!(t16 == (decide (z15.2.1 < t17))))
  (T.ret (.bool false))
  (T.join [(.atom (.int .i64))]
  (cond t16
  (T.out [(.int .i64 (IntKind.wrap .i64 (z15.2.1 + (1 : Int))))])
  (T.out [(.int .i64 z15.2.1)])) fun (z18 : Int × Unit) =>
  T.out [(.int .i64 (IntKind.wrap .i64 (z15.1 + (1 : Int)))), (.int .i64 z18.1), (.bool z15.2.2.1)]))
  (T.brk 4 [(.int .i64 z15.1), (.int .i64 z15.2.1), (.bool z15.2.2.1)])) fun (z14 : Int × Int × Bool × Unit) =>
  T.join [(.atom .bool)]
  (cond t1
  (T.call 18 [(.pointer t2)] (.one (.atom (.int .i64))) fun (t20 : Int) =>
  cond (t20 == z14.2.1)
  (T.call 16 [(.pointer t2)] (.one (.atom (.int .i64))) fun (t21 : Int) =>
  cond (decide (t21 ≥ (1 : Int)))
  (T.call 16 [(.pointer t2)] (.one (.atom (.int .i64))) fun (t22 : Int) =>
  cond (decide (t22 ≤ (64 : Int)))
  (cond (decide (room_0 < (1 : Int)))
  (T.out [(.bool true)])
  (cond (decide (room_0 > (64 : Int)))
  (T.out [(.bool true)])
  (T.call 16 [(.pointer t2)] (.one (.atom (.int .i64))) fun (t23 : Int) =>
  T.out [(.bool (t23 == room_0))])))
  (T.out [(.bool false)]))
  (T.out [(.bool false)]))
  (T.out [(.bool false)]))
  (T.out [(.bool false)])) fun (z19 : Bool × Unit) =>
  T.ret (.bool z19.1))
theorem tronagelaw04_MailboxRoom_den (room_0 : Int) (many_1 : Int) (polls_2 : Int) (more_3 : Int) : denFun Try.prog Try.f5 [(.int .i64 room_0), (.int .i64 many_1), (.int .i64 polls_2), (.int .i64 more_3)] = tronagelaw04_MailboxRoom_T room_0 many_1 polls_2 more_3 := by kernel_rfl

/-- tronage/tronagelaw04.MailboxPlays -/
def tronagelaw04_MailboxPlays_T (room_0 : Int) (other_1 : Int) (l_2_p : Option Addr) (l_2_n l_2_c : Nat) : T :=
  T.call 8 [] (.one (.atom .bool)) fun (t1 : Bool) =>
  T.call 14 [(.int .i64 room_0)] (.one (.atom .pointer)) fun (t2 : Option Addr) =>
  T.call 14 [(.int .i64 other_1)] (.one (.atom .pointer)) fun (t3 : Option Addr) =>
  T.call 21 [(.int .i64 room_0)] (.one (.atom .pointer)) fun (t4 : Option Addr) =>
  T.call 21 [(.int .i64 other_1)] (.one (.atom .pointer)) fun (t5 : Option Addr) =>
  T.join [(.atom .bool)]
  (cond (Option.isNone t2)
  (T.out [(.bool true)])
  (cond (Option.isNone t3)
  (T.out [(.bool true)])
  (T.out [(.bool (decide (((l_2_n : Nat) : Int) > (200 : Int))))]))) fun (z6 : Bool × Unit) =>
  cond z6.1
  (T.join [(.atom .bool)]
  (cond t1
  (cond (!(Option.isNone t2))
  (T.out [(.bool (!(Option.isNone t3)))])
  (T.out [(.bool false)]))
  (T.out [(.bool false)])) fun (z7 : Bool × Unit) =>
  T.ret (.bool z7.1))
  (T.block 0 [(.atom (.int .i64)), (.atom .bool)]
  (T.loop [(.atom (.int .i64)), (.atom .bool)] [(.int .i64 (0 : Int)), (.bool false)] fun (z9 : Int × Bool × Unit) =>
  cond (decide (z9.1 < ((l_2_n : Nat) : Int)))
  (deref l_2_p fun a10 =>
  chk (0 ≤ z9.1 ∧ z9.1 < (l_2_n : Nat)) <|
  T.load (.int .i64) (a10.add (Int.toNat z9.1 * 2)) fun (t11 : Int) =>
  T.join [(.atom .bool)]
  (cond (t11 == (1 : Int))
  (deref l_2_p fun a13 =>
  chk (0 ≤ z9.1 ∧ z9.1 < (l_2_n : Nat)) <|
  T.load (.int .i64) ((a13.add (Int.toNat z9.1 * 2)).add 1) fun (t14 : Int) =>
  deref l_2_p fun a15 =>
  chk (0 ≤ z9.1 ∧ z9.1 < (l_2_n : Nat)) <|
  T.load (.int .i64) ((a15.add (Int.toNat z9.1 * 2)).add 1) fun (t16 : Int) =>
  T.call 15 [(.pointer t2), (.int .i64 t14)] (.one (.atom .bool)) fun (t17 : Bool) =>
  T.still ((a15.add (Int.toNat z9.1 * 2)).add 1) (.int .i64 t16) <|
  T.call 22 [(.pointer t4), (.int .i64 t16)] (.one (.atom .bool)) fun (t18 : Bool) =>
  T.out [(.bool (t17 == t18))])
  (T.join [(.atom .bool)]
  (cond (t11 == (2 : Int))
  (T.call 17 [(.pointer t2)] (.tuple [(.atom (.int .i64)), (.atom .bool)]) fun (t20 : Int × Bool × Unit) =>
  T.call 23 [(.pointer t4)] (.tuple [(.atom (.int .i64)), (.atom .bool)]) fun (t21 : Int × Bool × Unit) =>
  T.join [(.atom .bool)]
  (cond (t20.1 == t21.1)
  (T.out [(.bool (t20.2.1 == t21.2.1))])
  (T.out [(.bool false)])) fun (z22 : Bool × Unit) =>
  T.out [(.bool z22.1)])
  (T.join [(.atom .bool)]
  (cond (t11 == (3 : Int))
  (deref t4 fun a24 =>
  T.load .slice (a24.add 1) fun (t25 : Option Addr × Nat × Nat) =>
  T.call 20 [(.pointer t2)] (.one (.atom .slice)) fun (t26 : Option Addr × Nat × Nat) =>
  T.still (a24.add 1) (.slice t25.1 t25.2.1 t25.2.2) <|
  T.call 19 [(.slice t26.1 t26.2.1 t26.2.2), (.slice t25.1 t25.2.1 t25.2.2)] (.one (.atom .bool)) fun (t27 : Bool) =>
  T.out [(.bool t27)])
  (T.join [(.atom .bool)]
  (cond (t11 == (4 : Int))
  (T.call 24 [(.pointer t2), (.pointer t3)] (.one (.atom (.int .i64))) fun (t29 : Int) =>
  T.call 25 [(.pointer t4), (.pointer t5)] (.one (.atom (.int .i64))) fun (t30 : Int) =>
  T.out [(.bool (t29 == t30))])
  (T.join [(.atom .bool)]
  (cond (t11 == (5 : Int))
  (T.call 24 [(.pointer t3), (.pointer t2)] (.one (.atom (.int .i64))) fun (t32 : Int) =>
  T.call 25 [(.pointer t5), (.pointer t4)] (.one (.atom (.int .i64))) fun (t33 : Int) =>
  T.out [(.bool (t32 == t33))])
  (T.out [(.bool true)])) fun (z31 : Bool × Unit) =>
  T.out [(.bool z31.1)])) fun (z28 : Bool × Unit) =>
  T.out [(.bool z28.1)])) fun (z23 : Bool × Unit) =>
  T.out [(.bool z23.1)])) fun (z19 : Bool × Unit) =>
  T.out [(.bool z19.1)])) fun (z12 : Bool × Unit) =>
  T.call 20 [(.pointer t2)] (.one (.atom .slice)) fun (t34 : Option Addr × Nat × Nat) =>
  T.call 20 [(.pointer t3)] (.one (.atom .slice)) fun (t35 : Option Addr × Nat × Nat) =>
  T.call 18 [(.pointer t2)] (.one (.atom (.int .i64))) fun (t36 : Int) =>
  T.call 16 [(.pointer t2)] (.one (.atom (.int .i64))) fun (t37 : Int) =>
  T.join [(.atom .bool)]
  (cond (!z12.1)
  (T.out [(.bool true)])
  (deref t4 fun a39 =>
  T.load .slice (a39.add 1) fun (t40 : Option Addr × Nat × Nat) =>
  T.call 19 [(.slice t34.1 t34.2.1 t34.2.2), (.slice t40.1 t40.2.1 t40.2.2)] (.one (.atom .bool)) fun (t41 : Bool) =>
  cond (!t41)
  (T.out [(.bool true)])
  (deref t5 fun a42 =>
  T.load .slice (a42.add 1) fun (t43 : Option Addr × Nat × Nat) =>
  T.call 19 [(.slice t35.1 t35.2.1 t35.2.2), (.slice t43.1 t43.2.1 t43.2.2)] (.one (.atom .bool)) fun (t44 : Bool) =>
  cond (!t44)
  (T.out [(.bool true)])
  (deref t4 fun a45 =>
  T.load .slice (a45.add 1) fun (t46 : Option Addr × Nat × Nat) =>
  cond (t36 != ((t46.2.1 : Nat) : Int))
  (T.out [(.bool true)])
  (deref t4 fun a47 =>
  T.load (.int .i64) a47 fun (t48 : Int) =>
  T.out [(.bool (t37 != t48))]))))) fun (z38 : Bool × Unit) =>
  cond z38.1
  (T.ret (.bool false))
  (T.out [(.int .i64 (IntKind.wrap .i64 (z9.1 + (1 : Int)))), (.bool z9.2.1)]))
  (T.brk 0 [(.int .i64 z9.1), (.bool z9.2.1)])) fun (z8 : Int × Bool × Unit) =>
  T.ret (.bool t1))
theorem tronagelaw04_MailboxPlays_den (room_0 : Int) (other_1 : Int) (l_2_p : Option Addr) (l_2_n l_2_c : Nat) : denFun Try.prog Try.f6 [(.int .i64 room_0), (.int .i64 other_1), (.slice l_2_p l_2_n l_2_c)] = tronagelaw04_MailboxPlays_T room_0 other_1 l_2_p l_2_n l_2_c := by kernel_rfl

/-- tronage/tronagelaw04.MailboxMoves -/
def tronagelaw04_MailboxMoves_T (room_0 : Int) (other_1 : Int) (a_2_p : Option Addr) (a_2_n a_2_c : Nat) (c_3_p : Option Addr) (c_3_n c_3_c : Nat) : T :=
  T.call 8 [] (.one (.atom .bool)) fun (t1 : Bool) =>
  T.call 14 [(.int .i64 room_0)] (.one (.atom .pointer)) fun (t2 : Option Addr) =>
  T.call 14 [(.int .i64 other_1)] (.one (.atom .pointer)) fun (t3 : Option Addr) =>
  T.join [(.atom .bool)]
  (cond (Option.isNone t2)
  (T.out [(.bool true)])
  (cond (Option.isNone t3)
  (T.out [(.bool true)])
  (cond (decide (((a_2_n : Nat) : Int) > (70 : Int)))
  (T.out [(.bool true)])
  (T.out [(.bool (decide (((c_3_n : Nat) : Int) > (70 : Int))))])))) fun (z4 : Bool × Unit) =>
  cond z4.1
  (T.join [(.atom .bool)]
  (cond t1
  (cond (!(Option.isNone t2))
  (T.out [(.bool (!(Option.isNone t3)))])
  (T.out [(.bool false)]))
  (T.out [(.bool false)])) fun (z5 : Bool × Unit) =>
  T.ret (.bool z5.1))
  (T.block 0 [(.atom (.int .i64))]
  (T.loop [(.atom (.int .i64))] [(.int .i64 (0 : Int))] fun (z7 : Int × Unit) =>
  cond (decide (z7.1 < ((a_2_n : Nat) : Int)))
  (deref a_2_p fun a8 =>
  chk (0 ≤ z7.1 ∧ z7.1 < (a_2_n : Nat)) <|
  T.load (.int .i64) (a8.add (Int.toNat z7.1 * 1)) fun (t9 : Int) =>
  T.call 15 [(.pointer t2), (.int .i64 t9)] (.one (.atom .bool)) fun (t10 : Bool) =>
  T.out [(.int .i64 (IntKind.wrap .i64 (z7.1 + (1 : Int))))])
  (T.brk 0 [(.int .i64 z7.1)])) fun (z6 : Int × Unit) =>
  T.block 2 [(.atom (.int .i64))]
  (T.loop [(.atom (.int .i64))] [(.int .i64 (0 : Int))] fun (z12 : Int × Unit) =>
  cond (decide (z12.1 < ((c_3_n : Nat) : Int)))
  (deref c_3_p fun a13 =>
  chk (0 ≤ z12.1 ∧ z12.1 < (c_3_n : Nat)) <|
  T.load (.int .i64) (a13.add (Int.toNat z12.1 * 1)) fun (t14 : Int) =>
  T.call 15 [(.pointer t3), (.int .i64 t14)] (.one (.atom .bool)) fun (t15 : Bool) =>
  T.out [(.int .i64 (IntKind.wrap .i64 (z12.1 + (1 : Int))))])
  (T.brk 2 [(.int .i64 z12.1)])) fun (z11 : Int × Unit) =>
  T.call 20 [(.pointer t2)] (.one (.atom .slice)) fun (t16 : Option Addr × Nat × Nat) =>
  T.call 20 [(.pointer t3)] (.one (.atom .slice)) fun (t17 : Option Addr × Nat × Nat) =>
  T.call 24 [(.pointer t2), (.pointer t3)] (.one (.atom (.int .i64))) fun (t18 : Int) =>
  T.join [(.atom .bool)]
  (cond (decide (t18 < (0 : Int)))
  (T.out [(.bool true)])
  (T.out [(.bool (decide (t18 > ((t16.2.1 : Nat) : Int))))])) fun (z19 : Bool × Unit) =>
  cond z19.1
  (T.ret (.bool false))
  (T.call 20 [(.pointer t2)] (.one (.atom .slice)) fun (t20 : Option Addr × Nat × Nat) =>
  T.call 20 [(.pointer t3)] (.one (.atom .slice)) fun (t21 : Option Addr × Nat × Nat) =>
  T.join [(.atom .bool)]
  (cond t1
  (T.call 16 [(.pointer t3)] (.one (.atom (.int .i64))) fun (t23 : Int) =>
  cond (t18 == (if (IntKind.wrap .i64 (t23 - ((t17.2.1 : Nat) : Int))) < ((t16.2.1 : Nat) : Int) then (IntKind.wrap .i64 (t23 - ((t17.2.1 : Nat) : Int))) else ((t16.2.1 : Nat) : Int)))
  (chk (0 ≤ t18 ∧ t18 ≤ ((t16.2.1 : Nat) : Int) ∧ ((t16.2.1 : Nat) : Int) ≤ (t16.2.2 : Nat)) <|
  T.call 19 [(.slice t20.1 t20.2.1 t20.2.2), (.slice (if t16.2.2 = Int.toNat t18 then t16.1 else Option.map (fun x => Addr.add x (Int.toNat t18 * 1)) t16.1) (Int.toNat ((t16.2.1 : Nat) : Int) - Int.toNat t18) (t16.2.2 - Int.toNat t18))] (.one (.atom .bool)) fun (t24 : Bool) =>
  cond t24
  (chk (0 ≤ (0 : Int) ∧ (0 : Int) ≤ t18 ∧ t18 ≤ (t16.2.2 : Nat)) <|
  T.new (.cells #[] 3 (0, 0)) fun r25 =>
  T.sem (Builtin.append_ #[35, 35] 35 #[(.slice (some ⟨r25, 0, none⟩) 0 0), (.slice t17.1 t17.2.1 t17.2.2)]) (.one (.atom .slice)) fun (t26 : Option Addr × Nat × Nat) =>
  T.sem (Builtin.append_ #[35, 35] 35 #[(.slice t26.1 t26.2.1 t26.2.2), (.slice (if t16.2.2 = Int.toNat (0 : Int) then t16.1 else Option.map (fun x => Addr.add x (Int.toNat (0 : Int) * 1)) t16.1) (Int.toNat t18 - Int.toNat (0 : Int)) (t16.2.2 - Int.toNat (0 : Int)))]) (.one (.atom .slice)) fun (t27 : Option Addr × Nat × Nat) =>
  T.call 19 [(.slice t21.1 t21.2.1 t21.2.2), (.slice t27.1 t27.2.1 t27.2.2)] (.one (.atom .bool)) fun (t28 : Bool) =>
  T.out [(.bool t28)])
  (T.out [(.bool false)]))
  (T.out [(.bool false)]))
  (T.out [(.bool false)])) fun (z22 : Bool × Unit) =>
  T.ret (.bool z22.1)))
theorem tronagelaw04_MailboxMoves_den (room_0 : Int) (other_1 : Int) (a_2_p : Option Addr) (a_2_n a_2_c : Nat) (c_3_p : Option Addr) (c_3_n c_3_c : Nat) : denFun Try.prog Try.f7 [(.int .i64 room_0), (.int .i64 other_1), (.slice a_2_p a_2_n a_2_c), (.slice c_3_p c_3_n c_3_c)] = tronagelaw04_MailboxMoves_T room_0 other_1 a_2_p a_2_n a_2_c c_3_p c_3_n c_3_c := by kernel_rfl

/-- tronage/tronagelaw04.awake -/
def tronagelaw04_awake_T  : T :=
  T.call 9 [(.int .i64 (2 : Int))] (.one (.atom .pointer)) fun (t1 : Option Addr) =>
  cond (Option.isNone t1)
  (T.ret (.bool false))
  (T.call 10 [(.pointer t1), (.string { data := #[97] })] (.one (.atom .bool)) fun (t2 : Bool) =>
  T.call 10 [(.pointer t1), (.string { data := #[98] })] (.one (.atom .bool)) fun (t3 : Bool) =>
  T.call 10 [(.pointer t1), (.string { data := #[99] })] (.one (.atom .bool)) fun (t4 : Bool) =>
  T.call 13 [(.pointer t1)] (.tuple [(.atom .string), (.atom .bool)]) fun (t5 : ByteArray × Bool × Unit) =>
  T.call 10 [(.pointer t1), (.string { data := #[99] })] (.one (.atom .bool)) fun (t6 : Bool) =>
  T.call 11 [(.pointer t1)] (.one (.atom .slice)) fun (t7 : Option Addr × Nat × Nat) =>
  T.join [(.atom .bool)]
  (cond t2
  (cond t3
  (cond (!t4)
  (cond (ByteArray.toList t5.1 == ByteArray.toList { data := #[97] })
  (cond t5.2.1
  (cond t6
  (cond (((t7.2.1 : Nat) : Int) == (2 : Int))
  (deref t7.1 fun a9 =>
  chk (0 ≤ (0 : Int) ∧ (0 : Int) < (t7.2.1 : Nat)) <|
  T.load .string (a9.add (Int.toNat (0 : Int) * 1)) fun (t10 : ByteArray) =>
  cond (ByteArray.toList t10 == ByteArray.toList { data := #[98] })
  (deref t7.1 fun a11 =>
  chk (0 ≤ (1 : Int) ∧ (1 : Int) < (t7.2.1 : Nat)) <|
  T.load .string (a11.add (Int.toNat (1 : Int) * 1)) fun (t12 : ByteArray) =>
  T.out [(.bool (ByteArray.toList t12 == ByteArray.toList { data := #[99] }))])
  (T.out [(.bool false)]))
  (T.out [(.bool false)]))
  (T.out [(.bool false)]))
  (T.out [(.bool false)]))
  (T.out [(.bool false)]))
  (T.out [(.bool false)]))
  (T.out [(.bool false)]))
  (T.out [(.bool false)])) fun (z8 : Bool × Unit) =>
  T.ret (.bool z8.1))
theorem tronagelaw04_awake_den  : denFun Try.prog Try.f8 [] = tronagelaw04_awake_T  := by kernel_rfl

/-- tronage/mailbox.New[string] -/
def mailbox_New_string_T (room_0 : Int) : T :=
  T.sem (Instr.makeChan 53 (.int .i64 (if (if (64 : Int) < room_0 then (64 : Int) else room_0) > (1 : Int) then (if (64 : Int) < room_0 then (64 : Int) else room_0) else (1 : Int)))) (.one (.atom .chan)) fun (t1 : Option Nat) =>
  T.new (.cells #[(.chan t1)] 55 (0, 0)) fun r2 =>
  T.ret (.pointer (some ⟨r2, 0, none⟩))
theorem mailbox_New_string_den (room_0 : Int) : denFun Try.prog Try.f9 [(.int .i64 room_0)] = mailbox_New_string_T room_0 := by kernel_rfl

/-- (*tronage/mailbox.Box[string]).Offer -/
def mailbox_Box_string_Offer_T (b_0 : Option Addr) (x_1 : ByteArray) : T :=
  deref b_0 fun a1 =>
  T.load .chan a1 fun (t2 : Option Nat) =>
  derefN t2 fun c6 =>
  T.sel c6 (some (.string x_1)) (.string { data := #[] }) fun j3 ok4 v5 =>
  cond (j3 == (0 : Int))
  (T.ret (.bool true))
  (T.ret (.bool false))
theorem mailbox_Box_string_Offer_den (b_0 : Option Addr) (x_1 : ByteArray) : denFun Try.prog Try.f10 [(.pointer b_0), (.string x_1)] = mailbox_Box_string_Offer_T b_0 x_1 := by kernel_rfl

/-- (*tronage/mailbox.Box[string]).All -/
def mailbox_Box_string_All_T (b_0 : Option Addr) : T :=
  T.call 12 [(.pointer b_0)] (.one (.atom (.int .i64))) fun (t1 : Int) =>
  T.block 0 [(.atom (.int .i64)), (.atom .slice)]
  (T.loop [(.atom (.int .i64)), (.atom .slice)] [(.int .i64 (0 : Int)), (.slice none 0 0)] fun (z3 : Int × (Option Addr × Nat × Nat) × Unit) =>
  cond (decide (z3.1 < t1))
  (T.call 13 [(.pointer b_0)] (.tuple [(.atom .string), (.atom .bool)]) fun (t4 : ByteArray × Bool × Unit) =>
  T.new (.cells #[(.string t4.1)] 9 (0, 0)) fun r5 =>
  T.sem (Builtin.append_ #[22, 22] 22 #[(.slice z3.2.1.1 z3.2.1.2.1 z3.2.1.2.2), (.slice (some ⟨r5, 0, none⟩) 1 1)]) (.one (.atom .slice)) fun (t6 : Option Addr × Nat × Nat) =>
  T.call 10 [(.pointer b_0), (.string t4.1)] (.one (.atom .bool)) fun (t7 : Bool) =>
  T.out [(.int .i64 (IntKind.wrap .i64 (z3.1 + (1 : Int)))), (.slice t6.1 t6.2.1 t6.2.2)])
  (T.brk 0 [(.int .i64 z3.1), (.slice z3.2.1.1 z3.2.1.2.1 z3.2.1.2.2)])) fun (z2 : Int × (Option Addr × Nat × Nat) × Unit) =>
  T.ret (.slice z2.2.1.1 z2.2.1.2.1 z2.2.1.2.2)
theorem mailbox_Box_string_All_den (b_0 : Option Addr) : denFun Try.prog Try.f11 [(.pointer b_0)] = mailbox_Box_string_All_T b_0 := by kernel_rfl

/-- (*tronage/mailbox.Box[string]).Len -/
def mailbox_Box_string_Len_T (b_0 : Option Addr) : T :=
  deref b_0 fun a1 =>
  T.load .chan a1 fun (t2 : Option Nat) =>
  T.sem (Builtin.len_ #[53] 3 #[(.chan t2)]) (.one (.atom (.int .i64))) fun (t3 : Int) =>
  T.ret (.int .i64 t3)
theorem mailbox_Box_string_Len_den (b_0 : Option Addr) : denFun Try.prog Try.f12 [(.pointer b_0)] = mailbox_Box_string_Len_T b_0 := by kernel_rfl

/-- (*tronage/mailbox.Box[string]).Poll -/
def mailbox_Box_string_Poll_T (b_0 : Option Addr) : T :=
  deref b_0 fun a1 =>
  T.load .chan a1 fun (t2 : Option Nat) =>
  derefN t2 fun c6 =>
  T.sel c6 none (.string { data := #[] }) fun j3 ok4 v5 =>
  cond (j3 == (0 : Int))
  (T.ret (.tuple #[v5, (.bool true)]))
  (T.ret (.tuple #[(.string { data := #[] }), (.bool false)]))
theorem mailbox_Box_string_Poll_den (b_0 : Option Addr) : denFun Try.prog Try.f13 [(.pointer b_0)] = mailbox_Box_string_Poll_T b_0 := by kernel_rfl

/-- tronage/mailbox.New[int] -/
def mailbox_New_int_T (room_0 : Int) : T :=
  T.sem (Instr.makeChan 56 (.int .i64 (if (if (64 : Int) < room_0 then (64 : Int) else room_0) > (1 : Int) then (if (64 : Int) < room_0 then (64 : Int) else room_0) else (1 : Int)))) (.one (.atom .chan)) fun (t1 : Option Nat) =>
  T.new (.cells #[(.chan t1)] 58 (0, 0)) fun r2 =>
  T.ret (.pointer (some ⟨r2, 0, none⟩))
theorem mailbox_New_int_den (room_0 : Int) : denFun Try.prog Try.f14 [(.int .i64 room_0)] = mailbox_New_int_T room_0 := by kernel_rfl

/-- (*tronage/mailbox.Box[int]).Offer -/
def mailbox_Box_int_Offer_T (b_0 : Option Addr) (x_1 : Int) : T :=
  deref b_0 fun a1 =>
  T.load .chan a1 fun (t2 : Option Nat) =>
  derefN t2 fun c6 =>
  T.sel c6 (some (.int .i64 x_1)) (.int .i64 (0 : Int)) fun j3 ok4 v5 =>
  cond (j3 == (0 : Int))
  (T.ret (.bool true))
  (T.ret (.bool false))
theorem mailbox_Box_int_Offer_den (b_0 : Option Addr) (x_1 : Int) : denFun Try.prog Try.f15 [(.pointer b_0), (.int .i64 x_1)] = mailbox_Box_int_Offer_T b_0 x_1 := by kernel_rfl

/-- (*tronage/mailbox.Box[int]).Room -/
def mailbox_Box_int_Room_T (b_0 : Option Addr) : T :=
  deref b_0 fun a1 =>
  T.load .chan a1 fun (t2 : Option Nat) =>
  T.sem (Builtin.cap_ #[56] 3 #[(.chan t2)]) (.one (.atom (.int .i64))) fun (t3 : Int) =>
  T.ret (.int .i64 t3)
theorem mailbox_Box_int_Room_den (b_0 : Option Addr) : denFun Try.prog Try.f16 [(.pointer b_0)] = mailbox_Box_int_Room_T b_0 := by kernel_rfl

/-- (*tronage/mailbox.Box[int]).Poll -/
def mailbox_Box_int_Poll_T (b_0 : Option Addr) : T :=
  deref b_0 fun a1 =>
  T.load .chan a1 fun (t2 : Option Nat) =>
  derefN t2 fun c6 =>
  T.sel c6 none (.int .i64 (0 : Int)) fun j3 ok4 v5 =>
  cond (j3 == (0 : Int))
  (T.ret (.tuple #[v5, (.bool true)]))
  (T.ret (.tuple #[(.int .i64 (0 : Int)), (.bool false)]))
theorem mailbox_Box_int_Poll_den (b_0 : Option Addr) : denFun Try.prog Try.f17 [(.pointer b_0)] = mailbox_Box_int_Poll_T b_0 := by kernel_rfl

/-- (*tronage/mailbox.Box[int]).Len -/
def mailbox_Box_int_Len_T (b_0 : Option Addr) : T :=
  deref b_0 fun a1 =>
  T.load .chan a1 fun (t2 : Option Nat) =>
  T.sem (Builtin.len_ #[56] 3 #[(.chan t2)]) (.one (.atom (.int .i64))) fun (t3 : Int) =>
  T.ret (.int .i64 t3)
theorem mailbox_Box_int_Len_den (b_0 : Option Addr) : denFun Try.prog Try.f18 [(.pointer b_0)] = mailbox_Box_int_Len_T b_0 := by kernel_rfl

/-- tronage/tronageref01.Ints -/
def tronageref01_Ints_T (a_0_p : Option Addr) (a_0_n a_0_c : Nat) (b_1_p : Option Addr) (b_1_n b_1_c : Nat) : T :=
  cond (((a_0_n : Nat) : Int) != ((b_1_n : Nat) : Int))
  (T.ret (.bool false))
  (T.block 0 [(.atom (.int .i64)), (.atom .bool)]
  (T.loop [(.atom (.int .i64)), (.atom .bool)] [(.int .i64 (0 : Int)), (.bool false)] fun (z2 : Int × Bool × Unit) =>
  cond (decide (z2.1 < ((a_0_n : Nat) : Int)))
  (deref a_0_p fun a3 =>
  chk (0 ≤ z2.1 ∧ z2.1 < (a_0_n : Nat)) <|
  T.load (.int .i64) (a3.add (Int.toNat z2.1 * 1)) fun (t4 : Int) =>
  deref b_1_p fun a5 =>
  chk (0 ≤ z2.1 ∧ z2.1 < (b_1_n : Nat)) <|
  T.load (.int .i64) (a5.add (Int.toNat z2.1 * 1)) fun (t6 : Int) =>
  cond (t4 != t6)
  (T.ret (.bool false))
  (T.out [(.int .i64 (IntKind.wrap .i64 (z2.1 + (1 : Int)))), (.bool z2.2.1)]))
  (T.brk 0 [(.int .i64 z2.1), (.bool z2.2.1)])) fun (z1 : Int × Bool × Unit) =>
  T.ret (.bool true))
theorem tronageref01_Ints_den (a_0_p : Option Addr) (a_0_n a_0_c : Nat) (b_1_p : Option Addr) (b_1_n b_1_c : Nat) : denFun Try.prog Try.f19 [(.slice a_0_p a_0_n a_0_c), (.slice b_1_p b_1_n b_1_c)] = tronageref01_Ints_T a_0_p a_0_n a_0_c b_1_p b_1_n b_1_c := by kernel_rfl

/-- (*tronage/mailbox.Box[int]).All -/
def mailbox_Box_int_All_T (b_0 : Option Addr) : T :=
  T.call 18 [(.pointer b_0)] (.one (.atom (.int .i64))) fun (t1 : Int) =>
  T.block 0 [(.atom (.int .i64)), (.atom .slice)]
  (T.loop [(.atom (.int .i64)), (.atom .slice)] [(.int .i64 (0 : Int)), (.slice none 0 0)] fun (z3 : Int × (Option Addr × Nat × Nat) × Unit) =>
  cond (decide (z3.1 < t1))
  (T.call 17 [(.pointer b_0)] (.tuple [(.atom (.int .i64)), (.atom .bool)]) fun (t4 : Int × Bool × Unit) =>
  T.new (.cells #[(.int .i64 t4.1)] 3 (0, 0)) fun r5 =>
  T.sem (Builtin.append_ #[35, 35] 35 #[(.slice z3.2.1.1 z3.2.1.2.1 z3.2.1.2.2), (.slice (some ⟨r5, 0, none⟩) 1 1)]) (.one (.atom .slice)) fun (t6 : Option Addr × Nat × Nat) =>
  T.call 15 [(.pointer b_0), (.int .i64 t4.1)] (.one (.atom .bool)) fun (t7 : Bool) =>
  T.out [(.int .i64 (IntKind.wrap .i64 (z3.1 + (1 : Int)))), (.slice t6.1 t6.2.1 t6.2.2)])
  (T.brk 0 [(.int .i64 z3.1), (.slice z3.2.1.1 z3.2.1.2.1 z3.2.1.2.2)])) fun (z2 : Int × (Option Addr × Nat × Nat) × Unit) =>
  T.ret (.slice z2.2.1.1 z2.2.1.2.1 z2.2.1.2.2)
theorem mailbox_Box_int_All_den (b_0 : Option Addr) : denFun Try.prog Try.f20 [(.pointer b_0)] = mailbox_Box_int_All_T b_0 := by kernel_rfl

/-- tronage/tronageref04.New -/
def tronageref04_New_T (room_0 : Int) : T :=
  T.new (.cells #[(.int .i64 (if (if (64 : Int) < room_0 then (64 : Int) else room_0) > (1 : Int) then (if (64 : Int) < room_0 then (64 : Int) else room_0) else (1 : Int))), (.slice none 0 0)] 48 (0, 0)) fun r1 =>
  T.ret (.pointer (some ⟨r1, 0, none⟩))
theorem tronageref04_New_den (room_0 : Int) : denFun Try.prog Try.f21 [(.int .i64 room_0)] = tronageref04_New_T room_0 := by kernel_rfl

/-- (*tronage/tronageref04.Box).Offer -/
def tronageref04_Box_Offer_T (b_0 : Option Addr) (x_1 : Int) : T :=
  deref b_0 fun a1 =>
  T.load .slice (a1.add 1) fun (t2 : Option Addr × Nat × Nat) =>
  deref b_0 fun a3 =>
  T.load (.int .i64) a3 fun (t4 : Int) =>
  cond (decide (((t2.2.1 : Nat) : Int) ≥ t4))
  (T.ret (.bool false))
  (T.new (.cells #[] 3 (0, 0)) fun r5 =>
  deref b_0 fun a6 =>
  T.load .slice (a6.add 1) fun (t7 : Option Addr × Nat × Nat) =>
  T.sem (Builtin.append_ #[35, 35] 35 #[(.slice (some ⟨r5, 0, none⟩) 0 0), (.slice t7.1 t7.2.1 t7.2.2)]) (.one (.atom .slice)) fun (t8 : Option Addr × Nat × Nat) =>
  T.new (.cells #[(.int .i64 x_1)] 3 (0, 0)) fun r9 =>
  T.sem (Builtin.append_ #[35, 35] 35 #[(.slice t8.1 t8.2.1 t8.2.2), (.slice (some ⟨r9, 0, none⟩) 1 1)]) (.one (.atom .slice)) fun (t10 : Option Addr × Nat × Nat) =>
  deref b_0 fun a11 =>
  T.store (a11.add 1) (.slice t10.1 t10.2.1 t10.2.2) <|
  T.ret (.bool true))
theorem tronageref04_Box_Offer_den (b_0 : Option Addr) (x_1 : Int) : denFun Try.prog Try.f22 [(.pointer b_0), (.int .i64 x_1)] = tronageref04_Box_Offer_T b_0 x_1 := by kernel_rfl

/-- (*tronage/tronageref04.Box).Poll -/
def tronageref04_Box_Poll_T (b_0 : Option Addr) : T :=
  deref b_0 fun a1 =>
  T.load .slice (a1.add 1) fun (t2 : Option Addr × Nat × Nat) =>
  cond (((t2.2.1 : Nat) : Int) == (0 : Int))
  (T.ret (.tuple #[(.int .i64 (0 : Int)), (.bool false)]))
  (deref b_0 fun a3 =>
  T.load .slice (a3.add 1) fun (t4 : Option Addr × Nat × Nat) =>
  deref t4.1 fun a5 =>
  chk (0 ≤ (0 : Int) ∧ (0 : Int) < (t4.2.1 : Nat)) <|
  T.load (.int .i64) (a5.add (Int.toNat (0 : Int) * 1)) fun (t6 : Int) =>
  deref b_0 fun a7 =>
  T.load .slice (a7.add 1) fun (t8 : Option Addr × Nat × Nat) =>
  chk (0 ≤ (1 : Int) ∧ (1 : Int) ≤ ((t8.2.1 : Nat) : Int) ∧ ((t8.2.1 : Nat) : Int) ≤ (t8.2.2 : Nat)) <|
  deref b_0 fun a9 =>
  T.store (a9.add 1) (.slice (if t8.2.2 = Int.toNat (1 : Int) then t8.1 else Option.map (fun x => Addr.add x (Int.toNat (1 : Int) * 1)) t8.1) (Int.toNat ((t8.2.1 : Nat) : Int) - Int.toNat (1 : Int)) (t8.2.2 - Int.toNat (1 : Int))) <|
  T.ret (.tuple #[(.int .i64 t6), (.bool true)]))
theorem tronageref04_Box_Poll_den (b_0 : Option Addr) : denFun Try.prog Try.f23 [(.pointer b_0)] = tronageref04_Box_Poll_T b_0 := by kernel_rfl

/-- tronage/mailbox.Move[int] -/
def mailbox_Move_int_T (from_0 : Option Addr) (to_1 : Option Addr) : T :=
  T.block 0 [(.atom (.int .i64))]
  (T.loop [(.atom (.int .i64))] [(.int .i64 (0 : Int))] fun (z2 : Int × Unit) =>
  T.join [(.atom .bool)]
  (T.call 18 [(.pointer from_0)] (.one (.atom (.int .i64))) fun (t4 : Int) =>
  cond (decide (t4 > (0 : Int)))
  (T.call 18 [(.pointer to_1)] (.one (.atom (.int .i64))) fun (t5 : Int) =>
  T.call 16 [(.pointer to_1)] (.one (.atom (.int .i64))) fun (t6 : Int) =>
  T.out [(.bool (decide (t5 < t6)))])
  (T.out [(.bool false)])) fun (z3 : Bool × Unit) =>
  cond z3.1
  (T.call 17 [(.pointer from_0)] (.tuple [(.atom (.int .i64)), (.atom .bool)]) fun (t7 : Int × Bool × Unit) =>
  T.call 15 [(.pointer to_1), (.int .i64 t7.1)] (.one (.atom .bool)) fun (t8 : Bool) =>
  T.out [(.int .i64 (IntKind.wrap .i64 (z2.1 + (1 : Int))))])
  (T.brk 0 [(.int .i64 z2.1)])) fun (z1 : Int × Unit) =>
  T.ret (.int .i64 z1.1)
theorem mailbox_Move_int_den (from_0 : Option Addr) (to_1 : Option Addr) : denFun Try.prog Try.f24 [(.pointer from_0), (.pointer to_1)] = mailbox_Move_int_T from_0 to_1 := by kernel_rfl

/-- tronage/tronageref04.Move -/
def tronageref04_Move_T (from_0 : Option Addr) (to_1 : Option Addr) : T :=
  T.block 0 [(.atom (.int .i64))]
  (T.loop [(.atom (.int .i64))] [(.int .i64 (0 : Int))] fun (z2 : Int × Unit) =>
  T.join [(.atom .bool)]
  (deref from_0 fun a4 =>
  T.load .slice (a4.add 1) fun (t5 : Option Addr × Nat × Nat) =>
  cond (decide (((t5.2.1 : Nat) : Int) > (0 : Int)))
  (deref to_1 fun a6 =>
  T.load .slice (a6.add 1) fun (t7 : Option Addr × Nat × Nat) =>
  deref to_1 fun a8 =>
  T.load (.int .i64) a8 fun (t9 : Int) =>
  T.out [(.bool (decide (((t7.2.1 : Nat) : Int) < t9)))])
  (T.out [(.bool false)])) fun (z3 : Bool × Unit) =>
  cond z3.1
  (T.call 23 [(.pointer from_0)] (.tuple [(.atom (.int .i64)), (.atom .bool)]) fun (t10 : Int × Bool × Unit) =>
  T.call 22 [(.pointer to_1), (.int .i64 t10.1)] (.one (.atom .bool)) fun (t11 : Bool) =>
  T.out [(.int .i64 (IntKind.wrap .i64 (z2.1 + (1 : Int))))])
  (T.brk 0 [(.int .i64 z2.1)])) fun (z1 : Int × Unit) =>
  T.ret (.int .i64 z1.1)
theorem tronageref04_Move_den (from_0 : Option Addr) (to_1 : Option Addr) : denFun Try.prog Try.f25 [(.pointer from_0), (.pointer to_1)] = tronageref04_Move_T from_0 to_1 := by kernel_rfl

end Go.Proofs.Ytaghpjmgnjkejaa
