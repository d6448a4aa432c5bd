import Derived.Test.YtkhfdckieocciaaDoorEngJ
import Derived.Test.YtkhfdckieocciaaDoorProg
import Derived.KernelRfl
namespace Go.Proofs.YtkhfdckieocciaaDoor
open Go Go.Eng
set_option linter.unusedVariables false
set_option maxRecDepth 100000

/-- tronage/tronagelaw20.ExprReads -/
def tronagelaw20_ExprReads_T (s_0 : ByteArray) : T :=
  T.call 10 [] (.one (.atom .bool)) fun (t1 : Bool) =>
  cond (decide (((ByteArray.size s_0 : Nat) : Int) > (300 : Int)))
  (T.ret (.bool t1))
  (T.call 11 [(.string s_0)] (.tuple [(.agg [(.int .i64), (.int .i64), .slice]), (.atom (.int .i64)), (.atom (.int .i64))]) fun (t2 : (Int × Int × (Option Addr × Nat × Nat) × Unit) × Int × Int × Unit) =>
  T.new (.cells #[(.int .i64 (0 : Int)), (.int .i64 (0 : Int)), (.slice none 0 0)] 25 (0, 0)) fun r3 =>
  T.store ⟨r3, 0, none⟩ (.int .i64 t2.1.1) <|
  T.store ⟨r3, 1, none⟩ (.int .i64 t2.1.2.1) <|
  T.store ⟨r3, 2, none⟩ (.slice t2.1.2.2.1.1 t2.1.2.2.1.2.1 t2.1.2.2.1.2.2) <|
  T.call 12 [(.string s_0)] (.tuple [(.agg [(.int .i64), (.int .i64), .slice]), (.atom (.int .i64)), (.atom (.int .i64))]) fun (t4 : (Int × Int × (Option Addr × Nat × Nat) × Unit) × Int × Int × Unit) =>
  T.new (.cells #[(.int .i64 (0 : Int)), (.int .i64 (0 : Int)), (.slice none 0 0)] 25 (0, 0)) fun r5 =>
  T.store ⟨r5, 0, none⟩ (.int .i64 t4.1.1) <|
  T.store ⟨r5, 1, none⟩ (.int .i64 t4.1.2.1) <|
  T.store ⟨r5, 2, none⟩ (.slice t4.1.2.2.1.1 t4.1.2.2.1.2.1 t4.1.2.2.1.2.2) <|
  T.join [(.atom .bool)]
  (cond t1
  (T.load (.int .i64) ⟨r3, 0, none⟩ fun (t7 : Int) =>
  T.load (.int .i64) ⟨r3, 1, none⟩ fun (t8 : Int) =>
  T.load .slice ⟨r3, 2, none⟩ fun (t9 : Option Addr × Nat × Nat) =>
  T.load (.int .i64) ⟨r5, 0, none⟩ fun (t10 : Int) =>
  T.load (.int .i64) ⟨r5, 1, none⟩ fun (t11 : Int) =>
  T.load .slice ⟨r5, 2, none⟩ fun (t12 : Option Addr × Nat × Nat) =>
  T.call 13 [(.agg #[(.int .i64 t7), (.int .i64 t8), (.slice t9.1 t9.2.1 t9.2.2)]), (.agg #[(.int .i64 t10), (.int .i64 t11), (.slice t12.1 t12.2.1 t12.2.2)])] (.one (.atom .bool)) fun (t13 : Bool) =>
  cond t13
  (cond (t2.2.1 == t4.2.1)
  (T.out [(.bool (t2.2.2.1 == t4.2.2.1))])
  (T.out [(.bool false)]))
  (T.out [(.bool false)]))
  (T.out [(.bool false)])) fun (z6 : Bool × Unit) =>
  T.ret (.bool z6.1))
theorem tronagelaw20_ExprReads_den (s_0 : ByteArray) : denFun Tryd.prog Tryd.f3 [(.string s_0)] = tronagelaw20_ExprReads_T s_0 := by kernel_rfl

/-- tronage/tronagelaw20.ExprSpaces -/
def tronagelaw20_ExprSpaces_T (s_0 : ByteArray) (n_1 : Int) : T :=
  T.call 10 [] (.one (.atom .bool)) fun (t1 : Bool) =>
  T.join [(.atom .bool)]
  (cond (decide (((ByteArray.size s_0 : Nat) : Int) > (150 : Int)))
  (T.out [(.bool true)])
  (cond (decide (n_1 < (0 : Int)))
  (T.out [(.bool true)])
  (T.out [(.bool (decide (n_1 > (9 : Int))))]))) fun (z2 : Bool × Unit) =>
  cond z2.1
  (T.ret (.bool t1))
  (chk (0 ≤ (0 : Int) ∧ (0 : Int) ≤ n_1 ∧ n_1 ≤ (ByteArray.size { data := #[32, 9, 10, 13, 32, 9, 10, 13, 32] } : Nat)) <|
  T.call 11 [(.string s_0)] (.tuple [(.agg [(.int .i64), (.int .i64), .slice]), (.atom (.int .i64)), (.atom (.int .i64))]) fun (t3 : (Int × Int × (Option Addr × Nat × Nat) × Unit) × Int × Int × Unit) =>
  T.new (.cells #[(.int .i64 (0 : Int)), (.int .i64 (0 : Int)), (.slice none 0 0)] 25 (0, 0)) fun r4 =>
  T.store ⟨r4, 0, none⟩ (.int .i64 t3.1.1) <|
  T.store ⟨r4, 1, none⟩ (.int .i64 t3.1.2.1) <|
  T.store ⟨r4, 2, none⟩ (.slice t3.1.2.2.1.1 t3.1.2.2.1.2.1 t3.1.2.2.1.2.2) <|
  chk (((ByteArray.size (ByteArray.extract { data := #[32, 9, 10, 13, 32, 9, 10, 13, 32] } (Int.toNat (0 : Int)) (Int.toNat n_1)) + ByteArray.size s_0 : Nat) : Int) ≤ IntKind.max .i64) <|
  chk (((ByteArray.size ((ByteArray.extract { data := #[32, 9, 10, 13, 32, 9, 10, 13, 32] } (Int.toNat (0 : Int)) (Int.toNat n_1)) ++ s_0) + ByteArray.size (ByteArray.extract { data := #[32, 9, 10, 13, 32, 9, 10, 13, 32] } (Int.toNat (0 : Int)) (Int.toNat n_1)) : Nat) : Int) ≤ IntKind.max .i64) <|
  T.call 11 [(.string (((ByteArray.extract { data := #[32, 9, 10, 13, 32, 9, 10, 13, 32] } (Int.toNat (0 : Int)) (Int.toNat n_1)) ++ s_0) ++ (ByteArray.extract { data := #[32, 9, 10, 13, 32, 9, 10, 13, 32] } (Int.toNat (0 : Int)) (Int.toNat n_1))))] (.tuple [(.agg [(.int .i64), (.int .i64), .slice]), (.atom (.int .i64)), (.atom (.int .i64))]) fun (t5 : (Int × Int × (Option Addr × Nat × Nat) × Unit) × Int × Int × Unit) =>
  T.new (.cells #[(.int .i64 (0 : Int)), (.int .i64 (0 : Int)), (.slice none 0 0)] 25 (0, 0)) fun r6 =>
  T.store ⟨r6, 0, none⟩ (.int .i64 t5.1.1) <|
  T.store ⟨r6, 1, none⟩ (.int .i64 t5.1.2.1) <|
  T.store ⟨r6, 2, none⟩ (.slice t5.1.2.2.1.1 t5.1.2.2.1.2.1 t5.1.2.2.1.2.2) <|
  chk (((ByteArray.size { data := #[40] } + ByteArray.size (ByteArray.extract { data := #[32, 9, 10, 13, 32, 9, 10, 13, 32] } (Int.toNat (0 : Int)) (Int.toNat n_1)) : Nat) : Int) ≤ IntKind.max .i64) <|
  chk (((ByteArray.size ({ data := #[40] } ++ (ByteArray.extract { data := #[32, 9, 10, 13, 32, 9, 10, 13, 32] } (Int.toNat (0 : Int)) (Int.toNat n_1))) + ByteArray.size s_0 : Nat) : Int) ≤ IntKind.max .i64) <|
  chk (((ByteArray.size (({ data := #[40] } ++ (ByteArray.extract { data := #[32, 9, 10, 13, 32, 9, 10, 13, 32] } (Int.toNat (0 : Int)) (Int.toNat n_1))) ++ s_0) + ByteArray.size { data := #[41] } : Nat) : Int) ≤ IntKind.max .i64) <|
  T.call 11 [(.string ((({ data := #[40] } ++ (ByteArray.extract { data := #[32, 9, 10, 13, 32, 9, 10, 13, 32] } (Int.toNat (0 : Int)) (Int.toNat n_1))) ++ s_0) ++ { data := #[41] }))] (.tuple [(.agg [(.int .i64), (.int .i64), .slice]), (.atom (.int .i64)), (.atom (.int .i64))]) fun (t7 : (Int × Int × (Option Addr × Nat × Nat) × Unit) × Int × Int × Unit) =>
  T.new (.cells #[(.int .i64 (0 : Int)), (.int .i64 (0 : Int)), (.slice none 0 0)] 25 (0, 0)) fun r8 =>
  T.store ⟨r8, 0, none⟩ (.int .i64 t7.1.1) <|
  T.store ⟨r8, 1, none⟩ (.int .i64 t7.1.2.1) <|
  T.store ⟨r8, 2, none⟩ (.slice t7.1.2.2.1.1 t7.1.2.2.1.2.1 t7.1.2.2.1.2.2) <|
  T.join [(.atom .bool)]
  (cond (t3.2.1 != t5.2.1)
  (T.out [(.bool true)])
  (T.load (.int .i64) ⟨r4, 0, none⟩ fun (t10 : Int) =>
  T.load (.int .i64) ⟨r4, 1, none⟩ fun (t11 : Int) =>
  T.load .slice ⟨r4, 2, none⟩ fun (t12 : Option Addr × Nat × Nat) =>
  T.load (.int .i64) ⟨r6, 0, none⟩ fun (t13 : Int) =>
  T.load (.int .i64) ⟨r6, 1, none⟩ fun (t14 : Int) =>
  T.load .slice ⟨r6, 2, none⟩ fun (t15 : Option Addr × Nat × Nat) =>
  T.call 13 [(.agg #[(.int .i64 t10), (.int .i64 t11), (.slice t12.1 t12.2.1 t12.2.2)]), (.agg #[(.int .i64 t13), (.int .i64 t14), (.slice t15.1 t15.2.1 t15.2.2)])] (.one (.atom .bool)) fun (t16 : Bool) =>
  T.out [(.bool (!t16))])) fun (z9 : Bool × Unit) =>
  cond z9.1
  (T.ret (.bool false))
  (cond (t3.2.1 != (0 : Int))
  (T.ret (.bool t1))
  (T.load (.int .i64) ⟨r4, 0, none⟩ fun (t17 : Int) =>
  cond (t17 == (0 : Int))
  (T.join [(.atom .bool)]
  (cond t1
  (T.out [(.bool (t7.2.1 == (30 : Int)))])
  (T.out [(.bool false)])) fun (z18 : Bool × Unit) =>
  T.ret (.bool z18.1))
  (T.join [(.atom .bool)]
  (cond t1
  (cond (t7.2.1 == (13 : Int))
  (T.out [(.bool true)])
  (cond (t7.2.1 == (0 : Int))
  (T.load (.int .i64) ⟨r4, 0, none⟩ fun (t20 : Int) =>
  T.load (.int .i64) ⟨r4, 1, none⟩ fun (t21 : Int) =>
  T.load .slice ⟨r4, 2, none⟩ fun (t22 : Option Addr × Nat × Nat) =>
  T.load (.int .i64) ⟨r8, 0, none⟩ fun (t23 : Int) =>
  T.load (.int .i64) ⟨r8, 1, none⟩ fun (t24 : Int) =>
  T.load .slice ⟨r8, 2, none⟩ fun (t25 : Option Addr × Nat × Nat) =>
  T.call 13 [(.agg #[(.int .i64 t20), (.int .i64 t21), (.slice t22.1 t22.2.1 t22.2.2)]), (.agg #[(.int .i64 t23), (.int .i64 t24), (.slice t25.1 t25.2.1 t25.2.2)])] (.one (.atom .bool)) fun (t26 : Bool) =>
  T.out [(.bool t26)])
  (T.out [(.bool false)])))
  (T.out [(.bool false)])) fun (z19 : Bool × Unit) =>
  T.ret (.bool z19.1)))))
theorem tronagelaw20_ExprSpaces_den (s_0 : ByteArray) (n_1 : Int) : denFun Tryd.prog Tryd.f4 [(.string s_0), (.int .i64 n_1)] = tronagelaw20_ExprSpaces_T s_0 n_1 := by kernel_rfl

/-- tronage/tronagelaw20.ExprOrder -/
def tronagelaw20_ExprOrder_T (l_0_p : Option Addr) (l_0_n l_0_c : Nat) (signs_1_p : Option Addr) (signs_1_n signs_1_c : Nat) : T :=
  T.call 10 [] (.one (.atom .bool)) fun (t1 : Bool) =>
  T.join [(.atom .bool)]
  (cond (decide (((l_0_n : Nat) : Int) < (1 : Int)))
  (T.out [(.bool true)])
  (cond (decide (((l_0_n : Nat) : Int) > (12 : Int)))
  (T.out [(.bool true)])
  (T.out [(.bool (decide (((signs_1_n : Nat) : Int) < ((l_0_n : Nat) : Int))))]))) fun (z2 : Bool × Unit) =>
  cond z2.1
  (T.ret (.bool t1))
  (T.new (.cells #[(.int .i64 (0 : Int)), (.int .i64 (0 : Int)), (.slice none 0 0)] 25 (0, 0)) fun r3 =>
  T.store ⟨r3, 0, none⟩ (.int .i64 (0 : Int)) <|
  T.store ⟨r3, 1, none⟩ (.int .i64 (0 : Int)) <|
  T.store ⟨r3, 2, none⟩ (.slice none 0 0) <|
  T.new (.cells #[(.int .i64 (0 : Int)), (.int .i64 (0 : Int)), (.slice none 0 0)] 25 (0, 0)) fun r4 =>
  T.store ⟨r4, 0, none⟩ (.int .i64 (0 : Int)) <|
  T.store ⟨r4, 1, none⟩ (.int .i64 (0 : Int)) <|
  T.store ⟨r4, 2, none⟩ (.slice none 0 0) <|
  T.block 0 [(.atom (.int .i64)), (.atom (.int .i64)), (.atom .string)]
  (T.loop [(.atom (.int .i64)), (.atom (.int .i64)), (.atom .string)] [(.int .i64 (0 : Int)), (.int .i64 (0 : Int)), (.string { data := #[] })] fun (z6 : Int × Int × ByteArray × Unit) =>
  cond (decide (z6.1 < ((l_0_n : Nat) : Int)))
  (deref l_0_p fun a7 =>
  chk (0 ≤ z6.1 ∧ z6.1 < (l_0_n : Nat)) <|
  T.load (.int .u8) (a7.add (Int.toNat z6.1 * 1)) fun (t8 : Int) =>
  T.new (.cells #[(.int .i64 (0 : Int)), (.int .i64 (0 : Int)), (.slice none 0 0)] 25 (0, 0)) fun r9 =>
  T.store ⟨r9, 0, none⟩ (.int .i64 (1 : Int)) <|
  T.store ⟨r9, 1, none⟩ (.int .i64 (IntKind.wrap .i64 t8)) <|
  T.store ⟨r9, 2, none⟩ (.slice none 0 0) <|
  T.load (.int .i64) ⟨r9, 0, none⟩ fun (t10 : Int) =>
  T.load (.int .i64) ⟨r9, 1, none⟩ fun (t11 : Int) =>
  T.load .slice ⟨r9, 2, none⟩ fun (t12 : Option Addr × Nat × Nat) =>
  T.call 14 [(.agg #[(.int .i64 t10), (.int .i64 t11), (.slice t12.1 t12.2.1 t12.2.2)])] (.one (.atom .string)) fun (t13 : ByteArray) =>
  chk (((ByteArray.size z6.2.2.1 + ByteArray.size t13 : Nat) : Int) ≤ IntKind.max .i64) <|
  T.join [(.atom .bool)]
  (cond (z6.1 == (0 : Int))
  (T.out [(.bool true)])
  (deref signs_1_p fun a15 =>
  chk (0 ≤ (IntKind.wrap .i64 (z6.1 - (1 : Int))) ∧ (IntKind.wrap .i64 (z6.1 - (1 : Int))) < (signs_1_n : Nat)) <|
  T.load (.int .u8) (a15.add (Int.toNat (IntKind.wrap .i64 (z6.1 - (1 : Int))) * 1)) fun (t16 : Int) =>
  chk ((5 : Int) ≠ 0) <|
  T.out [(.bool (decide ((Int.tmod t16 (5 : Int)) < (2 : Int))))])) fun (z14 : Bool × Unit) =>
  T.join [(.atom (.int .i64))]
  (cond z14.1
  (T.join [(.atom (.int .i64))]
  (cond (decide (z6.1 > (0 : Int)))
  (T.load (.int .i64) ⟨r3, 0, none⟩ fun (t19 : Int) =>
  T.load (.int .i64) ⟨r3, 1, none⟩ fun (t20 : Int) =>
  T.load .slice ⟨r3, 2, none⟩ fun (t21 : Option Addr × Nat × Nat) =>
  T.load (.int .i64) ⟨r4, 0, none⟩ fun (t22 : Int) =>
  T.load (.int .i64) ⟨r4, 1, none⟩ fun (t23 : Int) =>
  T.load .slice ⟨r4, 2, none⟩ fun (t24 : Option Addr × Nat × Nat) =>
  T.call 15 [(.agg #[(.int .i64 t19), (.int .i64 t20), (.slice t21.1 t21.2.1 t21.2.2)]), (.int .i64 z6.2.1), (.agg #[(.int .i64 t22), (.int .i64 t23), (.slice t24.1 t24.2.1 t24.2.2)])] (.one (.agg [(.int .i64), (.int .i64), .slice])) fun (t25 : Int × Int × (Option Addr × Nat × Nat) × Unit) =>
  T.store ⟨r3, 0, none⟩ (.int .i64 t25.1) <|
  T.store ⟨r3, 1, none⟩ (.int .i64 t25.2.1) <|
  T.store ⟨r3, 2, none⟩ (.slice t25.2.2.1.1 t25.2.2.1.2.1 t25.2.2.1.2.2) <|
  deref signs_1_p fun a26 =>
  chk (0 ≤ (IntKind.wrap .i64 (z6.1 - (1 : Int))) ∧ (IntKind.wrap .i64 (z6.1 - (1 : Int))) < (signs_1_n : Nat)) <|
  T.load (.int .u8) (a26.add (Int.toNat (IntKind.wrap .i64 (z6.1 - (1 : Int))) * 1)) fun (t27 : Int) =>
  chk ((5 : Int) ≠ 0) <|
  T.out [(.int .i64 (IntKind.wrap .i64 ((5 : Int) + (IntKind.wrap .i64 (Int.tmod t27 (5 : Int))))))])
  (T.out [(.int .i64 z6.2.1)])) fun (z18 : Int × Unit) =>
  T.load (.int .i64) ⟨r9, 0, none⟩ fun (t28 : Int) =>
  T.load (.int .i64) ⟨r9, 1, none⟩ fun (t29 : Int) =>
  T.load .slice ⟨r9, 2, none⟩ fun (t30 : Option Addr × Nat × Nat) =>
  T.store ⟨r4, 0, none⟩ (.int .i64 t28) <|
  T.store ⟨r4, 1, none⟩ (.int .i64 t29) <|
  T.store ⟨r4, 2, none⟩ (.slice t30.1 t30.2.1 t30.2.2) <|
  T.out [(.int .i64 z18.1)])
  (deref signs_1_p fun a31 =>
  chk (0 ≤ (IntKind.wrap .i64 (z6.1 - (1 : Int))) ∧ (IntKind.wrap .i64 (z6.1 - (1 : Int))) < (signs_1_n : Nat)) <|
  T.load (.int .u8) (a31.add (Int.toNat (IntKind.wrap .i64 (z6.1 - (1 : Int))) * 1)) fun (t32 : Int) =>
  chk ((5 : Int) ≠ 0) <|
  T.load (.int .i64) ⟨r4, 0, none⟩ fun (t33 : Int) =>
  T.load (.int .i64) ⟨r4, 1, none⟩ fun (t34 : Int) =>
  T.load .slice ⟨r4, 2, none⟩ fun (t35 : Option Addr × Nat × Nat) =>
  T.load (.int .i64) ⟨r9, 0, none⟩ fun (t36 : Int) =>
  T.load (.int .i64) ⟨r9, 1, none⟩ fun (t37 : Int) =>
  T.load .slice ⟨r9, 2, none⟩ fun (t38 : Option Addr × Nat × Nat) =>
  T.new (.cells #[(.int .i64 t33), (.int .i64 t34), (.slice t35.1 t35.2.1 t35.2.2), (.int .i64 t36), (.int .i64 t37), (.slice t38.1 t38.2.1 t38.2.2)] 25 (0, 0)) fun r39 =>
  T.still (a31.add (Int.toNat (IntKind.wrap .i64 (z6.1 - (1 : Int))) * 1)) (.int .u8 t32) <|
  T.store ⟨r4, 0, none⟩ (.int .i64 (IntKind.wrap .i64 ((5 : Int) + (IntKind.wrap .i64 (Int.tmod t32 (5 : Int)))))) <|
  T.store ⟨r4, 1, none⟩ (.int .i64 (0 : Int)) <|
  T.store ⟨r4, 2, none⟩ (.slice (some ⟨r39, 0, none⟩) 2 2) <|
  T.out [(.int .i64 z6.2.1)])) fun (z17 : Int × Unit) =>
  T.join [(.atom .string)]
  (cond (decide ((IntKind.wrap .i64 (z6.1 + (1 : Int))) < ((l_0_n : Nat) : Int)))
  (deref signs_1_p fun a41 =>
  chk (0 ≤ z6.1 ∧ z6.1 < (signs_1_n : Nat)) <|
  T.load (.int .u8) (a41.add (Int.toNat z6.1 * 1)) fun (t42 : Int) =>
  chk ((5 : Int) ≠ 0) <|
  deref signs_1_p fun a43 =>
  chk (0 ≤ z6.1 ∧ z6.1 < (signs_1_n : Nat)) <|
  T.load (.int .u8) (a43.add (Int.toNat z6.1 * 1)) fun (t44 : Int) =>
  chk ((5 : Int) ≠ 0) <|
  chk (0 ≤ (Int.tmod t42 (5 : Int)) ∧ (Int.tmod t42 (5 : Int)) ≤ (IntKind.wrap .u8 ((Int.tmod t44 (5 : Int)) + (1 : Int))) ∧ (IntKind.wrap .u8 ((Int.tmod t44 (5 : Int)) + (1 : Int))) ≤ (ByteArray.size { data := #[43, 45, 42, 47, 37] } : Nat)) <|
  chk (((ByteArray.size (z6.2.2.1 ++ t13) + ByteArray.size (ByteArray.extract { data := #[43, 45, 42, 47, 37] } (Int.toNat (Int.tmod t42 (5 : Int))) (Int.toNat (IntKind.wrap .u8 ((Int.tmod t44 (5 : Int)) + (1 : Int))))) : Nat) : Int) ≤ IntKind.max .i64) <|
  T.out [(.string ((z6.2.2.1 ++ t13) ++ (ByteArray.extract { data := #[43, 45, 42, 47, 37] } (Int.toNat (Int.tmod t42 (5 : Int))) (Int.toNat (IntKind.wrap .u8 ((Int.tmod t44 (5 : Int)) + (1 : Int)))))))])
  (T.out [(.string (z6.2.2.1 ++ t13))])) fun (z40 : ByteArray × Unit) =>
  T.out [(.int .i64 (IntKind.wrap .i64 (z6.1 + (1 : Int)))), (.int .i64 z17.1), (.string z40.1)])
  (T.brk 0 [(.int .i64 z6.1), (.int .i64 z6.2.1), (.string z6.2.2.1)])) fun (z5 : Int × Int × ByteArray × Unit) =>
  T.call 11 [(.string z5.2.2.1)] (.tuple [(.agg [(.int .i64), (.int .i64), .slice]), (.atom (.int .i64)), (.atom (.int .i64))]) fun (t45 : (Int × Int × (Option Addr × Nat × Nat) × Unit) × Int × Int × Unit) =>
  T.new (.cells #[(.int .i64 (0 : Int)), (.int .i64 (0 : Int)), (.slice none 0 0)] 25 (0, 0)) fun r46 =>
  T.store ⟨r46, 0, none⟩ (.int .i64 t45.1.1) <|
  T.store ⟨r46, 1, none⟩ (.int .i64 t45.1.2.1) <|
  T.store ⟨r46, 2, none⟩ (.slice t45.1.2.2.1.1 t45.1.2.2.1.2.1 t45.1.2.2.1.2.2) <|
  T.join [(.atom .bool)]
  (cond t1
  (cond (t45.2.1 == (0 : Int))
  (T.load (.int .i64) ⟨r46, 0, none⟩ fun (t48 : Int) =>
  T.load (.int .i64) ⟨r46, 1, none⟩ fun (t49 : Int) =>
  T.load .slice ⟨r46, 2, none⟩ fun (t50 : Option Addr × Nat × Nat) =>
  T.load (.int .i64) ⟨r3, 0, none⟩ fun (t51 : Int) =>
  T.load (.int .i64) ⟨r3, 1, none⟩ fun (t52 : Int) =>
  T.load .slice ⟨r3, 2, none⟩ fun (t53 : Option Addr × Nat × Nat) =>
  T.load (.int .i64) ⟨r4, 0, none⟩ fun (t54 : Int) =>
  T.load (.int .i64) ⟨r4, 1, none⟩ fun (t55 : Int) =>
  T.load .slice ⟨r4, 2, none⟩ fun (t56 : Option Addr × Nat × Nat) =>
  T.call 15 [(.agg #[(.int .i64 t51), (.int .i64 t52), (.slice t53.1 t53.2.1 t53.2.2)]), (.int .i64 z5.2.1), (.agg #[(.int .i64 t54), (.int .i64 t55), (.slice t56.1 t56.2.1 t56.2.2)])] (.one (.agg [(.int .i64), (.int .i64), .slice])) fun (t57 : Int × Int × (Option Addr × Nat × Nat) × Unit) =>
  T.still ⟨r46, 0, none⟩ (.int .i64 t48) <|
  T.still ⟨r46, 1, none⟩ (.int .i64 t49) <|
  T.still ⟨r46, 2, none⟩ (.slice t50.1 t50.2.1 t50.2.2) <|
  T.call 13 [(.agg #[(.int .i64 t48), (.int .i64 t49), (.slice t50.1 t50.2.1 t50.2.2)]), (.agg #[(.int .i64 t57.1), (.int .i64 t57.2.1), (.slice t57.2.2.1.1 t57.2.2.1.2.1 t57.2.2.1.2.2)])] (.one (.atom .bool)) fun (t58 : Bool) =>
  T.out [(.bool t58)])
  (T.out [(.bool false)]))
  (T.out [(.bool false)])) fun (z47 : Bool × Unit) =>
  T.ret (.bool z47.1))
theorem tronagelaw20_ExprOrder_den (l_0_p : Option Addr) (l_0_n l_0_c : Nat) (signs_1_p : Option Addr) (signs_1_n signs_1_c : Nat) : denFun Tryd.prog Tryd.f5 [(.slice l_0_p l_0_n l_0_c), (.slice signs_1_p signs_1_n signs_1_c)] = tronagelaw20_ExprOrder_T l_0_p l_0_n l_0_c signs_1_p signs_1_n signs_1_c := by kernel_rfl

/-- tronage/tronagelaw20.ExprDeep -/
def tronagelaw20_ExprDeep_T (n_0 : Int) (which_1 : Bool) : T :=
  T.call 10 [] (.one (.atom .bool)) fun (t1 : Bool) =>
  chk ((61 : Int) ≠ 0) <|
  T.block 0 [(.atom (.int .i64)), (.atom .string), (.atom .string)]
  (T.loop [(.atom (.int .i64)), (.atom .string), (.atom .string)] [(.int .i64 (0 : Int)), (.string { data := #[] }), (.string { data := #[] })] fun (z3 : Int × ByteArray × ByteArray × Unit) =>
  cond (decide (z3.1 < (IntKind.wrap .i64 (Int.tmod n_0 (61 : Int)))))
  (T.join [(.atom .string), (.atom .string)]
  (cond which_1
  (chk (((ByteArray.size z3.2.2.1 + ByteArray.size { data := #[45] } : Nat) : Int) ≤ IntKind.max .i64) <|
  T.out [(.string z3.2.1), (.string (z3.2.2.1 ++ { data := #[45] }))])
  (chk (((ByteArray.size z3.2.2.1 + ByteArray.size { data := #[40] } : Nat) : Int) ≤ IntKind.max .i64) <|
  chk (((ByteArray.size z3.2.1 + ByteArray.size { data := #[41] } : Nat) : Int) ≤ IntKind.max .i64) <|
  T.out [(.string (z3.2.1 ++ { data := #[41] })), (.string (z3.2.2.1 ++ { data := #[40] }))])) fun (z4 : ByteArray × ByteArray × Unit) =>
  T.out [(.int .i64 (IntKind.wrap .i64 (z3.1 + (1 : Int)))), (.string z4.1), (.string z4.2.1)])
  (T.brk 0 [(.int .i64 z3.1), (.string z3.2.1), (.string z3.2.2.1)])) fun (z2 : Int × ByteArray × ByteArray × Unit) =>
  chk (((ByteArray.size z2.2.2.1 + ByteArray.size { data := #[55] } : Nat) : Int) ≤ IntKind.max .i64) <|
  chk (((ByteArray.size (z2.2.2.1 ++ { data := #[55] }) + ByteArray.size z2.2.1 : Nat) : Int) ≤ IntKind.max .i64) <|
  T.call 11 [(.string ((z2.2.2.1 ++ { data := #[55] }) ++ z2.2.1))] (.tuple [(.agg [(.int .i64), (.int .i64), .slice]), (.atom (.int .i64)), (.atom (.int .i64))]) fun (t5 : (Int × Int × (Option Addr × Nat × Nat) × Unit) × Int × Int × Unit) =>
  T.new (.cells #[(.int .i64 (0 : Int)), (.int .i64 (0 : Int)), (.slice none 0 0)] 25 (0, 0)) fun r6 =>
  T.store ⟨r6, 0, none⟩ (.int .i64 t5.1.1) <|
  T.store ⟨r6, 1, none⟩ (.int .i64 t5.1.2.1) <|
  T.store ⟨r6, 2, none⟩ (.slice t5.1.2.2.1.1 t5.1.2.2.1.2.1 t5.1.2.2.1.2.2) <|
  cond (decide ((IntKind.wrap .i64 (Int.tmod n_0 (61 : Int))) ≥ (20 : Int)))
  (T.join [(.atom .bool)]
  (cond t1
  (cond (t5.2.1 == (13 : Int))
  (T.out [(.bool (t5.2.2.1 == (20 : Int)))])
  (T.out [(.bool false)]))
  (T.out [(.bool false)])) fun (z7 : Bool × Unit) =>
  T.ret (.bool z7.1))
  (cond which_1
  (T.join [(.atom .bool)]
  (cond t1
  (cond (t5.2.1 == (0 : Int))
  (T.load (.int .i64) ⟨r6, 0, none⟩ fun (t9 : Int) =>
  T.load (.int .i64) ⟨r6, 1, none⟩ fun (t10 : Int) =>
  T.load .slice ⟨r6, 2, none⟩ fun (t11 : Option Addr × Nat × Nat) =>
  T.call 16 [(.agg #[(.int .i64 t9), (.int .i64 t10), (.slice t11.1 t11.2.1 t11.2.2)])] (.one (.atom (.int .i64))) fun (t12 : Int) =>
  T.out [(.bool (t12 == (IntKind.wrap .i64 ((IntKind.wrap .i64 (Int.tmod n_0 (61 : Int))) + (1 : Int)))))])
  (T.out [(.bool false)]))
  (T.out [(.bool false)])) fun (z8 : Bool × Unit) =>
  T.ret (.bool z8.1))
  (T.join [(.atom .bool)]
  (cond t1
  (cond (t5.2.1 == (0 : Int))
  (T.load (.int .i64) ⟨r6, 0, none⟩ fun (t14 : Int) =>
  T.load (.int .i64) ⟨r6, 1, none⟩ fun (t15 : Int) =>
  T.load .slice ⟨r6, 2, none⟩ fun (t16 : Option Addr × Nat × Nat) =>
  T.call 13 [(.agg #[(.int .i64 t14), (.int .i64 t15), (.slice t16.1 t16.2.1 t16.2.2)]), (.agg #[(.int .i64 (1 : Int)), (.int .i64 (7 : Int)), (.slice none 0 0)])] (.one (.atom .bool)) fun (t17 : Bool) =>
  T.out [(.bool t17)])
  (T.out [(.bool false)]))
  (T.out [(.bool false)])) fun (z13 : Bool × Unit) =>
  T.ret (.bool z13.1)))
theorem tronagelaw20_ExprDeep_den (n_0 : Int) (which_1 : Bool) : denFun Tryd.prog Tryd.f6 [(.int .u8 n_0), (.bool which_1)] = tronagelaw20_ExprDeep_T n_0 which_1 := by kernel_rfl

/-- tronage/tronagelaw20.ExprTells -/
def tronagelaw20_ExprTells_T (x_0 : Int × Int × (Option Addr × Nat × Nat) × Unit) : T :=
  T.new (.cells #[(.int .i64 x_0.1), (.int .i64 x_0.2.1), (.slice x_0.2.2.1.1 x_0.2.2.1.2.1 x_0.2.2.1.2.2)] 25 (0, 0)) fun r1 =>
  T.call 10 [] (.one (.atom .bool)) fun (t2 : Bool) =>
  T.load (.int .i64) ⟨r1, 0, none⟩ fun (t3 : Int) =>
  T.load (.int .i64) ⟨r1, 1, none⟩ fun (t4 : Int) =>
  T.load .slice ⟨r1, 2, none⟩ fun (t5 : Option Addr × Nat × Nat) =>
  T.call 17 [(.agg #[(.int .i64 t3), (.int .i64 t4), (.slice t5.1 t5.2.1 t5.2.2)]), (.int .i64 (60 : Int)), (.int .i64 (30 : Int))] (.one (.atom (.int .i64))) fun (t6 : Int) =>
  cond (decide (t6 < (0 : Int)))
  (T.ret (.bool t2))
  (T.load (.int .i64) ⟨r1, 0, none⟩ fun (t7 : Int) =>
  T.load (.int .i64) ⟨r1, 1, none⟩ fun (t8 : Int) =>
  T.load .slice ⟨r1, 2, none⟩ fun (t9 : Option Addr × Nat × Nat) =>
  T.call 18 [(.agg #[(.int .i64 t7), (.int .i64 t8), (.slice t9.1 t9.2.1 t9.2.2)])] (.one (.atom .bool)) fun (t10 : Bool) =>
  T.load (.int .i64) ⟨r1, 0, none⟩ fun (t11 : Int) =>
  T.load (.int .i64) ⟨r1, 1, none⟩ fun (t12 : Int) =>
  T.load .slice ⟨r1, 2, none⟩ fun (t13 : Option Addr × Nat × Nat) =>
  T.call 19 [(.agg #[(.int .i64 t11), (.int .i64 t12), (.slice t13.1 t13.2.1 t13.2.2)])] (.one (.atom .string)) fun (t14 : ByteArray) =>
  T.join [(.atom .bool)]
  (cond t2
  (T.load (.int .i64) ⟨r1, 0, none⟩ fun (t16 : Int) =>
  T.load (.int .i64) ⟨r1, 1, none⟩ fun (t17 : Int) =>
  T.load .slice ⟨r1, 2, none⟩ fun (t18 : Option Addr × Nat × Nat) =>
  T.call 20 [(.agg #[(.int .i64 t16), (.int .i64 t17), (.slice t18.1 t18.2.1 t18.2.2)])] (.one (.atom .bool)) fun (t19 : Bool) =>
  cond (t19 == t10)
  (T.load (.int .i64) ⟨r1, 0, none⟩ fun (t20 : Int) =>
  T.load (.int .i64) ⟨r1, 1, none⟩ fun (t21 : Int) =>
  T.load .slice ⟨r1, 2, none⟩ fun (t22 : Option Addr × Nat × Nat) =>
  T.load (.int .i64) ⟨r1, 0, none⟩ fun (t23 : Int) =>
  T.load (.int .i64) ⟨r1, 1, none⟩ fun (t24 : Int) =>
  T.load .slice ⟨r1, 2, none⟩ fun (t25 : Option Addr × Nat × Nat) =>
  T.call 16 [(.agg #[(.int .i64 t20), (.int .i64 t21), (.slice t22.1 t22.2.1 t22.2.2)])] (.one (.atom (.int .i64))) fun (t26 : Int) =>
  T.still ⟨r1, 0, none⟩ (.int .i64 t23) <|
  T.still ⟨r1, 1, none⟩ (.int .i64 t24) <|
  T.still ⟨r1, 2, none⟩ (.slice t25.1 t25.2.1 t25.2.2) <|
  T.call 21 [(.agg #[(.int .i64 t23), (.int .i64 t24), (.slice t25.1 t25.2.1 t25.2.2)])] (.one (.atom (.int .i64))) fun (t27 : Int) =>
  cond (t26 == t27)
  (T.load (.int .i64) ⟨r1, 0, none⟩ fun (t28 : Int) =>
  T.load (.int .i64) ⟨r1, 1, none⟩ fun (t29 : Int) =>
  T.load .slice ⟨r1, 2, none⟩ fun (t30 : Option Addr × Nat × Nat) =>
  T.load (.int .i64) ⟨r1, 0, none⟩ fun (t31 : Int) =>
  T.load (.int .i64) ⟨r1, 1, none⟩ fun (t32 : Int) =>
  T.load .slice ⟨r1, 2, none⟩ fun (t33 : Option Addr × Nat × Nat) =>
  T.call 22 [(.agg #[(.int .i64 t28), (.int .i64 t29), (.slice t30.1 t30.2.1 t30.2.2)])] (.one (.atom (.int .i64))) fun (t34 : Int) =>
  T.still ⟨r1, 0, none⟩ (.int .i64 t31) <|
  T.still ⟨r1, 1, none⟩ (.int .i64 t32) <|
  T.still ⟨r1, 2, none⟩ (.slice t33.1 t33.2.1 t33.2.2) <|
  T.call 23 [(.agg #[(.int .i64 t31), (.int .i64 t32), (.slice t33.1 t33.2.1 t33.2.2)])] (.one (.atom (.int .i64))) fun (t35 : Int) =>
  cond (t34 == t35)
  (cond (!t10)
  (T.out [(.bool true)])
  (T.load (.int .i64) ⟨r1, 0, none⟩ fun (t36 : Int) =>
  T.load (.int .i64) ⟨r1, 1, none⟩ fun (t37 : Int) =>
  T.load .slice ⟨r1, 2, none⟩ fun (t38 : Option Addr × Nat × Nat) =>
  T.call 14 [(.agg #[(.int .i64 t36), (.int .i64 t37), (.slice t38.1 t38.2.1 t38.2.2)])] (.one (.atom .string)) fun (t39 : ByteArray) =>
  T.out [(.bool (ByteArray.toList t14 == ByteArray.toList t39))]))
  (T.out [(.bool false)]))
  (T.out [(.bool false)]))
  (T.out [(.bool false)]))
  (T.out [(.bool false)])) fun (z15 : Bool × Unit) =>
  T.ret (.bool z15.1))
theorem tronagelaw20_ExprTells_den (x_0 : Int × Int × (Option Addr × Nat × Nat) × Unit) : denFun Tryd.prog Tryd.f7 [(.agg #[(.int .i64 x_0.1), (.int .i64 x_0.2.1), (.slice x_0.2.2.1.1 x_0.2.2.1.2.1 x_0.2.2.1.2.2)])] = tronagelaw20_ExprTells_T x_0 := by kernel_rfl

/-- tronage/tronagelaw20.ExprBack -/
def tronagelaw20_ExprBack_T (x_0 : Int × Int × (Option Addr × Nat × Nat) × Unit) : T :=
  T.new (.cells #[(.int .i64 x_0.1), (.int .i64 x_0.2.1), (.slice x_0.2.2.1.1 x_0.2.2.1.2.1 x_0.2.2.1.2.2)] 25 (0, 0)) fun r1 =>
  T.call 10 [] (.one (.atom .bool)) fun (t2 : Bool) =>
  T.join [(.atom .bool)]
  (T.load (.int .i64) ⟨r1, 0, none⟩ fun (t4 : Int) =>
  T.load (.int .i64) ⟨r1, 1, none⟩ fun (t5 : Int) =>
  T.load .slice ⟨r1, 2, none⟩ fun (t6 : Option Addr × Nat × Nat) =>
  T.call 17 [(.agg #[(.int .i64 t4), (.int .i64 t5), (.slice t6.1 t6.2.1 t6.2.2)]), (.int .i64 (60 : Int)), (.int .i64 (30 : Int))] (.one (.atom (.int .i64))) fun (t7 : Int) =>
  cond (decide (t7 < (0 : Int)))
  (T.out [(.bool true)])
  (T.load (.int .i64) ⟨r1, 0, none⟩ fun (t8 : Int) =>
  T.load (.int .i64) ⟨r1, 1, none⟩ fun (t9 : Int) =>
  T.load .slice ⟨r1, 2, none⟩ fun (t10 : Option Addr × Nat × Nat) =>
  T.call 20 [(.agg #[(.int .i64 t8), (.int .i64 t9), (.slice t10.1 t10.2.1 t10.2.2)])] (.one (.atom .bool)) fun (t11 : Bool) =>
  T.out [(.bool (!t11))])) fun (z3 : Bool × Unit) =>
  cond z3.1
  (T.ret (.bool t2))
  (T.load (.int .i64) ⟨r1, 0, none⟩ fun (t12 : Int) =>
  T.load (.int .i64) ⟨r1, 1, none⟩ fun (t13 : Int) =>
  T.load .slice ⟨r1, 2, none⟩ fun (t14 : Option Addr × Nat × Nat) =>
  T.call 19 [(.agg #[(.int .i64 t12), (.int .i64 t13), (.slice t14.1 t14.2.1 t14.2.2)])] (.one (.atom .string)) fun (t15 : ByteArray) =>
  T.call 11 [(.string t15)] (.tuple [(.agg [(.int .i64), (.int .i64), .slice]), (.atom (.int .i64)), (.atom (.int .i64))]) fun (t16 : (Int × Int × (Option Addr × Nat × Nat) × Unit) × Int × Int × Unit) =>
  T.new (.cells #[(.int .i64 (0 : Int)), (.int .i64 (0 : Int)), (.slice none 0 0)] 25 (0, 0)) fun r17 =>
  T.store ⟨r17, 0, none⟩ (.int .i64 t16.1.1) <|
  T.store ⟨r17, 1, none⟩ (.int .i64 t16.1.2.1) <|
  T.store ⟨r17, 2, none⟩ (.slice t16.1.2.2.1.1 t16.1.2.2.1.2.1 t16.1.2.2.1.2.2) <|
  cond (decide (((ByteArray.size t15 : Nat) : Int) > (200 : Int)))
  (T.join [(.atom .bool)]
  (cond t2
  (T.out [(.bool (t16.2.1 == (12 : Int)))])
  (T.out [(.bool false)])) fun (z18 : Bool × Unit) =>
  T.ret (.bool z18.1))
  (T.join [(.atom .bool)]
  (cond t2
  (cond (t16.2.1 == (13 : Int))
  (T.out [(.bool true)])
  (cond (t16.2.1 == (0 : Int))
  (T.load (.int .i64) ⟨r1, 0, none⟩ fun (t20 : Int) =>
  T.load (.int .i64) ⟨r1, 1, none⟩ fun (t21 : Int) =>
  T.load .slice ⟨r1, 2, none⟩ fun (t22 : Option Addr × Nat × Nat) =>
  T.load (.int .i64) ⟨r17, 0, none⟩ fun (t23 : Int) =>
  T.load (.int .i64) ⟨r17, 1, none⟩ fun (t24 : Int) =>
  T.load .slice ⟨r17, 2, none⟩ fun (t25 : Option Addr × Nat × Nat) =>
  T.call 13 [(.agg #[(.int .i64 t20), (.int .i64 t21), (.slice t22.1 t22.2.1 t22.2.2)]), (.agg #[(.int .i64 t23), (.int .i64 t24), (.slice t25.1 t25.2.1 t25.2.2)])] (.one (.atom .bool)) fun (t26 : Bool) =>
  T.out [(.bool t26)])
  (T.out [(.bool false)])))
  (T.out [(.bool false)])) fun (z19 : Bool × Unit) =>
  T.ret (.bool z19.1)))
theorem tronagelaw20_ExprBack_den (x_0 : Int × Int × (Option Addr × Nat × Nat) × Unit) : denFun Tryd.prog Tryd.f8 [(.agg #[(.int .i64 x_0.1), (.int .i64 x_0.2.1), (.slice x_0.2.2.1.1 x_0.2.2.1.2.1 x_0.2.2.1.2.2)])] = tronagelaw20_ExprBack_T x_0 := by kernel_rfl

/-- tronage/tronagelaw20.ExprAgain -/
def tronagelaw20_ExprAgain_T (s_0 : ByteArray) : T :=
  T.call 10 [] (.one (.atom .bool)) fun (t1 : Bool) =>
  cond (decide (((ByteArray.size s_0 : Nat) : Int) > (300 : Int)))
  (T.ret (.bool t1))
  (T.call 11 [(.string s_0)] (.tuple [(.agg [(.int .i64), (.int .i64), .slice]), (.atom (.int .i64)), (.atom (.int .i64))]) fun (t2 : (Int × Int × (Option Addr × Nat × Nat) × Unit) × Int × Int × Unit) =>
  T.new (.cells #[(.int .i64 (0 : Int)), (.int .i64 (0 : Int)), (.slice none 0 0)] 25 (0, 0)) fun r3 =>
  T.store ⟨r3, 0, none⟩ (.int .i64 t2.1.1) <|
  T.store ⟨r3, 1, none⟩ (.int .i64 t2.1.2.1) <|
  T.store ⟨r3, 2, none⟩ (.slice t2.1.2.2.1.1 t2.1.2.2.1.2.1 t2.1.2.2.1.2.2) <|
  cond (t2.2.1 != (0 : Int))
  (T.join [(.atom .bool)]
  (cond t1
  (cond (decide (t2.2.2.1 ≥ (0 : Int)))
  (cond (decide (t2.2.2.1 ≤ ((ByteArray.size s_0 : Nat) : Int)))
  (T.load (.int .i64) ⟨r3, 0, none⟩ fun (t5 : Int) =>
  T.load (.int .i64) ⟨r3, 1, none⟩ fun (t6 : Int) =>
  T.load .slice ⟨r3, 2, none⟩ fun (t7 : Option Addr × Nat × Nat) =>
  T.call 13 [(.agg #[(.int .i64 t5), (.int .i64 t6), (.slice t7.1 t7.2.1 t7.2.2)]), (.agg #[(.int .i64 (0 : Int)), (.int .i64 (0 : Int)), (.slice none 0 0)])] (.one (.atom .bool)) fun (t8 : Bool) =>
  cond t8
  (cond (t2.2.1 == (30 : Int))
  (T.out [(.bool true)])
  (cond (t2.2.1 == (13 : Int))
  (T.out [(.bool true)])
  (cond (t2.2.1 == (12 : Int))
  (cond (t2.2.2.1 == (0 : Int))
  (T.out [(.bool (decide (((ByteArray.size s_0 : Nat) : Int) > (200 : Int))))])
  (T.out [(.bool false)]))
  (T.out [(.bool false)]))))
  (T.out [(.bool false)]))
  (T.out [(.bool false)]))
  (T.out [(.bool false)]))
  (T.out [(.bool false)])) fun (z4 : Bool × Unit) =>
  T.ret (.bool z4.1))
  (T.load (.int .i64) ⟨r3, 0, none⟩ fun (t9 : Int) =>
  T.load (.int .i64) ⟨r3, 1, none⟩ fun (t10 : Int) =>
  T.load .slice ⟨r3, 2, none⟩ fun (t11 : Option Addr × Nat × Nat) =>
  T.call 19 [(.agg #[(.int .i64 t9), (.int .i64 t10), (.slice t11.1 t11.2.1 t11.2.2)])] (.one (.atom .string)) fun (t12 : ByteArray) =>
  T.call 11 [(.string t12)] (.tuple [(.agg [(.int .i64), (.int .i64), .slice]), (.atom (.int .i64)), (.atom (.int .i64))]) fun (t13 : (Int × Int × (Option Addr × Nat × Nat) × Unit) × Int × Int × Unit) =>
  T.new (.cells #[(.int .i64 (0 : Int)), (.int .i64 (0 : Int)), (.slice none 0 0)] 25 (0, 0)) fun r14 =>
  T.store ⟨r14, 0, none⟩ (.int .i64 t13.1.1) <|
  T.store ⟨r14, 1, none⟩ (.int .i64 t13.1.2.1) <|
  T.store ⟨r14, 2, none⟩ (.slice t13.1.2.2.1.1 t13.1.2.2.1.2.1 t13.1.2.2.1.2.2) <|
  T.join [(.atom .bool)]
  (cond t1
  (cond (t2.2.2.1 == (0 : Int))
  (T.load (.int .i64) ⟨r3, 0, none⟩ fun (t16 : Int) =>
  T.load (.int .i64) ⟨r3, 1, none⟩ fun (t17 : Int) =>
  T.load .slice ⟨r3, 2, none⟩ fun (t18 : Option Addr × Nat × Nat) =>
  T.call 20 [(.agg #[(.int .i64 t16), (.int .i64 t17), (.slice t18.1 t18.2.1 t18.2.2)])] (.one (.atom .bool)) fun (t19 : Bool) =>
  cond t19
  (cond (t13.2.1 == (13 : Int))
  (T.out [(.bool true)])
  (cond (t13.2.1 == (12 : Int))
  (T.out [(.bool true)])
  (cond (t13.2.1 == (0 : Int))
  (T.load (.int .i64) ⟨r3, 0, none⟩ fun (t20 : Int) =>
  T.load (.int .i64) ⟨r3, 1, none⟩ fun (t21 : Int) =>
  T.load .slice ⟨r3, 2, none⟩ fun (t22 : Option Addr × Nat × Nat) =>
  T.load (.int .i64) ⟨r14, 0, none⟩ fun (t23 : Int) =>
  T.load (.int .i64) ⟨r14, 1, none⟩ fun (t24 : Int) =>
  T.load .slice ⟨r14, 2, none⟩ fun (t25 : Option Addr × Nat × Nat) =>
  T.call 13 [(.agg #[(.int .i64 t20), (.int .i64 t21), (.slice t22.1 t22.2.1 t22.2.2)]), (.agg #[(.int .i64 t23), (.int .i64 t24), (.slice t25.1 t25.2.1 t25.2.2)])] (.one (.atom .bool)) fun (t26 : Bool) =>
  T.out [(.bool t26)])
  (T.out [(.bool false)]))))
  (T.out [(.bool false)]))
  (T.out [(.bool false)]))
  (T.out [(.bool false)])) fun (z15 : Bool × Unit) =>
  T.ret (.bool z15.1)))
theorem tronagelaw20_ExprAgain_den (s_0 : ByteArray) : denFun Tryd.prog Tryd.f9 [(.string s_0)] = tronagelaw20_ExprAgain_T s_0 := by kernel_rfl

/-- tronage/tronagelaw20.awake -/
def tronagelaw20_awake_T  : T :=
  T.call 11 [(.string { data := #[36, 49, 32, 43, 32, 36, 51, 32, 42, 32, 45, 50] })] (.tuple [(.agg [(.int .i64), (.int .i64), .slice]), (.atom (.int .i64)), (.atom (.int .i64))]) fun (t1 : (Int × Int × (Option Addr × Nat × Nat) × Unit) × Int × Int × Unit) =>
  T.new (.cells #[(.int .i64 (0 : Int)), (.int .i64 (0 : Int)), (.slice none 0 0)] 25 (0, 0)) fun r2 =>
  T.store ⟨r2, 0, none⟩ (.int .i64 t1.1.1) <|
  T.store ⟨r2, 1, none⟩ (.int .i64 t1.1.2.1) <|
  T.store ⟨r2, 2, none⟩ (.slice t1.1.2.2.1.1 t1.1.2.2.1.2.1 t1.1.2.2.1.2.2) <|
  T.call 11 [(.string { data := #[49, 32, 43] })] (.tuple [(.agg [(.int .i64), (.int .i64), .slice]), (.atom (.int .i64)), (.atom (.int .i64))]) fun (t3 : (Int × Int × (Option Addr × Nat × Nat) × Unit) × Int × Int × Unit) =>
  T.new (.cells #[(.int .i64 (0 : Int)), (.int .i64 (0 : Int)), (.slice none 0 0)] 25 (0, 0)) fun r4 =>
  T.store ⟨r4, 0, none⟩ (.int .i64 t3.1.1) <|
  T.store ⟨r4, 1, none⟩ (.int .i64 t3.1.2.1) <|
  T.store ⟨r4, 2, none⟩ (.slice t3.1.2.2.1.1 t3.1.2.2.1.2.1 t3.1.2.2.1.2.2) <|
  T.call 11 [(.string { data := #[36, 32, 49] })] (.tuple [(.agg [(.int .i64), (.int .i64), .slice]), (.atom (.int .i64)), (.atom (.int .i64))]) fun (t5 : (Int × Int × (Option Addr × Nat × Nat) × Unit) × Int × Int × Unit) =>
  T.new (.cells #[(.int .i64 (0 : Int)), (.int .i64 (0 : Int)), (.slice none 0 0)] 25 (0, 0)) fun r6 =>
  T.store ⟨r6, 0, none⟩ (.int .i64 t5.1.1) <|
  T.store ⟨r6, 1, none⟩ (.int .i64 t5.1.2.1) <|
  T.store ⟨r6, 2, none⟩ (.slice t5.1.2.2.1.1 t5.1.2.2.1.2.1 t5.1.2.2.1.2.2) <|
  T.join [(.atom .bool)]
  (cond (t1.2.1 == (0 : Int))
  (T.load (.int .i64) ⟨r2, 0, none⟩ fun (t8 : Int) =>
  T.load (.int .i64) ⟨r2, 1, none⟩ fun (t9 : Int) =>
  T.load .slice ⟨r2, 2, none⟩ fun (t10 : Option Addr × Nat × Nat) =>
  T.call 19 [(.agg #[(.int .i64 t8), (.int .i64 t9), (.slice t10.1 t10.2.1 t10.2.2)])] (.one (.atom .string)) fun (t11 : ByteArray) =>
  cond (ByteArray.toList t11 == ByteArray.toList { data := #[40, 36, 49, 32, 43, 32, 40, 36, 51, 32, 42, 32, 40, 45, 50, 41, 41, 41] })
  (T.load (.int .i64) ⟨r2, 0, none⟩ fun (t12 : Int) =>
  T.load (.int .i64) ⟨r2, 1, none⟩ fun (t13 : Int) =>
  T.load .slice ⟨r2, 2, none⟩ fun (t14 : Option Addr × Nat × Nat) =>
  T.call 16 [(.agg #[(.int .i64 t12), (.int .i64 t13), (.slice t14.1 t14.2.1 t14.2.2)])] (.one (.atom (.int .i64))) fun (t15 : Int) =>
  cond (t15 == (6 : Int))
  (T.load (.int .i64) ⟨r2, 0, none⟩ fun (t16 : Int) =>
  T.load (.int .i64) ⟨r2, 1, none⟩ fun (t17 : Int) =>
  T.load .slice ⟨r2, 2, none⟩ fun (t18 : Option Addr × Nat × Nat) =>
  T.call 22 [(.agg #[(.int .i64 t16), (.int .i64 t17), (.slice t18.1 t18.2.1 t18.2.2)])] (.one (.atom (.int .i64))) fun (t19 : Int) =>
  cond (t19 == (3 : Int))
  (cond (t3.2.1 == (30 : Int))
  (cond (t3.2.2.1 == (3 : Int))
  (cond (t5.2.1 == (30 : Int))
  (T.out [(.bool (t5.2.2.1 == (1 : Int)))])
  (T.out [(.bool false)]))
  (T.out [(.bool false)]))
  (T.out [(.bool false)]))
  (T.out [(.bool false)]))
  (T.out [(.bool false)]))
  (T.out [(.bool false)]))
  (T.out [(.bool false)])) fun (z7 : Bool × Unit) =>
  T.ret (.bool z7.1)
theorem tronagelaw20_awake_den  : denFun Tryd.prog Tryd.f10 [] = tronagelaw20_awake_T  := by kernel_rfl

/-- tronage/expr.Read -/
def expr_Read_T (s_0 : ByteArray) : T :=
  T.new (.cells #[(.int .i64 (0 : Int)), (.int .i64 (0 : Int)), (.slice none 0 0)] 25 (0, 0)) fun r1 =>
  T.new (.cells #[(.int .i64 (0 : Int))] 26 (0, 0)) fun r2 =>
  T.new (.cells #[(.int .i64 (0 : Int))] 3 (0, 0)) fun r3 =>
  cond (decide (((ByteArray.size s_0 : Nat) : Int) > (200 : Int)))
  (T.store ⟨r1, 0, none⟩ (.int .i64 (0 : Int)) <|
  T.store ⟨r1, 1, none⟩ (.int .i64 (0 : Int)) <|
  T.store ⟨r1, 2, none⟩ (.slice none 0 0) <|
  T.store ⟨r2, 0, none⟩ (.int .i64 (12 : Int)) <|
  T.store ⟨r3, 0, none⟩ (.int .i64 (0 : Int)) <|
  T.load (.int .i64) ⟨r1, 0, none⟩ fun (res4 : Int) =>
  T.load (.int .i64) ⟨r1, 1, none⟩ fun (res5 : Int) =>
  T.load .slice ⟨r1, 2, none⟩ fun (res6 : Option Addr × Nat × Nat) =>
  T.load (.int .i64) ⟨r2, 0, none⟩ fun (res7 : Int) =>
  T.load (.int .i64) ⟨r3, 0, none⟩ fun (res8 : Int) =>
  T.ret (.tuple #[(.agg #[(.int .i64 res4), (.int .i64 res5), (.slice res6.1 res6.2.1 res6.2.2)]), (.int .i64 res7), (.int .i64 res8)]))
  (T.later 24 [(.pointer (some ⟨r1, 0, none⟩)), (.pointer (some ⟨r2, 0, none⟩)), (.pointer (some ⟨r3, 0, none⟩))]
  (T.new (.cells #[(.string s_0), (.int .i64 (0 : Int)), (.int .i64 (0 : Int))] 45 (0, 0)) fun r9 =>
  T.join [(.atom .bool)]
  (T.call 25 [(.pointer (some ⟨r9, 0, none⟩))] (.one (.atom (.int .u8))) fun (t11 : Int) =>
  cond (t11 == (0 : Int))
  (T.load (.int .i64) ⟨r9, 1, none⟩ fun (t12 : Int) =>
  T.out [(.bool (t12 == ((ByteArray.size s_0 : Nat) : Int)))])
  (T.out [(.bool false)])) fun (z10 : Bool × Unit) =>
  cond z10.1
  (T.store ⟨r1, 0, none⟩ (.int .i64 (0 : Int)) <|
  T.store ⟨r1, 1, none⟩ (.int .i64 (0 : Int)) <|
  T.store ⟨r1, 2, none⟩ (.slice none 0 0) <|
  T.store ⟨r2, 0, none⟩ (.int .i64 (0 : Int)) <|
  T.store ⟨r3, 0, none⟩ (.int .i64 (0 : Int)) <|
  T.ret .nilIface)
  (T.call 26 [(.pointer (some ⟨r9, 0, none⟩))] (.one (.agg [(.int .i64), (.int .i64), .slice])) fun (t13 : Int × Int × (Option Addr × Nat × Nat) × Unit) =>
  T.store ⟨r1, 0, none⟩ (.int .i64 t13.1) <|
  T.store ⟨r1, 1, none⟩ (.int .i64 t13.2.1) <|
  T.store ⟨r1, 2, none⟩ (.slice t13.2.2.1.1 t13.2.2.1.2.1 t13.2.2.1.2.2) <|
  T.call 25 [(.pointer (some ⟨r9, 0, none⟩))] (.one (.atom (.int .u8))) fun (t14 : Int) =>
  T.load (.int .i64) ⟨r9, 1, none⟩ fun (t15 : Int) =>
  T.join []
  (cond (decide (t15 < ((ByteArray.size s_0 : Nat) : Int)))
  (T.call 27 [(.pointer (some ⟨r9, 0, none⟩)), (.int .i64 (30 : Int))] (.tuple []) fun (t17 : Unit) =>
  T.out [])
  (T.out [])) fun (z16 : Unit) =>
  T.load (.int .i64) ⟨r1, 0, none⟩ fun (t18 : Int) =>
  T.load (.int .i64) ⟨r1, 1, none⟩ fun (t19 : Int) =>
  T.load .slice ⟨r1, 2, none⟩ fun (t20 : Option Addr × Nat × Nat) =>
  T.store ⟨r1, 0, none⟩ (.int .i64 t18) <|
  T.store ⟨r1, 1, none⟩ (.int .i64 t19) <|
  T.store ⟨r1, 2, none⟩ (.slice t20.1 t20.2.1 t20.2.2) <|
  T.store ⟨r2, 0, none⟩ (.int .i64 (0 : Int)) <|
  T.store ⟨r3, 0, none⟩ (.int .i64 (0 : Int)) <|
  T.ret .nilIface))
  (T.load (.int .i64) ⟨r1, 0, none⟩ fun (res21 : Int) =>
  T.load (.int .i64) ⟨r1, 1, none⟩ fun (res22 : Int) =>
  T.load .slice ⟨r1, 2, none⟩ fun (res23 : Option Addr × Nat × Nat) =>
  T.load (.int .i64) ⟨r2, 0, none⟩ fun (res24 : Int) =>
  T.load (.int .i64) ⟨r3, 0, none⟩ fun (res25 : Int) =>
  T.ret (.tuple #[(.agg #[(.int .i64 res21), (.int .i64 res22), (.slice res23.1 res23.2.1 res23.2.2)]), (.int .i64 res24), (.int .i64 res25)])))
theorem expr_Read_den (s_0 : ByteArray) : denFunD Tryd.prog Tryd.f11 [(.string s_0)] = expr_Read_T s_0 := by kernel_rfl

/-- tronage/tronageref20.Read -/
def tronageref20_Read_T (s_0 : ByteArray) : T :=
  T.new (.cells #[(.int .i64 (0 : Int)), (.int .i64 (0 : Int)), (.slice none 0 0)] 25 (0, 0)) fun r1 =>
  cond (decide (((ByteArray.size s_0 : Nat) : Int) > (200 : Int)))
  (T.store ⟨r1, 0, none⟩ (.int .i64 (0 : Int)) <|
  T.store ⟨r1, 1, none⟩ (.int .i64 (0 : Int)) <|
  T.store ⟨r1, 2, none⟩ (.slice none 0 0) <|
  T.load (.int .i64) ⟨r1, 0, none⟩ fun (res2 : Int) =>
  T.load (.int .i64) ⟨r1, 1, none⟩ fun (res3 : Int) =>
  T.load .slice ⟨r1, 2, none⟩ fun (res4 : Option Addr × Nat × Nat) =>
  T.ret (.tuple #[(.agg #[(.int .i64 res2), (.int .i64 res3), (.slice res4.1 res4.2.1 res4.2.2)]), (.int .i64 (12 : Int)), (.int .i64 (0 : Int))]))
  (T.new (.cells #[(.string s_0), (.int .i64 (0 : Int)), (.int .i64 (0 : Int)), (.int .i64 (0 : Int)), (.int .i64 (0 : Int))] 51 (0, 0)) fun r5 =>
  T.call 28 [(.pointer (some ⟨r5, 0, none⟩))] (.one (.atom (.int .i64))) fun (t6 : Int) =>
  cond (decide (t6 < (0 : Int)))
  (T.store ⟨r1, 0, none⟩ (.int .i64 (0 : Int)) <|
  T.store ⟨r1, 1, none⟩ (.int .i64 (0 : Int)) <|
  T.store ⟨r1, 2, none⟩ (.slice none 0 0) <|
  T.load (.int .i64) ⟨r1, 0, none⟩ fun (res7 : Int) =>
  T.load (.int .i64) ⟨r1, 1, none⟩ fun (res8 : Int) =>
  T.load .slice ⟨r1, 2, none⟩ fun (res9 : Option Addr × Nat × Nat) =>
  T.ret (.tuple #[(.agg #[(.int .i64 res7), (.int .i64 res8), (.slice res9.1 res9.2.1 res9.2.2)]), (.int .i64 (0 : Int)), (.int .i64 (0 : Int))]))
  (T.call 29 [(.pointer (some ⟨r5, 0, none⟩))] (.one (.agg [(.int .i64), (.int .i64), .slice])) fun (t10 : Int × Int × (Option Addr × Nat × Nat) × Unit) =>
  T.new (.cells #[(.int .i64 (0 : Int)), (.int .i64 (0 : Int)), (.slice none 0 0)] 25 (0, 0)) fun r11 =>
  T.store ⟨r11, 0, none⟩ (.int .i64 t10.1) <|
  T.store ⟨r11, 1, none⟩ (.int .i64 t10.2.1) <|
  T.store ⟨r11, 2, none⟩ (.slice t10.2.2.1.1 t10.2.2.1.2.1 t10.2.2.1.2.2) <|
  T.call 28 [(.pointer (some ⟨r5, 0, none⟩))] (.one (.atom (.int .i64))) fun (t12 : Int) =>
  T.join []
  (cond (decide (t12 ≥ (0 : Int)))
  (T.call 30 [(.pointer (some ⟨r5, 0, none⟩)), (.int .i64 (30 : Int))] (.tuple []) fun (t14 : Unit) =>
  T.out [])
  (T.out [])) fun (z13 : Unit) =>
  T.load (.int .i64) ⟨r5, 3, none⟩ fun (t15 : Int) =>
  cond (t15 != (0 : Int))
  (T.load (.int .i64) ⟨r5, 3, none⟩ fun (t16 : Int) =>
  T.load (.int .i64) ⟨r5, 4, none⟩ fun (t17 : Int) =>
  T.store ⟨r1, 0, none⟩ (.int .i64 (0 : Int)) <|
  T.store ⟨r1, 1, none⟩ (.int .i64 (0 : Int)) <|
  T.store ⟨r1, 2, none⟩ (.slice none 0 0) <|
  T.still ⟨r5, 4, none⟩ (.int .i64 t17) <|
  T.still ⟨r5, 3, none⟩ (.int .i64 t16) <|
  T.load (.int .i64) ⟨r1, 0, none⟩ fun (res18 : Int) =>
  T.load (.int .i64) ⟨r1, 1, none⟩ fun (res19 : Int) =>
  T.load .slice ⟨r1, 2, none⟩ fun (res20 : Option Addr × Nat × Nat) =>
  T.ret (.tuple #[(.agg #[(.int .i64 res18), (.int .i64 res19), (.slice res20.1 res20.2.1 res20.2.2)]), (.int .i64 t16), (.int .i64 t17)]))
  (T.load (.int .i64) ⟨r11, 0, none⟩ fun (t21 : Int) =>
  T.load (.int .i64) ⟨r11, 1, none⟩ fun (t22 : Int) =>
  T.load .slice ⟨r11, 2, none⟩ fun (t23 : Option Addr × Nat × Nat) =>
  T.store ⟨r1, 0, none⟩ (.int .i64 t21) <|
  T.store ⟨r1, 1, none⟩ (.int .i64 t22) <|
  T.store ⟨r1, 2, none⟩ (.slice t23.1 t23.2.1 t23.2.2) <|
  T.load (.int .i64) ⟨r1, 0, none⟩ fun (res24 : Int) =>
  T.load (.int .i64) ⟨r1, 1, none⟩ fun (res25 : Int) =>
  T.load .slice ⟨r1, 2, none⟩ fun (res26 : Option Addr × Nat × Nat) =>
  T.ret (.tuple #[(.agg #[(.int .i64 res24), (.int .i64 res25), (.slice res26.1 res26.2.1 res26.2.2)]), (.int .i64 (0 : Int)), (.int .i64 (0 : Int))]))))
theorem tronageref20_Read_den (s_0 : ByteArray) : denFun Tryd.prog Tryd.f12 [(.string s_0)] = tronageref20_Read_T s_0 := by kernel_rfl

/-- tronage/tronageref20.Same -/
def tronageref20_Same_T (a_0 : Int × Int × (Option Addr × Nat × Nat) × Unit) (b_1 : Int × Int × (Option Addr × Nat × Nat) × Unit) : T :=
  T.new (.cells #[(.int .i64 a_0.1), (.int .i64 a_0.2.1), (.slice a_0.2.2.1.1 a_0.2.2.1.2.1 a_0.2.2.1.2.2)] 25 (0, 0)) fun r1 =>
  T.new (.cells #[(.int .i64 b_1.1), (.int .i64 b_1.2.1), (.slice b_1.2.2.1.1 b_1.2.2.1.2.1 b_1.2.2.1.2.2)] 25 (0, 0)) fun r2 =>
  T.join [(.atom .bool)]
  (T.load (.int .i64) ⟨r1, 0, none⟩ fun (t4 : Int) =>
  T.load (.int .i64) ⟨r2, 0, none⟩ fun (t5 : Int) =>
  cond (t4 != t5)
  (T.out [(.bool true)])
  (T.load (.int .i64) ⟨r1, 1, none⟩ fun (t6 : Int) =>
  T.load (.int .i64) ⟨r2, 1, none⟩ fun (t7 : Int) =>
  cond (t6 != t7)
  (T.out [(.bool true)])
  (T.load .slice ⟨r1, 2, none⟩ fun (t8 : Option Addr × Nat × Nat) =>
  T.load .slice ⟨r2, 2, none⟩ fun (t9 : Option Addr × Nat × Nat) =>
  T.out [(.bool (((t8.2.1 : Nat) : Int) != ((t9.2.1 : Nat) : Int)))]))) fun (z3 : Bool × Unit) =>
  cond z3.1
  (T.ret (.bool false))
  (T.block 0 [(.atom (.int .i64)), (.atom .bool)]
  (T.loop [(.atom (.int .i64)), (.atom .bool)] [(.int .i64 (0 : Int)), (.bool false)] fun (z11 : Int × Bool × Unit) =>
  T.load .slice ⟨r1, 2, none⟩ fun (t12 : Option Addr × Nat × Nat) =>
  cond (decide (z11.1 < ((t12.2.1 : Nat) : Int)))
  (T.load .slice ⟨r1, 2, none⟩ fun (t13 : Option Addr × Nat × Nat) =>
  deref t13.1 fun a14 =>
  chk (0 ≤ z11.1 ∧ z11.1 < (t13.2.1 : Nat)) <|
  T.load (.int .i64) (a14.add (Int.toNat z11.1 * 3)) fun (t15 : Int) =>
  T.load (.int .i64) ((a14.add (Int.toNat z11.1 * 3)).add 1) fun (t16 : Int) =>
  T.load .slice ((a14.add (Int.toNat z11.1 * 3)).add 2) fun (t17 : Option Addr × Nat × Nat) =>
  T.load .slice ⟨r2, 2, none⟩ fun (t18 : Option Addr × Nat × Nat) =>
  deref t18.1 fun a19 =>
  chk (0 ≤ z11.1 ∧ z11.1 < (t18.2.1 : Nat)) <|
  T.load (.int .i64) (a19.add (Int.toNat z11.1 * 3)) fun (t20 : Int) =>
  T.load (.int .i64) ((a19.add (Int.toNat z11.1 * 3)).add 1) fun (t21 : Int) =>
  T.load .slice ((a19.add (Int.toNat z11.1 * 3)).add 2) fun (t22 : Option Addr × Nat × Nat) =>
  T.call 13 [(.agg #[(.int .i64 t15), (.int .i64 t16), (.slice t17.1 t17.2.1 t17.2.2)]), (.agg #[(.int .i64 t20), (.int .i64 t21), (.slice t22.1 t22.2.1 t22.2.2)])] (.one (.atom .bool)) fun (t23 : Bool) =>
  cond (!t23)
  (T.ret (.bool false))
  (T.out [(.int .i64 (IntKind.wrap .i64 (z11.1 + (1 : Int)))), (.bool z11.2.1)]))
  (T.brk 0 [(.int .i64 z11.1), (.bool z11.2.1)])) fun (z10 : Int × Bool × Unit) =>
  T.ret (.bool true))
theorem tronageref20_Same_den (a_0 : Int × Int × (Option Addr × Nat × Nat) × Unit) (b_1 : Int × Int × (Option Addr × Nat × Nat) × Unit) : denFun Tryd.prog Tryd.f13 [(.agg #[(.int .i64 a_0.1), (.int .i64 a_0.2.1), (.slice a_0.2.2.1.1 a_0.2.2.1.2.1 a_0.2.2.1.2.2)]), (.agg #[(.int .i64 b_1.1), (.int .i64 b_1.2.1), (.slice b_1.2.2.1.1 b_1.2.2.1.2.1 b_1.2.2.1.2.2)])] = tronageref20_Same_T a_0 b_1 := by kernel_rfl

/-- tronage/tronageref20.Show -/
def tronageref20_Show_T (x_0 : Int × Int × (Option Addr × Nat × Nat) × Unit) : T :=
  T.new (.cells #[(.int .i64 x_0.1), (.int .i64 x_0.2.1), (.slice x_0.2.2.1.1 x_0.2.2.1.2.1 x_0.2.2.1.2.2)] 25 (0, 0)) fun r1 =>
  T.load (.int .i64) ⟨r1, 0, none⟩ fun (t2 : Int) =>
  cond (t2 == (1 : Int))
  (T.load (.int .i64) ⟨r1, 1, none⟩ fun (t3 : Int) =>
  T.call 31 [(.int .i64 t3)] (.one (.atom .string)) fun (t4 : ByteArray) =>
  T.ret (.string t4))
  (cond (t2 == (2 : Int))
  (T.load (.int .i64) ⟨r1, 1, none⟩ fun (t5 : Int) =>
  T.call 31 [(.int .i64 t5)] (.one (.atom .string)) fun (t6 : ByteArray) =>
  chk (((ByteArray.size { data := #[36] } + ByteArray.size t6 : Nat) : Int) ≤ IntKind.max .i64) <|
  T.ret (.string ({ data := #[36] } ++ t6)))
  (cond (t2 == (3 : Int))
  (T.load (.int .i64) ⟨r1, 1, none⟩ fun (t7 : Int) =>
  T.call 31 [(.int .i64 t7)] (.one (.atom .string)) fun (t8 : ByteArray) =>
  chk (((ByteArray.size { data := #[64] } + ByteArray.size t8 : Nat) : Int) ≤ IntKind.max .i64) <|
  T.ret (.string ({ data := #[64] } ++ t8)))
  (cond (t2 == (4 : Int))
  (T.load .slice ⟨r1, 2, none⟩ fun (t9 : Option Addr × Nat × Nat) =>
  deref t9.1 fun a10 =>
  chk (0 ≤ (0 : Int) ∧ (0 : Int) < (t9.2.1 : Nat)) <|
  T.load (.int .i64) (a10.add (Int.toNat (0 : Int) * 3)) fun (t11 : Int) =>
  T.load (.int .i64) ((a10.add (Int.toNat (0 : Int) * 3)).add 1) fun (t12 : Int) =>
  T.load .slice ((a10.add (Int.toNat (0 : Int) * 3)).add 2) fun (t13 : Option Addr × Nat × Nat) =>
  T.call 14 [(.agg #[(.int .i64 t11), (.int .i64 t12), (.slice t13.1 t13.2.1 t13.2.2)])] (.one (.atom .string)) fun (t14 : ByteArray) =>
  chk (((ByteArray.size { data := #[40, 45] } + ByteArray.size t14 : Nat) : Int) ≤ IntKind.max .i64) <|
  chk (((ByteArray.size ({ data := #[40, 45] } ++ t14) + ByteArray.size { data := #[41] } : Nat) : Int) ≤ IntKind.max .i64) <|
  T.ret (.string (({ data := #[40, 45] } ++ t14) ++ { data := #[41] })))
  (T.join [(.atom .bool)]
  (cond (t2 == (5 : Int))
  (T.out [(.bool (t2 == (5 : Int)))])
  (T.join [(.atom .bool)]
  (cond (t2 == (6 : Int))
  (T.out [(.bool (t2 == (6 : Int)))])
  (T.join [(.atom .bool)]
  (cond (t2 == (7 : Int))
  (T.out [(.bool (t2 == (7 : Int)))])
  (T.join [(.atom .bool)]
  (cond (t2 == (8 : Int))
  (T.out [(.bool (t2 == (8 : Int)))])
  (T.out [(.bool (t2 == (9 : Int)))])) fun (z18 : Bool × Unit) =>
  T.out [(.bool z18.1)])) fun (z17 : Bool × Unit) =>
  T.out [(.bool z17.1)])) fun (z16 : Bool × Unit) =>
  T.out [(.bool z16.1)])) fun (z15 : Bool × Unit) =>
  cond z15.1
  (T.load .slice ⟨r1, 2, none⟩ fun (t19 : Option Addr × Nat × Nat) =>
  deref t19.1 fun a20 =>
  chk (0 ≤ (0 : Int) ∧ (0 : Int) < (t19.2.1 : Nat)) <|
  T.load (.int .i64) (a20.add (Int.toNat (0 : Int) * 3)) fun (t21 : Int) =>
  T.load (.int .i64) ((a20.add (Int.toNat (0 : Int) * 3)).add 1) fun (t22 : Int) =>
  T.load .slice ((a20.add (Int.toNat (0 : Int) * 3)).add 2) fun (t23 : Option Addr × Nat × Nat) =>
  T.load (.int .i64) ⟨r1, 0, none⟩ fun (t24 : Int) =>
  T.load (.int .i64) ⟨r1, 0, none⟩ fun (t25 : Int) =>
  chk (0 ≤ (IntKind.wrap .i64 (t24 - (5 : Int))) ∧ (IntKind.wrap .i64 (t24 - (5 : Int))) ≤ (IntKind.wrap .i64 (t25 - (4 : Int))) ∧ (IntKind.wrap .i64 (t25 - (4 : Int))) ≤ (ByteArray.size { data := #[43, 45, 42, 47, 37] } : Nat)) <|
  T.load .slice ⟨r1, 2, none⟩ fun (t26 : Option Addr × Nat × Nat) =>
  deref t26.1 fun a27 =>
  chk (0 ≤ (1 : Int) ∧ (1 : Int) < (t26.2.1 : Nat)) <|
  T.load (.int .i64) (a27.add (Int.toNat (1 : Int) * 3)) fun (t28 : Int) =>
  T.load (.int .i64) ((a27.add (Int.toNat (1 : Int) * 3)).add 1) fun (t29 : Int) =>
  T.load .slice ((a27.add (Int.toNat (1 : Int) * 3)).add 2) fun (t30 : Option Addr × Nat × Nat) =>
  T.call 14 [(.agg #[(.int .i64 t21), (.int .i64 t22), (.slice t23.1 t23.2.1 t23.2.2)])] (.one (.atom .string)) fun (t31 : ByteArray) =>
  T.still (a27.add (Int.toNat (1 : Int) * 3)) (.int .i64 t28) <|
  T.still ((a27.add (Int.toNat (1 : Int) * 3)).add 1) (.int .i64 t29) <|
  T.still ((a27.add (Int.toNat (1 : Int) * 3)).add 2) (.slice t30.1 t30.2.1 t30.2.2) <|
  T.still ⟨r1, 2, none⟩ (.slice t26.1 t26.2.1 t26.2.2) <|
  T.still ⟨r1, 0, none⟩ (.int .i64 t25) <|
  T.still ⟨r1, 0, none⟩ (.int .i64 t24) <|
  chk (((ByteArray.size { data := #[40] } + ByteArray.size t31 : Nat) : Int) ≤ IntKind.max .i64) <|
  chk (((ByteArray.size ({ data := #[40] } ++ t31) + ByteArray.size { data := #[32] } : Nat) : Int) ≤ IntKind.max .i64) <|
  chk (((ByteArray.size (({ data := #[40] } ++ t31) ++ { data := #[32] }) + ByteArray.size (ByteArray.extract { data := #[43, 45, 42, 47, 37] } (Int.toNat (IntKind.wrap .i64 (t24 - (5 : Int)))) (Int.toNat (IntKind.wrap .i64 (t25 - (4 : Int))))) : Nat) : Int) ≤ IntKind.max .i64) <|
  chk (((ByteArray.size ((({ data := #[40] } ++ t31) ++ { data := #[32] }) ++ (ByteArray.extract { data := #[43, 45, 42, 47, 37] } (Int.toNat (IntKind.wrap .i64 (t24 - (5 : Int)))) (Int.toNat (IntKind.wrap .i64 (t25 - (4 : Int)))))) + ByteArray.size { data := #[32] } : Nat) : Int) ≤ IntKind.max .i64) <|
  T.call 14 [(.agg #[(.int .i64 t28), (.int .i64 t29), (.slice t30.1 t30.2.1 t30.2.2)])] (.one (.atom .string)) fun (t32 : ByteArray) =>
  T.still ⟨r1, 0, none⟩ (.int .i64 t25) <|
  T.still ⟨r1, 0, none⟩ (.int .i64 t24) <|
  chk (((ByteArray.size (((({ data := #[40] } ++ t31) ++ { data := #[32] }) ++ (ByteArray.extract { data := #[43, 45, 42, 47, 37] } (Int.toNat (IntKind.wrap .i64 (t24 - (5 : Int)))) (Int.toNat (IntKind.wrap .i64 (t25 - (4 : Int)))))) ++ { data := #[32] }) + ByteArray.size t32 : Nat) : Int) ≤ IntKind.max .i64) <|
  chk (((ByteArray.size ((((({ data := #[40] } ++ t31) ++ { data := #[32] }) ++ (ByteArray.extract { data := #[43, 45, 42, 47, 37] } (Int.toNat (IntKind.wrap .i64 (t24 - (5 : Int)))) (Int.toNat (IntKind.wrap .i64 (t25 - (4 : Int)))))) ++ { data := #[32] }) ++ t32) + ByteArray.size { data := #[41] } : Nat) : Int) ≤ IntKind.max .i64) <|
  T.ret (.string (((((({ data := #[40] } ++ t31) ++ { data := #[32] }) ++ (ByteArray.extract { data := #[43, 45, 42, 47, 37] } (Int.toNat (IntKind.wrap .i64 (t24 - (5 : Int)))) (Int.toNat (IntKind.wrap .i64 (t25 - (4 : Int)))))) ++ { data := #[32] }) ++ t32) ++ { data := #[41] })))
  (T.ret (.string { data := #[] }))))))
theorem tronageref20_Show_den (x_0 : Int × Int × (Option Addr × Nat × Nat) × Unit) : denFun Tryd.prog Tryd.f14 [(.agg #[(.int .i64 x_0.1), (.int .i64 x_0.2.1), (.slice x_0.2.2.1.1 x_0.2.2.1.2.1 x_0.2.2.1.2.2)])] = tronageref20_Show_T x_0 := by kernel_rfl

/-- tronage/tronagelaw20.join -/
def tronagelaw20_join_T (sum_0 : Int × Int × (Option Addr × Nat × Nat) × Unit) (kind_1 : Int) (product_2 : Int × Int × (Option Addr × Nat × Nat) × Unit) : T :=
  T.new (.cells #[(.int .i64 sum_0.1), (.int .i64 sum_0.2.1), (.slice sum_0.2.2.1.1 sum_0.2.2.1.2.1 sum_0.2.2.1.2.2)] 25 (0, 0)) fun r1 =>
  T.new (.cells #[(.int .i64 product_2.1), (.int .i64 product_2.2.1), (.slice product_2.2.2.1.1 product_2.2.2.1.2.1 product_2.2.2.1.2.2)] 25 (0, 0)) fun r2 =>
  T.new (.cells #[(.int .i64 (0 : Int)), (.int .i64 (0 : Int)), (.slice none 0 0)] 25 (0, 0)) fun r3 =>
  cond (kind_1 == (0 : Int))
  (T.load (.int .i64) ⟨r2, 0, none⟩ fun (t4 : Int) =>
  T.load (.int .i64) ⟨r2, 1, none⟩ fun (t5 : Int) =>
  T.load .slice ⟨r2, 2, none⟩ fun (t6 : Option Addr × Nat × Nat) =>
  T.store ⟨r3, 0, none⟩ (.int .i64 t4) <|
  T.store ⟨r3, 1, none⟩ (.int .i64 t5) <|
  T.store ⟨r3, 2, none⟩ (.slice t6.1 t6.2.1 t6.2.2) <|
  T.load (.int .i64) ⟨r3, 0, none⟩ fun (res7 : Int) =>
  T.load (.int .i64) ⟨r3, 1, none⟩ fun (res8 : Int) =>
  T.load .slice ⟨r3, 2, none⟩ fun (res9 : Option Addr × Nat × Nat) =>
  T.ret (.agg #[(.int .i64 res7), (.int .i64 res8), (.slice res9.1 res9.2.1 res9.2.2)]))
  (T.load (.int .i64) ⟨r1, 0, none⟩ fun (t10 : Int) =>
  T.load (.int .i64) ⟨r1, 1, none⟩ fun (t11 : Int) =>
  T.load .slice ⟨r1, 2, none⟩ fun (t12 : Option Addr × Nat × Nat) =>
  T.load (.int .i64) ⟨r2, 0, none⟩ fun (t13 : Int) =>
  T.load (.int .i64) ⟨r2, 1, none⟩ fun (t14 : Int) =>
  T.load .slice ⟨r2, 2, none⟩ fun (t15 : Option Addr × Nat × Nat) =>
  T.new (.cells #[(.int .i64 t10), (.int .i64 t11), (.slice t12.1 t12.2.1 t12.2.2), (.int .i64 t13), (.int .i64 t14), (.slice t15.1 t15.2.1 t15.2.2)] 25 (0, 0)) fun r16 =>
  T.store ⟨r3, 0, none⟩ (.int .i64 kind_1) <|
  T.store ⟨r3, 1, none⟩ (.int .i64 (0 : Int)) <|
  T.store ⟨r3, 2, none⟩ (.slice (some ⟨r16, 0, none⟩) 2 2) <|
  T.load (.int .i64) ⟨r3, 0, none⟩ fun (res17 : Int) =>
  T.load (.int .i64) ⟨r3, 1, none⟩ fun (res18 : Int) =>
  T.load .slice ⟨r3, 2, none⟩ fun (res19 : Option Addr × Nat × Nat) =>
  T.ret (.agg #[(.int .i64 res17), (.int .i64 res18), (.slice res19.1 res19.2.1 res19.2.2)]))
theorem tronagelaw20_join_den (sum_0 : Int × Int × (Option Addr × Nat × Nat) × Unit) (kind_1 : Int) (product_2 : Int × Int × (Option Addr × Nat × Nat) × Unit) : denFun Tryd.prog Tryd.f15 [(.agg #[(.int .i64 sum_0.1), (.int .i64 sum_0.2.1), (.slice sum_0.2.2.1.1 sum_0.2.2.1.2.1 sum_0.2.2.1.2.2)]), (.int .i64 kind_1), (.agg #[(.int .i64 product_2.1), (.int .i64 product_2.2.1), (.slice product_2.2.2.1.1 product_2.2.2.1.2.1 product_2.2.2.1.2.2)])] = tronagelaw20_join_T sum_0 kind_1 product_2 := by kernel_rfl

/-- tronage/expr.Size -/
def expr_Size_T (x_0 : Int × Int × (Option Addr × Nat × Nat) × Unit) : T :=
  T.new (.cells #[(.int .i64 x_0.1), (.int .i64 x_0.2.1), (.slice x_0.2.2.1.1 x_0.2.2.1.2.1 x_0.2.2.1.2.2)] 25 (0, 0)) fun r1 =>
  T.load (.int .i64) ⟨r1, 0, none⟩ fun (t2 : Int) =>
  cond (t2 == (0 : Int))
  (T.ret (.int .i64 (0 : Int)))
  (T.load .slice ⟨r1, 2, none⟩ fun (t3 : Option Addr × Nat × Nat) =>
  T.block 0 [(.atom (.int .i64)), (.atom (.int .i64))]
  (T.loop [(.atom (.int .i64)), (.atom (.int .i64))] [(.int .i64 (0 : Int)), (.int .i64 (1 : Int))] fun (z5 : Int × Int × Unit) =>
  cond (decide (z5.1 < ((t3.2.1 : Nat) : Int)))
  (deref t3.1 fun a6 =>
  chk (0 ≤ z5.1 ∧ z5.1 < (t3.2.1 : Nat)) <|
  T.load (.int .i64) (a6.add (Int.toNat z5.1 * 3)) fun (t7 : Int) =>
  T.load (.int .i64) ((a6.add (Int.toNat z5.1 * 3)).add 1) fun (t8 : Int) =>
  T.load .slice ((a6.add (Int.toNat z5.1 * 3)).add 2) fun (t9 : Option Addr × Nat × Nat) =>
  T.new (.cells #[(.int .i64 (0 : Int)), (.int .i64 (0 : Int)), (.slice none 0 0)] 25 (0, 0)) fun r10 =>
  T.store ⟨r10, 0, none⟩ (.int .i64 t7) <|
  T.store ⟨r10, 1, none⟩ (.int .i64 t8) <|
  T.store ⟨r10, 2, none⟩ (.slice t9.1 t9.2.1 t9.2.2) <|
  T.load (.int .i64) ⟨r10, 0, none⟩ fun (t11 : Int) =>
  T.load (.int .i64) ⟨r10, 1, none⟩ fun (t12 : Int) =>
  T.load .slice ⟨r10, 2, none⟩ fun (t13 : Option Addr × Nat × Nat) =>
  T.call 16 [(.agg #[(.int .i64 t11), (.int .i64 t12), (.slice t13.1 t13.2.1 t13.2.2)])] (.one (.atom (.int .i64))) fun (t14 : Int) =>
  T.out [(.int .i64 (IntKind.wrap .i64 (z5.1 + (1 : Int)))), (.int .i64 (IntKind.wrap .i64 (z5.2.1 + t14)))])
  (T.brk 0 [(.int .i64 z5.1), (.int .i64 z5.2.1)])) fun (z4 : Int × Int × Unit) =>
  T.ret (.int .i64 z4.2.1))
theorem expr_Size_den (x_0 : Int × Int × (Option Addr × Nat × Nat) × Unit) : denFun Tryd.prog Tryd.f16 [(.agg #[(.int .i64 x_0.1), (.int .i64 x_0.2.1), (.slice x_0.2.2.1.1 x_0.2.2.1.2.1 x_0.2.2.1.2.2)])] = expr_Size_T x_0 := by kernel_rfl

/-- tronage/tronageref20.Few -/
def tronageref20_Few_T (x_0 : Int × Int × (Option Addr × Nat × Nat) × Unit) (left_1 : Int) (deep_2 : Int) : T :=
  T.new (.cells #[(.int .i64 x_0.1), (.int .i64 x_0.2.1), (.slice x_0.2.2.1.1 x_0.2.2.1.2.1 x_0.2.2.1.2.2)] 25 (0, 0)) fun r1 =>
  T.join [(.atom .bool)]
  (cond (decide (left_1 ≤ (0 : Int)))
  (T.out [(.bool true)])
  (T.out [(.bool (decide (deep_2 ≤ (0 : Int))))])) fun (z2 : Bool × Unit) =>
  cond z2.1
  (T.ret (.int .i64 (-1 : Int)))
  (T.block 0 [(.atom (.int .i64)), (.atom (.int .i64)), (.atom (.int .i64))]
  (T.loop [(.atom (.int .i64)), (.atom (.int .i64)), (.atom (.int .i64))] [(.int .i64 (0 : Int)), (.int .i64 (IntKind.wrap .i64 (left_1 - (1 : Int)))), (.int .i64 (0 : Int))] fun (z4 : Int × Int × Int × Unit) =>
  T.load .slice ⟨r1, 2, none⟩ fun (t5 : Option Addr × Nat × Nat) =>
  cond (decide (z4.1 < ((t5.2.1 : Nat) : Int)))
  (T.load .slice ⟨r1, 2, none⟩ fun (t6 : Option Addr × Nat × Nat) =>
  deref t6.1 fun a7 =>
  chk (0 ≤ z4.1 ∧ z4.1 < (t6.2.1 : Nat)) <|
  T.load (.int .i64) (a7.add (Int.toNat z4.1 * 3)) fun (t8 : Int) =>
  T.load (.int .i64) ((a7.add (Int.toNat z4.1 * 3)).add 1) fun (t9 : Int) =>
  T.load .slice ((a7.add (Int.toNat z4.1 * 3)).add 2) fun (t10 : Option Addr × Nat × Nat) =>
  T.call 17 [(.agg #[(.int .i64 t8), (.int .i64 t9), (.slice t10.1 t10.2.1 t10.2.2)]), (.int .i64 z4.2.1), (.int .i64 (IntKind.wrap .i64 (deep_2 - (1 : Int))))] (.one (.atom (.int .i64))) fun (t11 : Int) =>
  cond (decide (t11 < (0 : Int)))
  (T.ret (.int .i64 (-1 : Int)))
  (T.out [(.int .i64 (IntKind.wrap .i64 (z4.1 + (1 : Int)))), (.int .i64 t11), (.int .i64 z4.2.2.1)]))
  (T.brk 0 [(.int .i64 z4.1), (.int .i64 z4.2.1), (.int .i64 z4.2.2.1)])) fun (z3 : Int × Int × Int × Unit) =>
  T.ret (.int .i64 z3.2.1))
theorem tronageref20_Few_den (x_0 : Int × Int × (Option Addr × Nat × Nat) × Unit) (left_1 : Int) (deep_2 : Int) : denFun Tryd.prog Tryd.f17 [(.agg #[(.int .i64 x_0.1), (.int .i64 x_0.2.1), (.slice x_0.2.2.1.1 x_0.2.2.1.2.1 x_0.2.2.1.2.2)]), (.int .i64 left_1), (.int .i64 deep_2)] = tronageref20_Few_T x_0 left_1 deep_2 := by kernel_rfl

/-- tronage/tronageref20.Right -/
def tronageref20_Right_T (x_0 : Int × Int × (Option Addr × Nat × Nat) × Unit) : T :=
  T.new (.cells #[(.int .i64 x_0.1), (.int .i64 x_0.2.1), (.slice x_0.2.2.1.1 x_0.2.2.1.2.1 x_0.2.2.1.2.2)] 25 (0, 0)) fun r1 =>
  T.join [(.atom .bool)]
  (T.load (.int .i64) ⟨r1, 0, none⟩ fun (t3 : Int) =>
  cond (t3 == (0 : Int))
  (T.load (.int .i64) ⟨r1, 1, none⟩ fun (t4 : Int) =>
  cond (t4 == (0 : Int))
  (T.load .slice ⟨r1, 2, none⟩ fun (t5 : Option Addr × Nat × Nat) =>
  cond (((t5.2.1 : Nat) : Int) == (0 : Int))
  (T.out [(.bool true)])
  (T.load (.int .i64) ⟨r1, 0, none⟩ fun (t6 : Int) =>
  T.load (.int .i64) ⟨r1, 1, none⟩ fun (t7 : Int) =>
  T.load .slice ⟨r1, 2, none⟩ fun (t8 : Option Addr × Nat × Nat) =>
  T.call 32 [(.agg #[(.int .i64 t6), (.int .i64 t7), (.slice t8.1 t8.2.1 t8.2.2)])] (.one (.atom .bool)) fun (t9 : Bool) =>
  T.out [(.bool t9)]))
  (T.load (.int .i64) ⟨r1, 0, none⟩ fun (t10 : Int) =>
  T.load (.int .i64) ⟨r1, 1, none⟩ fun (t11 : Int) =>
  T.load .slice ⟨r1, 2, none⟩ fun (t12 : Option Addr × Nat × Nat) =>
  T.call 32 [(.agg #[(.int .i64 t10), (.int .i64 t11), (.slice t12.1 t12.2.1 t12.2.2)])] (.one (.atom .bool)) fun (t13 : Bool) =>
  T.out [(.bool t13)]))
  (T.load (.int .i64) ⟨r1, 0, none⟩ fun (t14 : Int) =>
  T.load (.int .i64) ⟨r1, 1, none⟩ fun (t15 : Int) =>
  T.load .slice ⟨r1, 2, none⟩ fun (t16 : Option Addr × Nat × Nat) =>
  T.call 32 [(.agg #[(.int .i64 t14), (.int .i64 t15), (.slice t16.1 t16.2.1 t16.2.2)])] (.one (.atom .bool)) fun (t17 : Bool) =>
  T.out [(.bool t17)])) fun (z2 : Bool × Unit) =>
  T.ret (.bool z2.1)
theorem tronageref20_Right_den (x_0 : Int × Int × (Option Addr × Nat × Nat) × Unit) : denFun Tryd.prog Tryd.f18 [(.agg #[(.int .i64 x_0.1), (.int .i64 x_0.2.1), (.slice x_0.2.2.1.1 x_0.2.2.1.2.1 x_0.2.2.1.2.2)])] = tronageref20_Right_T x_0 := by kernel_rfl

/-- tronage/expr.Show -/
def expr_Show_T (x_0 : Int × Int × (Option Addr × Nat × Nat) × Unit) : T :=
  T.new (.cells #[(.int .i64 x_0.1), (.int .i64 x_0.2.1), (.slice x_0.2.2.1.1 x_0.2.2.1.2.1 x_0.2.2.1.2.2)] 25 (0, 0)) fun r1 =>
  T.load (.int .i64) ⟨r1, 0, none⟩ fun (t2 : Int) =>
  cond (t2 == (1 : Int))
  (T.load (.int .i64) ⟨r1, 1, none⟩ fun (t3 : Int) =>
  T.call 33 [(.int .i64 t3)] (.one (.atom .string)) fun (t4 : ByteArray) =>
  T.ret (.string t4))
  (cond (t2 == (2 : Int))
  (T.load (.int .i64) ⟨r1, 1, none⟩ fun (t5 : Int) =>
  T.call 33 [(.int .i64 t5)] (.one (.atom .string)) fun (t6 : ByteArray) =>
  chk (((ByteArray.size { data := #[36] } + ByteArray.size t6 : Nat) : Int) ≤ IntKind.max .i64) <|
  T.ret (.string ({ data := #[36] } ++ t6)))
  (cond (t2 == (3 : Int))
  (T.load (.int .i64) ⟨r1, 1, none⟩ fun (t7 : Int) =>
  T.call 33 [(.int .i64 t7)] (.one (.atom .string)) fun (t8 : ByteArray) =>
  chk (((ByteArray.size { data := #[64] } + ByteArray.size t8 : Nat) : Int) ≤ IntKind.max .i64) <|
  T.ret (.string ({ data := #[64] } ++ t8)))
  (cond (t2 == (4 : Int))
  (T.load (.int .i64) ⟨r1, 0, none⟩ fun (t9 : Int) =>
  T.load (.int .i64) ⟨r1, 1, none⟩ fun (t10 : Int) =>
  T.load .slice ⟨r1, 2, none⟩ fun (t11 : Option Addr × Nat × Nat) =>
  T.call 34 [(.agg #[(.int .i64 t9), (.int .i64 t10), (.slice t11.1 t11.2.1 t11.2.2)]), (.int .i64 (0 : Int))] (.one (.agg [(.int .i64), (.int .i64), .slice])) fun (t12 : Int × Int × (Option Addr × Nat × Nat) × Unit) =>
  T.call 19 [(.agg #[(.int .i64 t12.1), (.int .i64 t12.2.1), (.slice t12.2.2.1.1 t12.2.2.1.2.1 t12.2.2.1.2.2)])] (.one (.atom .string)) fun (t13 : ByteArray) =>
  chk (((ByteArray.size { data := #[40, 45] } + ByteArray.size t13 : Nat) : Int) ≤ IntKind.max .i64) <|
  chk (((ByteArray.size ({ data := #[40, 45] } ++ t13) + ByteArray.size { data := #[41] } : Nat) : Int) ≤ IntKind.max .i64) <|
  T.ret (.string (({ data := #[40, 45] } ++ t13) ++ { data := #[41] })))
  (T.join [(.atom .bool)]
  (cond (t2 == (5 : Int))
  (T.out [(.bool (t2 == (5 : Int)))])
  (T.join [(.atom .bool)]
  (cond (t2 == (6 : Int))
  (T.out [(.bool (t2 == (6 : Int)))])
  (T.join [(.atom .bool)]
  (cond (t2 == (7 : Int))
  (T.out [(.bool (t2 == (7 : Int)))])
  (T.join [(.atom .bool)]
  (cond (t2 == (8 : Int))
  (T.out [(.bool (t2 == (8 : Int)))])
  (T.out [(.bool (t2 == (9 : Int)))])) fun (z17 : Bool × Unit) =>
  T.out [(.bool z17.1)])) fun (z16 : Bool × Unit) =>
  T.out [(.bool z16.1)])) fun (z15 : Bool × Unit) =>
  T.out [(.bool z15.1)])) fun (z14 : Bool × Unit) =>
  cond z14.1
  (T.load (.int .i64) ⟨r1, 0, none⟩ fun (t18 : Int) =>
  T.load (.int .i64) ⟨r1, 1, none⟩ fun (t19 : Int) =>
  T.load .slice ⟨r1, 2, none⟩ fun (t20 : Option Addr × Nat × Nat) =>
  T.load (.int .i64) ⟨r1, 0, none⟩ fun (t21 : Int) =>
  T.load (.int .i64) ⟨r1, 0, none⟩ fun (t22 : Int) =>
  chk (0 ≤ (IntKind.wrap .i64 (t21 - (5 : Int))) ∧ (IntKind.wrap .i64 (t21 - (5 : Int))) ≤ (IntKind.wrap .i64 ((IntKind.wrap .i64 (t22 - (5 : Int))) + (1 : Int))) ∧ (IntKind.wrap .i64 ((IntKind.wrap .i64 (t22 - (5 : Int))) + (1 : Int))) ≤ (ByteArray.size { data := #[43, 45, 42, 47, 37] } : Nat)) <|
  T.load (.int .i64) ⟨r1, 0, none⟩ fun (t23 : Int) =>
  T.load (.int .i64) ⟨r1, 1, none⟩ fun (t24 : Int) =>
  T.load .slice ⟨r1, 2, none⟩ fun (t25 : Option Addr × Nat × Nat) =>
  T.call 34 [(.agg #[(.int .i64 t18), (.int .i64 t19), (.slice t20.1 t20.2.1 t20.2.2)]), (.int .i64 (0 : Int))] (.one (.agg [(.int .i64), (.int .i64), .slice])) fun (t26 : Int × Int × (Option Addr × Nat × Nat) × Unit) =>
  T.still ⟨r1, 0, none⟩ (.int .i64 t23) <|
  T.still ⟨r1, 1, none⟩ (.int .i64 t24) <|
  T.still ⟨r1, 2, none⟩ (.slice t25.1 t25.2.1 t25.2.2) <|
  T.still ⟨r1, 0, none⟩ (.int .i64 t22) <|
  T.still ⟨r1, 0, none⟩ (.int .i64 t21) <|
  T.call 19 [(.agg #[(.int .i64 t26.1), (.int .i64 t26.2.1), (.slice t26.2.2.1.1 t26.2.2.1.2.1 t26.2.2.1.2.2)])] (.one (.atom .string)) fun (t27 : ByteArray) =>
  T.still ⟨r1, 0, none⟩ (.int .i64 t23) <|
  T.still ⟨r1, 1, none⟩ (.int .i64 t24) <|
  T.still ⟨r1, 2, none⟩ (.slice t25.1 t25.2.1 t25.2.2) <|
  T.still ⟨r1, 0, none⟩ (.int .i64 t22) <|
  T.still ⟨r1, 0, none⟩ (.int .i64 t21) <|
  chk (((ByteArray.size { data := #[40] } + ByteArray.size t27 : Nat) : Int) ≤ IntKind.max .i64) <|
  chk (((ByteArray.size ({ data := #[40] } ++ t27) + ByteArray.size { data := #[32] } : Nat) : Int) ≤ IntKind.max .i64) <|
  chk (((ByteArray.size (({ data := #[40] } ++ t27) ++ { data := #[32] }) + ByteArray.size (ByteArray.extract { data := #[43, 45, 42, 47, 37] } (Int.toNat (IntKind.wrap .i64 (t21 - (5 : Int)))) (Int.toNat (IntKind.wrap .i64 ((IntKind.wrap .i64 (t22 - (5 : Int))) + (1 : Int))))) : Nat) : Int) ≤ IntKind.max .i64) <|
  chk (((ByteArray.size ((({ data := #[40] } ++ t27) ++ { data := #[32] }) ++ (ByteArray.extract { data := #[43, 45, 42, 47, 37] } (Int.toNat (IntKind.wrap .i64 (t21 - (5 : Int)))) (Int.toNat (IntKind.wrap .i64 ((IntKind.wrap .i64 (t22 - (5 : Int))) + (1 : Int)))))) + ByteArray.size { data := #[32] } : Nat) : Int) ≤ IntKind.max .i64) <|
  T.call 34 [(.agg #[(.int .i64 t23), (.int .i64 t24), (.slice t25.1 t25.2.1 t25.2.2)]), (.int .i64 (1 : Int))] (.one (.agg [(.int .i64), (.int .i64), .slice])) fun (t28 : Int × Int × (Option Addr × Nat × Nat) × Unit) =>
  T.still ⟨r1, 0, none⟩ (.int .i64 t22) <|
  T.still ⟨r1, 0, none⟩ (.int .i64 t21) <|
  T.call 19 [(.agg #[(.int .i64 t28.1), (.int .i64 t28.2.1), (.slice t28.2.2.1.1 t28.2.2.1.2.1 t28.2.2.1.2.2)])] (.one (.atom .string)) fun (t29 : ByteArray) =>
  T.still ⟨r1, 0, none⟩ (.int .i64 t22) <|
  T.still ⟨r1, 0, none⟩ (.int .i64 t21) <|
  chk (((ByteArray.size (((({ data := #[40] } ++ t27) ++ { data := #[32] }) ++ (ByteArray.extract { data := #[43, 45, 42, 47, 37] } (Int.toNat (IntKind.wrap .i64 (t21 - (5 : Int)))) (Int.toNat (IntKind.wrap .i64 ((IntKind.wrap .i64 (t22 - (5 : Int))) + (1 : Int)))))) ++ { data := #[32] }) + ByteArray.size t29 : Nat) : Int) ≤ IntKind.max .i64) <|
  chk (((ByteArray.size ((((({ data := #[40] } ++ t27) ++ { data := #[32] }) ++ (ByteArray.extract { data := #[43, 45, 42, 47, 37] } (Int.toNat (IntKind.wrap .i64 (t21 - (5 : Int)))) (Int.toNat (IntKind.wrap .i64 ((IntKind.wrap .i64 (t22 - (5 : Int))) + (1 : Int)))))) ++ { data := #[32] }) ++ t29) + ByteArray.size { data := #[41] } : Nat) : Int) ≤ IntKind.max .i64) <|
  T.ret (.string (((((({ data := #[40] } ++ t27) ++ { data := #[32] }) ++ (ByteArray.extract { data := #[43, 45, 42, 47, 37] } (Int.toNat (IntKind.wrap .i64 (t21 - (5 : Int)))) (Int.toNat (IntKind.wrap .i64 ((IntKind.wrap .i64 (t22 - (5 : Int))) + (1 : Int)))))) ++ { data := #[32] }) ++ t29) ++ { data := #[41] })))
  (T.ret (.string { data := #[] }))))))
theorem expr_Show_den (x_0 : Int × Int × (Option Addr × Nat × Nat) × Unit) : denFun Tryd.prog Tryd.f19 [(.agg #[(.int .i64 x_0.1), (.int .i64 x_0.2.1), (.slice x_0.2.2.1.1 x_0.2.2.1.2.1 x_0.2.2.1.2.2)])] = expr_Show_T x_0 := by kernel_rfl

/-- tronage/expr.Right -/
def expr_Right_T (x_0 : Int × Int × (Option Addr × Nat × Nat) × Unit) : T :=
  T.new (.cells #[(.int .i64 x_0.1), (.int .i64 x_0.2.1), (.slice x_0.2.2.1.1 x_0.2.2.1.2.1 x_0.2.2.1.2.2)] 25 (0, 0)) fun r1 =>
  T.join [(.atom .bool)]
  (T.load (.int .i64) ⟨r1, 0, none⟩ fun (t3 : Int) =>
  cond (t3 == (0 : Int))
  (T.load (.int .i64) ⟨r1, 1, none⟩ fun (t4 : Int) =>
  cond (t4 == (0 : Int))
  (T.load .slice ⟨r1, 2, none⟩ fun (t5 : Option Addr × Nat × Nat) =>
  cond (((t5.2.1 : Nat) : Int) == (0 : Int))
  (T.out [(.bool true)])
  (T.load (.int .i64) ⟨r1, 0, none⟩ fun (t6 : Int) =>
  T.load (.int .i64) ⟨r1, 1, none⟩ fun (t7 : Int) =>
  T.load .slice ⟨r1, 2, none⟩ fun (t8 : Option Addr × Nat × Nat) =>
  T.call 35 [(.agg #[(.int .i64 t6), (.int .i64 t7), (.slice t8.1 t8.2.1 t8.2.2)])] (.one (.atom .bool)) fun (t9 : Bool) =>
  T.out [(.bool t9)]))
  (T.load (.int .i64) ⟨r1, 0, none⟩ fun (t10 : Int) =>
  T.load (.int .i64) ⟨r1, 1, none⟩ fun (t11 : Int) =>
  T.load .slice ⟨r1, 2, none⟩ fun (t12 : Option Addr × Nat × Nat) =>
  T.call 35 [(.agg #[(.int .i64 t10), (.int .i64 t11), (.slice t12.1 t12.2.1 t12.2.2)])] (.one (.atom .bool)) fun (t13 : Bool) =>
  T.out [(.bool t13)]))
  (T.load (.int .i64) ⟨r1, 0, none⟩ fun (t14 : Int) =>
  T.load (.int .i64) ⟨r1, 1, none⟩ fun (t15 : Int) =>
  T.load .slice ⟨r1, 2, none⟩ fun (t16 : Option Addr × Nat × Nat) =>
  T.call 35 [(.agg #[(.int .i64 t14), (.int .i64 t15), (.slice t16.1 t16.2.1 t16.2.2)])] (.one (.atom .bool)) fun (t17 : Bool) =>
  T.out [(.bool t17)])) fun (z2 : Bool × Unit) =>
  T.ret (.bool z2.1)
theorem expr_Right_den (x_0 : Int × Int × (Option Addr × Nat × Nat) × Unit) : denFun Tryd.prog Tryd.f20 [(.agg #[(.int .i64 x_0.1), (.int .i64 x_0.2.1), (.slice x_0.2.2.1.1 x_0.2.2.1.2.1 x_0.2.2.1.2.2)])] = expr_Right_T x_0 := by kernel_rfl

/-- tronage/tronageref20.Size -/
def tronageref20_Size_T (x_0 : Int × Int × (Option Addr × Nat × Nat) × Unit) : T :=
  T.new (.cells #[(.int .i64 x_0.1), (.int .i64 x_0.2.1), (.slice x_0.2.2.1.1 x_0.2.2.1.2.1 x_0.2.2.1.2.2)] 25 (0, 0)) fun r1 =>
  T.load (.int .i64) ⟨r1, 0, none⟩ fun (t2 : Int) =>
  cond (t2 == (0 : Int))
  (T.ret (.int .i64 (0 : Int)))
  (T.block 0 [(.atom (.int .i64)), (.atom (.int .i64))]
  (T.loop [(.atom (.int .i64)), (.atom (.int .i64))] [(.int .i64 (0 : Int)), (.int .i64 (1 : Int))] fun (z4 : Int × Int × Unit) =>
  T.load .slice ⟨r1, 2, none⟩ fun (t5 : Option Addr × Nat × Nat) =>
  cond (decide (z4.1 < ((t5.2.1 : Nat) : Int)))
  (T.load .slice ⟨r1, 2, none⟩ fun (t6 : Option Addr × Nat × Nat) =>
  deref t6.1 fun a7 =>
  chk (0 ≤ z4.1 ∧ z4.1 < (t6.2.1 : Nat)) <|
  T.load (.int .i64) (a7.add (Int.toNat z4.1 * 3)) fun (t8 : Int) =>
  T.load (.int .i64) ((a7.add (Int.toNat z4.1 * 3)).add 1) fun (t9 : Int) =>
  T.load .slice ((a7.add (Int.toNat z4.1 * 3)).add 2) fun (t10 : Option Addr × Nat × Nat) =>
  T.call 21 [(.agg #[(.int .i64 t8), (.int .i64 t9), (.slice t10.1 t10.2.1 t10.2.2)])] (.one (.atom (.int .i64))) fun (t11 : Int) =>
  T.out [(.int .i64 (IntKind.wrap .i64 (z4.1 + (1 : Int)))), (.int .i64 (IntKind.wrap .i64 (z4.2.1 + t11)))])
  (T.brk 0 [(.int .i64 z4.1), (.int .i64 z4.2.1)])) fun (z3 : Int × Int × Unit) =>
  T.ret (.int .i64 z3.2.1))
theorem tronageref20_Size_den (x_0 : Int × Int × (Option Addr × Nat × Nat) × Unit) : denFun Tryd.prog Tryd.f21 [(.agg #[(.int .i64 x_0.1), (.int .i64 x_0.2.1), (.slice x_0.2.2.1.1 x_0.2.2.1.2.1 x_0.2.2.1.2.2)])] = tronageref20_Size_T x_0 := by kernel_rfl

/-- tronage/expr.Most -/
def expr_Most_T (x_0 : Int × Int × (Option Addr × Nat × Nat) × Unit) : T :=
  T.new (.cells #[(.int .i64 x_0.1), (.int .i64 x_0.2.1), (.slice x_0.2.2.1.1 x_0.2.2.1.2.1 x_0.2.2.1.2.2)] 25 (0, 0)) fun r1 =>
  T.join [(.atom .bool)]
  (T.load (.int .i64) ⟨r1, 0, none⟩ fun (t3 : Int) =>
  cond (t3 == (2 : Int))
  (T.out [(.bool true)])
  (T.load (.int .i64) ⟨r1, 0, none⟩ fun (t4 : Int) =>
  T.out [(.bool (t4 == (3 : Int)))])) fun (z2 : Bool × Unit) =>
  T.join [(.atom (.int .i64))]
  (cond z2.1
  (T.load (.int .i64) ⟨r1, 1, none⟩ fun (t6 : Int) =>
  T.out [(.int .i64 (if t6 > (0 : Int) then t6 else (0 : Int)))])
  (T.out [(.int .i64 (0 : Int))])) fun (z5 : Int × Unit) =>
  T.load .slice ⟨r1, 2, none⟩ fun (t7 : Option Addr × Nat × Nat) =>
  T.block 0 [(.atom (.int .i64)), (.atom (.int .i64))]
  (T.loop [(.atom (.int .i64)), (.atom (.int .i64))] [(.int .i64 (0 : Int)), (.int .i64 z5.1)] fun (z9 : Int × Int × Unit) =>
  cond (decide (z9.1 < ((t7.2.1 : Nat) : Int)))
  (deref t7.1 fun a10 =>
  chk (0 ≤ z9.1 ∧ z9.1 < (t7.2.1 : Nat)) <|
  T.load (.int .i64) (a10.add (Int.toNat z9.1 * 3)) fun (t11 : Int) =>
  T.load (.int .i64) ((a10.add (Int.toNat z9.1 * 3)).add 1) fun (t12 : Int) =>
  T.load .slice ((a10.add (Int.toNat z9.1 * 3)).add 2) fun (t13 : Option Addr × Nat × Nat) =>
  T.new (.cells #[(.int .i64 (0 : Int)), (.int .i64 (0 : Int)), (.slice none 0 0)] 25 (0, 0)) fun r14 =>
  T.store ⟨r14, 0, none⟩ (.int .i64 t11) <|
  T.store ⟨r14, 1, none⟩ (.int .i64 t12) <|
  T.store ⟨r14, 2, none⟩ (.slice t13.1 t13.2.1 t13.2.2) <|
  T.load (.int .i64) ⟨r14, 0, none⟩ fun (t15 : Int) =>
  T.load (.int .i64) ⟨r14, 1, none⟩ fun (t16 : Int) =>
  T.load .slice ⟨r14, 2, none⟩ fun (t17 : Option Addr × Nat × Nat) =>
  T.call 22 [(.agg #[(.int .i64 t15), (.int .i64 t16), (.slice t17.1 t17.2.1 t17.2.2)])] (.one (.atom (.int .i64))) fun (t18 : Int) =>
  T.out [(.int .i64 (IntKind.wrap .i64 (z9.1 + (1 : Int)))), (.int .i64 (if t18 > z9.2.1 then t18 else z9.2.1))])
  (T.brk 0 [(.int .i64 z9.1), (.int .i64 z9.2.1)])) fun (z8 : Int × Int × Unit) =>
  T.ret (.int .i64 z8.2.1)
theorem expr_Most_den (x_0 : Int × Int × (Option Addr × Nat × Nat) × Unit) : denFun Tryd.prog Tryd.f22 [(.agg #[(.int .i64 x_0.1), (.int .i64 x_0.2.1), (.slice x_0.2.2.1.1 x_0.2.2.1.2.1 x_0.2.2.1.2.2)])] = expr_Most_T x_0 := by kernel_rfl

/-- tronage/tronageref20.Most -/
def tronageref20_Most_T (x_0 : Int × Int × (Option Addr × Nat × Nat) × Unit) : T :=
  T.new (.cells #[(.int .i64 x_0.1), (.int .i64 x_0.2.1), (.slice x_0.2.2.1.1 x_0.2.2.1.2.1 x_0.2.2.1.2.2)] 25 (0, 0)) fun r1 =>
  T.join [(.atom .bool)]
  (T.load (.int .i64) ⟨r1, 0, none⟩ fun (t3 : Int) =>
  cond (t3 == (2 : Int))
  (T.out [(.bool true)])
  (T.load (.int .i64) ⟨r1, 0, none⟩ fun (t4 : Int) =>
  T.out [(.bool (t4 == (3 : Int)))])) fun (z2 : Bool × Unit) =>
  T.join [(.atom (.int .i64))]
  (cond z2.1
  (T.load (.int .i64) ⟨r1, 1, none⟩ fun (t6 : Int) =>
  T.out [(.int .i64 (if t6 > (0 : Int) then t6 else (0 : Int)))])
  (T.out [(.int .i64 (0 : Int))])) fun (z5 : Int × Unit) =>
  T.block 0 [(.atom (.int .i64)), (.atom (.int .i64))]
  (T.loop [(.atom (.int .i64)), (.atom (.int .i64))] [(.int .i64 (0 : Int)), (.int .i64 z5.1)] fun (z8 : Int × Int × Unit) =>
  T.load .slice ⟨r1, 2, none⟩ fun (t9 : Option Addr × Nat × Nat) =>
  cond (decide (z8.1 < ((t9.2.1 : Nat) : Int)))
  (T.load .slice ⟨r1, 2, none⟩ fun (t10 : Option Addr × Nat × Nat) =>
  deref t10.1 fun a11 =>
  chk (0 ≤ z8.1 ∧ z8.1 < (t10.2.1 : Nat)) <|
  T.load (.int .i64) (a11.add (Int.toNat z8.1 * 3)) fun (t12 : Int) =>
  T.load (.int .i64) ((a11.add (Int.toNat z8.1 * 3)).add 1) fun (t13 : Int) =>
  T.load .slice ((a11.add (Int.toNat z8.1 * 3)).add 2) fun (t14 : Option Addr × Nat × Nat) =>
  T.call 23 [(.agg #[(.int .i64 t12), (.int .i64 t13), (.slice t14.1 t14.2.1 t14.2.2)])] (.one (.atom (.int .i64))) fun (t15 : Int) =>
  T.out [(.int .i64 (IntKind.wrap .i64 (z8.1 + (1 : Int)))), (.int .i64 (if t15 > z8.2.1 then t15 else z8.2.1))])
  (T.brk 0 [(.int .i64 z8.1), (.int .i64 z8.2.1)])) fun (z7 : Int × Int × Unit) =>
  T.ret (.int .i64 z7.2.1)
theorem tronageref20_Most_den (x_0 : Int × Int × (Option Addr × Nat × Nat) × Unit) : denFun Tryd.prog Tryd.f23 [(.agg #[(.int .i64 x_0.1), (.int .i64 x_0.2.1), (.slice x_0.2.2.1.1 x_0.2.2.1.2.1 x_0.2.2.1.2.2)])] = tronageref20_Most_T x_0 := by kernel_rfl

/-- tronage/expr.Read$1 -/
def expr_Read_1_none_T (c_0 : Nat) (c_1 : Nat) (c_2 : Nat) : T :=
  T.sem (Instr.typeAssert .nilIface 20 41 true) (.tuple [(.agg [(.int .i64), (.int .i64)]), (.atom .bool)]) fun (t1 : (Int × Int × Unit) × Bool × Unit) =>
  T.new (.cells #[(.int .i64 (0 : Int)), (.int .i64 (0 : Int))] 41 (0, 0)) fun r2 =>
  T.store ⟨r2, 0, none⟩ (.int .i64 t1.1.1) <|
  T.store ⟨r2, 1, none⟩ (.int .i64 t1.1.2.1) <|
  T.join []
  (cond t1.2.1
  (T.load (.int .i64) ⟨r2, 0, none⟩ fun (t4 : Int) =>
  T.load (.int .i64) ⟨r2, 1, none⟩ fun (t5 : Int) =>
  T.store ⟨c_0, 0, none⟩ (.int .i64 (0 : Int)) <|
  T.store ⟨c_0, 1, none⟩ (.int .i64 (0 : Int)) <|
  T.store ⟨c_0, 2, none⟩ (.slice none 0 0) <|
  T.still ⟨r2, 1, none⟩ (.int .i64 t5) <|
  T.still ⟨r2, 0, none⟩ (.int .i64 t4) <|
  T.store ⟨c_1, 0, none⟩ (.int .i64 t4) <|
  T.still ⟨r2, 1, none⟩ (.int .i64 t5) <|
  T.store ⟨c_2, 0, none⟩ (.int .i64 t5) <|
  T.out [])
  (T.out [])) fun (z3 : Unit) =>
  T.ret (.tuple #[])
theorem expr_Read_1_none_den (c_0 : Nat) (c_1 : Nat) (c_2 : Nat) : denFunRec Tryd.prog Tryd.f24 .nilIface [(.pointer (some ⟨c_0, 0, none⟩)), (.pointer (some ⟨c_1, 0, none⟩)), (.pointer (some ⟨c_2, 0, none⟩))] = expr_Read_1_none_T c_0 c_1 c_2 := by kernel_rfl

/-- tronage/expr.Read$1 -/
def expr_Read_1_some_T (code at_ : Int) (c_0 : Nat) (c_1 : Nat) (c_2 : Nat) : T :=
  T.sem (Instr.typeAssert (.iface 41 (.agg #[(.int .i64 code), (.int .i64 at_)])) 20 41 true) (.tuple [(.agg [(.int .i64), (.int .i64)]), (.atom .bool)]) fun (t1 : (Int × Int × Unit) × Bool × Unit) =>
  T.new (.cells #[(.int .i64 (0 : Int)), (.int .i64 (0 : Int))] 41 (0, 0)) fun r2 =>
  T.store ⟨r2, 0, none⟩ (.int .i64 t1.1.1) <|
  T.store ⟨r2, 1, none⟩ (.int .i64 t1.1.2.1) <|
  T.join []
  (cond t1.2.1
  (T.load (.int .i64) ⟨r2, 0, none⟩ fun (t4 : Int) =>
  T.load (.int .i64) ⟨r2, 1, none⟩ fun (t5 : Int) =>
  T.store ⟨c_0, 0, none⟩ (.int .i64 (0 : Int)) <|
  T.store ⟨c_0, 1, none⟩ (.int .i64 (0 : Int)) <|
  T.store ⟨c_0, 2, none⟩ (.slice none 0 0) <|
  T.still ⟨r2, 1, none⟩ (.int .i64 t5) <|
  T.still ⟨r2, 0, none⟩ (.int .i64 t4) <|
  T.store ⟨c_1, 0, none⟩ (.int .i64 t4) <|
  T.still ⟨r2, 1, none⟩ (.int .i64 t5) <|
  T.store ⟨c_2, 0, none⟩ (.int .i64 t5) <|
  T.out [])
  (T.out [])) fun (z3 : Unit) =>
  T.ret (.tuple #[])
theorem expr_Read_1_some_den (code at_ : Int) (c_0 : Nat) (c_1 : Nat) (c_2 : Nat) : denFunRec Tryd.prog Tryd.f24 (.iface 41 (.agg #[(.int .i64 code), (.int .i64 at_)])) [(.pointer (some ⟨c_0, 0, none⟩)), (.pointer (some ⟨c_1, 0, none⟩)), (.pointer (some ⟨c_2, 0, none⟩))] = expr_Read_1_some_T code at_ c_0 c_1 c_2 := by kernel_rfl

/-- (*tronage/expr.reader).now -/
def expr_reader_now_T (r_0 : Option Addr) : T :=
  T.block 0 []
  (T.loop [] [] fun (z2 : Unit) =>
  T.join [(.atom .bool)]
  (deref r_0 fun a4 =>
  T.load (.int .i64) (a4.add 1) fun (t5 : Int) =>
  deref r_0 fun a6 =>
  T.load .string a6 fun (t7 : ByteArray) =>
  cond (decide (t5 < ((ByteArray.size t7 : Nat) : Int)))
  (deref r_0 fun a8 =>
  T.load .string a8 fun (t9 : ByteArray) =>
  deref r_0 fun a10 =>
  T.load (.int .i64) (a10.add 1) fun (t11 : Int) =>
  chk (0 ≤ t11 ∧ t11 < (ByteArray.size t9 : Nat)) <|
  T.new (.cells #[(.int .u8 (32 : Int)), (.int .u8 (9 : Int)), (.int .u8 (10 : Int)), (.int .u8 (13 : Int))] 5 (0, 0)) fun r12 =>
  T.still (a10.add 1) (.int .i64 t11) <|
  T.still a8 (.string t9) <|
  T.sem (convert 32 32 (.slice (some ⟨r12, 0, none⟩) 4 4)) (.one (.atom .slice)) fun (t13 : Option Addr × Nat × Nat) =>
  T.still (a10.add 1) (.int .i64 t11) <|
  T.still a8 (.string t9) <|
  T.call 36 [(.slice t13.1 t13.2.1 t13.2.2), (.int .u8 ((UInt8.toNat (byteAt t9 (Int.toNat t11)) : Nat) : Int))] (.one (.atom .bool)) fun (t14 : Bool) =>
  T.out [(.bool t14)])
  (T.out [(.bool false)])) fun (z3 : Bool × Unit) =>
  cond z3.1
  (deref r_0 fun a15 =>
  T.load (.int .i64) (a15.add 1) fun (t16 : Int) =>
  deref r_0 fun a17 =>
  T.store (a17.add 1) (.int .i64 (IntKind.wrap .i64 (t16 + (1 : Int)))) <|
  T.out [])
  (T.brk 0 [])) fun (z1 : Unit) =>
  deref r_0 fun a18 =>
  T.load (.int .i64) (a18.add 1) fun (t19 : Int) =>
  deref r_0 fun a20 =>
  T.load .string a20 fun (t21 : ByteArray) =>
  cond (decide (t19 ≥ ((ByteArray.size t21 : Nat) : Int)))
  (T.ret (.int .u8 (0 : Int)))
  (deref r_0 fun a22 =>
  T.load .string a22 fun (t23 : ByteArray) =>
  deref r_0 fun a24 =>
  T.load (.int .i64) (a24.add 1) fun (t25 : Int) =>
  chk (0 ≤ t25 ∧ t25 < (ByteArray.size t23 : Nat)) <|
  T.ret (.int .u8 ((UInt8.toNat (byteAt t23 (Int.toNat t25)) : Nat) : Int)))
theorem expr_reader_now_den (r_0 : Option Addr) : denFun Tryd.prog Tryd.f25 [(.pointer r_0)] = expr_reader_now_T r_0 := by kernel_rfl

/-- (*tronage/expr.reader).sum -/
def expr_reader_sum_T (r_0 : Option Addr) : T :=
  T.new (.cells #[(.int .i64 (0 : Int)), (.int .i64 (0 : Int)), (.slice none 0 0)] 25 (0, 0)) fun r1 =>
  T.call 37 [(.pointer r_0), (.func (.func 38) #[(.pointer r_0)] #[]), (.int .i64 (5 : Int)), (.int .i64 (6 : Int))] (.one (.agg [(.int .i64), (.int .i64), .slice])) fun (t2 : Int × Int × (Option Addr × Nat × Nat) × Unit) =>
  T.store ⟨r1, 0, none⟩ (.int .i64 t2.1) <|
  T.store ⟨r1, 1, none⟩ (.int .i64 t2.2.1) <|
  T.store ⟨r1, 2, none⟩ (.slice t2.2.2.1.1 t2.2.2.1.2.1 t2.2.2.1.2.2) <|
  T.load (.int .i64) ⟨r1, 0, none⟩ fun (res3 : Int) =>
  T.load (.int .i64) ⟨r1, 1, none⟩ fun (res4 : Int) =>
  T.load .slice ⟨r1, 2, none⟩ fun (res5 : Option Addr × Nat × Nat) =>
  T.ret (.agg #[(.int .i64 res3), (.int .i64 res4), (.slice res5.1 res5.2.1 res5.2.2)])
theorem expr_reader_sum_den (r_0 : Option Addr) : denFun Tryd.prog Tryd.f26 [(.pointer r_0)] = expr_reader_sum_T r_0 := by kernel_rfl

/-- (*tronage/expr.reader).fail -/
def expr_reader_fail_T (r_0 : Option Addr) (code_1 : Int) : T :=
  deref r_0 fun a1 =>
  T.load (.int .i64) (a1.add 1) fun (t2 : Int) =>
  T.pan (.iface 41 (.agg #[(.int .i64 code_1), (.int .i64 t2)]))
theorem expr_reader_fail_den (r_0 : Option Addr) (code_1 : Int) : denFun Tryd.prog Tryd.f27 [(.pointer r_0), (.int .i64 code_1)] = expr_reader_fail_T r_0 code_1 := by kernel_rfl

/-- (*tronage/tronageref20.Reader).now -/
def tronageref20_Reader_now_T (r_0 : Option Addr) : T :=
  T.block 0 []
  (T.loop [] [] fun (z2 : Unit) =>
  T.join [(.atom .bool)]
  (deref r_0 fun a4 =>
  T.load (.int .i64) (a4.add 1) fun (t5 : Int) =>
  deref r_0 fun a6 =>
  T.load .string a6 fun (t7 : ByteArray) =>
  cond (decide (t5 < ((ByteArray.size t7 : Nat) : Int)))
  (deref r_0 fun a8 =>
  T.load .string a8 fun (t9 : ByteArray) =>
  deref r_0 fun a10 =>
  T.load (.int .i64) (a10.add 1) fun (t11 : Int) =>
  chk (0 ≤ t11 ∧ t11 < (ByteArray.size t9 : Nat)) <|
  cond (((UInt8.toNat (byteAt t9 (Int.toNat t11)) : Nat) : Int) == (32 : Int))
  (T.out [(.bool true)])
  (deref r_0 fun a12 =>
  T.load .string a12 fun (t13 : ByteArray) =>
  deref r_0 fun a14 =>
  T.load (.int .i64) (a14.add 1) fun (t15 : Int) =>
  chk (0 ≤ t15 ∧ t15 < (ByteArray.size t13 : Nat)) <|
  cond (((UInt8.toNat (byteAt t13 (Int.toNat t15)) : Nat) : Int) == (9 : Int))
  (T.out [(.bool true)])
  (deref r_0 fun a16 =>
  T.load .string a16 fun (t17 : ByteArray) =>
  deref r_0 fun a18 =>
  T.load (.int .i64) (a18.add 1) fun (t19 : Int) =>
  chk (0 ≤ t19 ∧ t19 < (ByteArray.size t17 : Nat)) <|
  cond (((UInt8.toNat (byteAt t17 (Int.toNat t19)) : Nat) : Int) == (10 : Int))
  (T.out [(.bool true)])
  (deref r_0 fun a20 =>
  T.load .string a20 fun (t21 : ByteArray) =>
  deref r_0 fun a22 =>
  T.load (.int .i64) (a22.add 1) fun (t23 : Int) =>
  chk (0 ≤ t23 ∧ t23 < (ByteArray.size t21 : Nat)) <|
  T.out [(.bool (((UInt8.toNat (byteAt t21 (Int.toNat t23)) : Nat) : Int) == (13 : Int)))]))))
  (T.out [(.bool false)])) fun (z3 : Bool × Unit) =>
  cond z3.1
  (deref r_0 fun a24 =>
  T.load (.int .i64) (a24.add 1) fun (t25 : Int) =>
  deref r_0 fun a26 =>
  T.store (a26.add 1) (.int .i64 (IntKind.wrap .i64 (t25 + (1 : Int)))) <|
  T.out [])
  (T.brk 0 [])) fun (z1 : Unit) =>
  deref r_0 fun a27 =>
  T.load (.int .i64) (a27.add 1) fun (t28 : Int) =>
  deref r_0 fun a29 =>
  T.load .string a29 fun (t30 : ByteArray) =>
  cond (decide (t28 < ((ByteArray.size t30 : Nat) : Int)))
  (deref r_0 fun a31 =>
  T.load .string a31 fun (t32 : ByteArray) =>
  deref r_0 fun a33 =>
  T.load (.int .i64) (a33.add 1) fun (t34 : Int) =>
  chk (0 ≤ t34 ∧ t34 < (ByteArray.size t32 : Nat)) <|
  T.ret (.int .i64 (IntKind.wrap .i64 ((UInt8.toNat (byteAt t32 (Int.toNat t34)) : Nat) : Int))))
  (T.ret (.int .i64 (-1 : Int)))
theorem tronageref20_Reader_now_den (r_0 : Option Addr) : denFun Tryd.prog Tryd.f28 [(.pointer r_0)] = tronageref20_Reader_now_T r_0 := by kernel_rfl

/-- (*tronage/tronageref20.Reader).sum -/
def tronageref20_Reader_sum_T (r_0 : Option Addr) : T :=
  T.new (.cells #[(.int .i64 (0 : Int)), (.int .i64 (0 : Int)), (.slice none 0 0)] 25 (0, 0)) fun r1 =>
  T.call 39 [(.pointer r_0)] (.one (.agg [(.int .i64), (.int .i64), .slice])) fun (t2 : Int × Int × (Option Addr × Nat × Nat) × Unit) =>
  T.new (.cells #[(.int .i64 (0 : Int)), (.int .i64 (0 : Int)), (.slice none 0 0)] 25 (0, 0)) fun r3 =>
  T.store ⟨r3, 0, none⟩ (.int .i64 t2.1) <|
  T.store ⟨r3, 1, none⟩ (.int .i64 t2.2.1) <|
  T.store ⟨r3, 2, none⟩ (.slice t2.2.2.1.1 t2.2.2.1.2.1 t2.2.2.1.2.2) <|
  T.block 0 []
  (T.loop [] [] fun (z5 : Unit) =>
  deref r_0 fun a6 =>
  T.load (.int .i64) (a6.add 3) fun (t7 : Int) =>
  cond (t7 == (0 : Int))
  (T.call 28 [(.pointer r_0)] (.one (.atom (.int .i64))) fun (t8 : Int) =>
  T.join [(.atom .bool)]
  (cond (t8 != (43 : Int))
  (T.out [(.bool (t8 != (45 : Int)))])
  (T.out [(.bool false)])) fun (z9 : Bool × Unit) =>
  cond z9.1
  (T.brk 0 [])
  (T.join [(.atom (.int .i64))]
  (cond (t8 == (45 : Int))
  (T.out [(.int .i64 (6 : Int))])
  (T.out [(.int .i64 (5 : Int))])) fun (z10 : Int × Unit) =>
  deref r_0 fun a11 =>
  T.load (.int .i64) (a11.add 1) fun (t12 : Int) =>
  deref r_0 fun a13 =>
  T.store (a13.add 1) (.int .i64 (IntKind.wrap .i64 (t12 + (1 : Int)))) <|
  T.call 39 [(.pointer r_0)] (.one (.agg [(.int .i64), (.int .i64), .slice])) fun (t14 : Int × Int × (Option Addr × Nat × Nat) × Unit) =>
  T.new (.cells #[(.int .i64 (0 : Int)), (.int .i64 (0 : Int)), (.slice none 0 0)] 25 (0, 0)) fun r15 =>
  T.store ⟨r15, 0, none⟩ (.int .i64 t14.1) <|
  T.store ⟨r15, 1, none⟩ (.int .i64 t14.2.1) <|
  T.store ⟨r15, 2, none⟩ (.slice t14.2.2.1.1 t14.2.2.1.2.1 t14.2.2.1.2.2) <|
  T.load (.int .i64) ⟨r3, 0, none⟩ fun (t16 : Int) =>
  T.load (.int .i64) ⟨r3, 1, none⟩ fun (t17 : Int) =>
  T.load .slice ⟨r3, 2, none⟩ fun (t18 : Option Addr × Nat × Nat) =>
  T.load (.int .i64) ⟨r15, 0, none⟩ fun (t19 : Int) =>
  T.load (.int .i64) ⟨r15, 1, none⟩ fun (t20 : Int) =>
  T.load .slice ⟨r15, 2, none⟩ fun (t21 : Option Addr × Nat × Nat) =>
  T.new (.cells #[(.int .i64 t16), (.int .i64 t17), (.slice t18.1 t18.2.1 t18.2.2), (.int .i64 t19), (.int .i64 t20), (.slice t21.1 t21.2.1 t21.2.2)] 25 (0, 0)) fun r22 =>
  T.store ⟨r3, 0, none⟩ (.int .i64 z10.1) <|
  T.store ⟨r3, 1, none⟩ (.int .i64 (0 : Int)) <|
  T.store ⟨r3, 2, none⟩ (.slice (some ⟨r22, 0, none⟩) 2 2) <|
  T.out []))
  (T.brk 0 [])) fun (z4 : Unit) =>
  T.load (.int .i64) ⟨r3, 0, none⟩ fun (t23 : Int) =>
  T.load (.int .i64) ⟨r3, 1, none⟩ fun (t24 : Int) =>
  T.load .slice ⟨r3, 2, none⟩ fun (t25 : Option Addr × Nat × Nat) =>
  T.store ⟨r1, 0, none⟩ (.int .i64 t23) <|
  T.store ⟨r1, 1, none⟩ (.int .i64 t24) <|
  T.store ⟨r1, 2, none⟩ (.slice t25.1 t25.2.1 t25.2.2) <|
  T.load (.int .i64) ⟨r1, 0, none⟩ fun (res26 : Int) =>
  T.load (.int .i64) ⟨r1, 1, none⟩ fun (res27 : Int) =>
  T.load .slice ⟨r1, 2, none⟩ fun (res28 : Option Addr × Nat × Nat) =>
  T.ret (.agg #[(.int .i64 res26), (.int .i64 res27), (.slice res28.1 res28.2.1 res28.2.2)])
theorem tronageref20_Reader_sum_den (r_0 : Option Addr) : denFun Tryd.prog Tryd.f29 [(.pointer r_0)] = tronageref20_Reader_sum_T r_0 := by kernel_rfl

/-- (*tronage/tronageref20.Reader).fail -/
def tronageref20_Reader_fail_T (r_0 : Option Addr) (code_1 : Int) : T :=
  deref r_0 fun a1 =>
  T.load (.int .i64) (a1.add 3) fun (t2 : Int) =>
  T.join []
  (cond (t2 == (0 : Int))
  (deref r_0 fun a4 =>
  T.store (a4.add 3) (.int .i64 code_1) <|
  deref r_0 fun a5 =>
  T.load (.int .i64) (a5.add 1) fun (t6 : Int) =>
  deref r_0 fun a7 =>
  T.store (a7.add 4) (.int .i64 t6) <|
  T.out [])
  (T.out [])) fun (z3 : Unit) =>
  T.ret (.tuple #[])
theorem tronageref20_Reader_fail_den (r_0 : Option Addr) (code_1 : Int) : denFun Tryd.prog Tryd.f30 [(.pointer r_0), (.int .i64 code_1)] = tronageref20_Reader_fail_T r_0 code_1 := by kernel_rfl

/-- tronage/tronageref20.digits -/
def tronageref20_digits_T (n_0 : Int) : T :=
  T.block 0 [(.atom .string), (.atom (.int .i64))]
  (T.loop [(.atom .string), (.atom (.int .i64))] [(.string { data := #[] }), (.int .i64 n_0)] fun (z2 : ByteArray × Int × Unit) =>
  cond (decide (z2.2.1 > (9 : Int)))
  (chk ((10 : Int) ≠ 0) <|
  T.new (.cells #[(.int .u8 (IntKind.wrap .u8 (IntKind.wrap .i64 ((48 : Int) + (Int.tmod z2.2.1 (10 : Int))))))] 5 (0, 0)) fun r3 =>
  T.sem (convert 32 9 (.slice (some ⟨r3, 0, none⟩) 1 1)) (.one (.atom .string)) fun (t4 : ByteArray) =>
  chk (((ByteArray.size t4 + ByteArray.size z2.1 : Nat) : Int) ≤ IntKind.max .i64) <|
  chk ((10 : Int) ≠ 0) <|
  T.out [(.string (t4 ++ z2.1)), (.int .i64 (IntKind.wrap .i64 (Int.tdiv z2.2.1 (10 : Int))))])
  (T.brk 0 [(.string z2.1), (.int .i64 z2.2.1)])) fun (z1 : ByteArray × Int × Unit) =>
  T.new (.cells #[(.int .u8 (IntKind.wrap .u8 (IntKind.wrap .i64 ((48 : Int) + z1.2.1))))] 5 (0, 0)) fun r5 =>
  T.sem (convert 32 9 (.slice (some ⟨r5, 0, none⟩) 1 1)) (.one (.atom .string)) fun (t6 : ByteArray) =>
  chk (((ByteArray.size t6 + ByteArray.size z1.1 : Nat) : Int) ≤ IntKind.max .i64) <|
  T.ret (.string (t6 ++ z1.1))
theorem tronageref20_digits_den (n_0 : Int) : denFun Tryd.prog Tryd.f31 [(.int .i64 n_0)] = tronageref20_digits_T n_0 := by kernel_rfl

/-- tronage/tronageref20.sure -/
def tronageref20_sure_T (x_0 : Int × Int × (Option Addr × Nat × Nat) × Unit) : T :=
  T.new (.cells #[(.int .i64 x_0.1), (.int .i64 x_0.2.1), (.slice x_0.2.2.1.1 x_0.2.2.1.2.1 x_0.2.2.1.2.2)] 25 (0, 0)) fun r1 =>
  T.join [(.atom .bool)]
  (T.load (.int .i64) ⟨r1, 0, none⟩ fun (t3 : Int) =>
  cond (decide (t3 < (1 : Int)))
  (T.out [(.bool true)])
  (T.load (.int .i64) ⟨r1, 0, none⟩ fun (t4 : Int) =>
  cond (decide (t4 > (9 : Int)))
  (T.out [(.bool true)])
  (T.load (.int .i64) ⟨r1, 1, none⟩ fun (t5 : Int) =>
  cond (decide (t5 < (0 : Int)))
  (T.out [(.bool true)])
  (T.load (.int .i64) ⟨r1, 1, none⟩ fun (t6 : Int) =>
  T.out [(.bool (decide (t6 > (999999999999999999 : Int))))])))) fun (z2 : Bool × Unit) =>
  cond z2.1
  (T.ret (.bool false))
  (T.load (.int .i64) ⟨r1, 0, none⟩ fun (t7 : Int) =>
  T.join [(.atom (.int .i64))]
  (cond (t7 == (4 : Int))
  (T.out [(.int .i64 (1 : Int))])
  (T.out [(.int .i64 (0 : Int))])) fun (z8 : Int × Unit) =>
  T.load (.int .i64) ⟨r1, 0, none⟩ fun (t9 : Int) =>
  T.join [(.atom (.int .i64))]
  (cond (decide (t9 > (4 : Int)))
  (T.out [(.int .i64 (2 : Int))])
  (T.out [(.int .i64 z8.1)])) fun (z10 : Int × Unit) =>
  T.join [(.atom .bool)]
  (T.load .slice ⟨r1, 2, none⟩ fun (t12 : Option Addr × Nat × Nat) =>
  cond (((t12.2.1 : Nat) : Int) != z10.1)
  (T.out [(.bool true)])
  (cond (decide (z10.1 > (0 : Int)))
  (T.load (.int .i64) ⟨r1, 1, none⟩ fun (t13 : Int) =>
  T.out [(.bool (t13 != (0 : Int)))])
  (T.out [(.bool false)]))) fun (z11 : Bool × Unit) =>
  cond z11.1
  (T.ret (.bool false))
  (T.block 0 [(.atom (.int .i64)), (.atom .bool)]
  (T.loop [(.atom (.int .i64)), (.atom .bool)] [(.int .i64 (0 : Int)), (.bool false)] fun (z15 : Int × Bool × Unit) =>
  cond (decide (z15.1 < z10.1))
  (T.load .slice ⟨r1, 2, none⟩ fun (t16 : Option Addr × Nat × Nat) =>
  deref t16.1 fun a17 =>
  chk (0 ≤ z15.1 ∧ z15.1 < (t16.2.1 : Nat)) <|
  T.load (.int .i64) (a17.add (Int.toNat z15.1 * 3)) fun (t18 : Int) =>
  T.load (.int .i64) ((a17.add (Int.toNat z15.1 * 3)).add 1) fun (t19 : Int) =>
  T.load .slice ((a17.add (Int.toNat z15.1 * 3)).add 2) fun (t20 : Option Addr × Nat × Nat) =>
  T.call 32 [(.agg #[(.int .i64 t18), (.int .i64 t19), (.slice t20.1 t20.2.1 t20.2.2)])] (.one (.atom .bool)) fun (t21 : Bool) =>
  cond (!t21)
  (T.ret (.bool false))
  (T.out [(.int .i64 (IntKind.wrap .i64 (z15.1 + (1 : Int)))), (.bool z15.2.1)]))
  (T.brk 0 [(.int .i64 z15.1), (.bool z15.2.1)])) fun (z14 : Int × Bool × Unit) =>
  T.ret (.bool true)))
theorem tronageref20_sure_den (x_0 : Int × Int × (Option Addr × Nat × Nat) × Unit) : denFun Tryd.prog Tryd.f32 [(.agg #[(.int .i64 x_0.1), (.int .i64 x_0.2.1), (.slice x_0.2.2.1.1 x_0.2.2.1.2.1 x_0.2.2.1.2.2)])] = tronageref20_sure_T x_0 := by kernel_rfl

/-- tronage/expr.kid -/
def expr_kid_T (x_0 : Int × Int × (Option Addr × Nat × Nat) × Unit) (i_1 : Int) : T :=
  T.new (.cells #[(.int .i64 x_0.1), (.int .i64 x_0.2.1), (.slice x_0.2.2.1.1 x_0.2.2.1.2.1 x_0.2.2.1.2.2)] 25 (0, 0)) fun r1 =>
  T.new (.cells #[(.int .i64 (0 : Int)), (.int .i64 (0 : Int)), (.slice none 0 0)] 25 (0, 0)) fun r2 =>
  T.load .slice ⟨r1, 2, none⟩ fun (t3 : Option Addr × Nat × Nat) =>
  cond (decide (i_1 ≥ ((t3.2.1 : Nat) : Int)))
  (T.store ⟨r2, 0, none⟩ (.int .i64 (0 : Int)) <|
  T.store ⟨r2, 1, none⟩ (.int .i64 (0 : Int)) <|
  T.store ⟨r2, 2, none⟩ (.slice none 0 0) <|
  T.load (.int .i64) ⟨r2, 0, none⟩ fun (res4 : Int) =>
  T.load (.int .i64) ⟨r2, 1, none⟩ fun (res5 : Int) =>
  T.load .slice ⟨r2, 2, none⟩ fun (res6 : Option Addr × Nat × Nat) =>
  T.ret (.agg #[(.int .i64 res4), (.int .i64 res5), (.slice res6.1 res6.2.1 res6.2.2)]))
  (T.load .slice ⟨r1, 2, none⟩ fun (t7 : Option Addr × Nat × Nat) =>
  deref t7.1 fun a8 =>
  chk (0 ≤ i_1 ∧ i_1 < (t7.2.1 : Nat)) <|
  T.load (.int .i64) (a8.add (Int.toNat i_1 * 3)) fun (t9 : Int) =>
  T.load (.int .i64) ((a8.add (Int.toNat i_1 * 3)).add 1) fun (t10 : Int) =>
  T.load .slice ((a8.add (Int.toNat i_1 * 3)).add 2) fun (t11 : Option Addr × Nat × Nat) =>
  T.store ⟨r2, 0, none⟩ (.int .i64 t9) <|
  T.store ⟨r2, 1, none⟩ (.int .i64 t10) <|
  T.store ⟨r2, 2, none⟩ (.slice t11.1 t11.2.1 t11.2.2) <|
  T.load (.int .i64) ⟨r2, 0, none⟩ fun (res12 : Int) =>
  T.load (.int .i64) ⟨r2, 1, none⟩ fun (res13 : Int) =>
  T.load .slice ⟨r2, 2, none⟩ fun (res14 : Option Addr × Nat × Nat) =>
  T.ret (.agg #[(.int .i64 res12), (.int .i64 res13), (.slice res14.1 res14.2.1 res14.2.2)]))
theorem expr_kid_den (x_0 : Int × Int × (Option Addr × Nat × Nat) × Unit) (i_1 : Int) : denFun Tryd.prog Tryd.f34 [(.agg #[(.int .i64 x_0.1), (.int .i64 x_0.2.1), (.slice x_0.2.2.1.1 x_0.2.2.1.2.1 x_0.2.2.1.2.2)]), (.int .i64 i_1)] = expr_kid_T x_0 i_1 := by kernel_rfl

/-- tronage/expr.sure -/
def expr_sure_T (x_0 : Int × Int × (Option Addr × Nat × Nat) × Unit) : T :=
  T.new (.cells #[(.int .i64 x_0.1), (.int .i64 x_0.2.1), (.slice x_0.2.2.1.1 x_0.2.2.1.2.1 x_0.2.2.1.2.2)] 25 (0, 0)) fun r1 =>
  T.join [(.atom .bool)]
  (T.load (.int .i64) ⟨r1, 0, none⟩ fun (t3 : Int) =>
  cond (decide (t3 < (1 : Int)))
  (T.out [(.bool true)])
  (T.load (.int .i64) ⟨r1, 0, none⟩ fun (t4 : Int) =>
  cond (decide (t4 > (9 : Int)))
  (T.out [(.bool true)])
  (T.load .slice ⟨r1, 2, none⟩ fun (t5 : Option Addr × Nat × Nat) =>
  T.load (.int .i64) ⟨r1, 0, none⟩ fun (t6 : Int) =>
  T.call 41 [(.int .i64 t6)] (.one (.atom (.int .i64))) fun (t7 : Int) =>
  T.still ⟨r1, 2, none⟩ (.slice t5.1 t5.2.1 t5.2.2) <|
  T.out [(.bool (((t5.2.1 : Nat) : Int) != t7))]))) fun (z2 : Bool × Unit) =>
  cond z2.1
  (T.ret (.bool false))
  (T.join [(.atom .bool)]
  (T.load (.int .i64) ⟨r1, 1, none⟩ fun (t9 : Int) =>
  cond (decide (t9 < (0 : Int)))
  (T.out [(.bool true)])
  (T.load (.int .i64) ⟨r1, 1, none⟩ fun (t10 : Int) =>
  cond (decide (t10 > (999999999999999999 : Int)))
  (T.out [(.bool true)])
  (T.load (.int .i64) ⟨r1, 0, none⟩ fun (t11 : Int) =>
  cond (decide (t11 ≥ (4 : Int)))
  (T.load (.int .i64) ⟨r1, 1, none⟩ fun (t12 : Int) =>
  T.out [(.bool (t12 != (0 : Int)))])
  (T.out [(.bool false)])))) fun (z8 : Bool × Unit) =>
  cond z8.1
  (T.ret (.bool false))
  (T.load .slice ⟨r1, 2, none⟩ fun (t13 : Option Addr × Nat × Nat) =>
  T.call 42 [(.slice t13.1 t13.2.1 t13.2.2), (.func (.func 43) #[] #[])] (.one (.atom .bool)) fun (t14 : Bool) =>
  T.ret (.bool (!t14))))
theorem expr_sure_den (x_0 : Int × Int × (Option Addr × Nat × Nat) × Unit) : denFun Tryd.prog Tryd.f35 [(.agg #[(.int .i64 x_0.1), (.int .i64 x_0.2.1), (.slice x_0.2.2.1.1 x_0.2.2.1.2.1 x_0.2.2.1.2.2)])] = expr_sure_T x_0 := by kernel_rfl

/-- slices.Contains[[]byte,byte] -/
def slices_Contains_byte_byte_T (s_0_p : Option Addr) (s_0_n s_0_c : Nat) (v_1 : Int) : T :=
  T.call 44 [(.slice s_0_p s_0_n s_0_c), (.int .u8 v_1)] (.one (.atom (.int .i64))) fun (t1 : Int) =>
  T.ret (.bool (decide (t1 ≥ (0 : Int))))
theorem slices_Contains_byte_byte_den (s_0_p : Option Addr) (s_0_n s_0_c : Nat) (v_1 : Int) : denFun Tryd.prog Tryd.f36 [(.slice s_0_p s_0_n s_0_c), (.int .u8 v_1)] = slices_Contains_byte_byte_T s_0_p s_0_n s_0_c v_1 := by kernel_rfl

/-- (*tronage/expr.reader).chain -/
def expr_reader_chain_46_T (r_0 : Option Addr) (from_2 : Int) (to_3 : Int) : T :=
  T.new (.cells #[(.int .i64 (0 : Int)), (.int .i64 (0 : Int)), (.slice none 0 0)] 25 (0, 0)) fun r1 =>
  T.call 46 [(.pointer r_0)] (.one (.agg [(.int .i64), (.int .i64), .slice])) fun (t2 : Int × Int × (Option Addr × Nat × Nat) × Unit) =>
  T.new (.cells #[(.int .i64 (0 : Int)), (.int .i64 (0 : Int)), (.slice none 0 0)] 25 (0, 0)) fun r3 =>
  T.store ⟨r3, 0, none⟩ (.int .i64 t2.1) <|
  T.store ⟨r3, 1, none⟩ (.int .i64 t2.2.1) <|
  T.store ⟨r3, 2, none⟩ (.slice t2.2.2.1.1 t2.2.2.1.2.1 t2.2.2.1.2.2) <|
  T.loop [] [] fun (z4 : Unit) =>
  T.call 25 [(.pointer r_0)] (.one (.atom (.int .u8))) fun (t5 : Int) =>
  T.call 45 [(.int .u8 t5)] (.one (.atom (.int .i64))) fun (t6 : Int) =>
  T.join [(.atom .bool)]
  (cond (decide (t6 < from_2))
  (T.out [(.bool true)])
  (T.out [(.bool (decide (t6 > to_3)))])) fun (z7 : Bool × Unit) =>
  cond z7.1
  (T.load (.int .i64) ⟨r3, 0, none⟩ fun (t8 : Int) =>
  T.load (.int .i64) ⟨r3, 1, none⟩ fun (t9 : Int) =>
  T.load .slice ⟨r3, 2, none⟩ fun (t10 : Option Addr × Nat × Nat) =>
  T.store ⟨r1, 0, none⟩ (.int .i64 t8) <|
  T.store ⟨r1, 1, none⟩ (.int .i64 t9) <|
  T.store ⟨r1, 2, none⟩ (.slice t10.1 t10.2.1 t10.2.2) <|
  T.load (.int .i64) ⟨r1, 0, none⟩ fun (res11 : Int) =>
  T.load (.int .i64) ⟨r1, 1, none⟩ fun (res12 : Int) =>
  T.load .slice ⟨r1, 2, none⟩ fun (res13 : Option Addr × Nat × Nat) =>
  T.ret (.agg #[(.int .i64 res11), (.int .i64 res12), (.slice res13.1 res13.2.1 res13.2.2)]))
  (deref r_0 fun a14 =>
  T.load (.int .i64) (a14.add 1) fun (t15 : Int) =>
  deref r_0 fun a16 =>
  T.store (a16.add 1) (.int .i64 (IntKind.wrap .i64 (t15 + (1 : Int)))) <|
  T.load (.int .i64) ⟨r3, 0, none⟩ fun (t17 : Int) =>
  T.load (.int .i64) ⟨r3, 1, none⟩ fun (t18 : Int) =>
  T.load .slice ⟨r3, 2, none⟩ fun (t19 : Option Addr × Nat × Nat) =>
  T.call 46 [(.pointer r_0)] (.one (.agg [(.int .i64), (.int .i64), .slice])) fun (t20 : Int × Int × (Option Addr × Nat × Nat) × Unit) =>
  T.still ⟨r3, 0, none⟩ (.int .i64 t17) <|
  T.still ⟨r3, 1, none⟩ (.int .i64 t18) <|
  T.still ⟨r3, 2, none⟩ (.slice t19.1 t19.2.1 t19.2.2) <|
  T.new (.cells #[(.int .i64 t17), (.int .i64 t18), (.slice t19.1 t19.2.1 t19.2.2), (.int .i64 t20.1), (.int .i64 t20.2.1), (.slice t20.2.2.1.1 t20.2.2.1.2.1 t20.2.2.1.2.2)] 25 (0, 0)) fun r21 =>
  T.store ⟨r3, 0, none⟩ (.int .i64 t6) <|
  T.store ⟨r3, 1, none⟩ (.int .i64 (0 : Int)) <|
  T.store ⟨r3, 2, none⟩ (.slice (some ⟨r21, 0, none⟩) 2 2) <|
  T.out [])
theorem expr_reader_chain_46_den (r_0 : Option Addr) (from_2 : Int) (to_3 : Int) : denFun Tryd.prog Tryd.f37 [(.pointer r_0), (.func (.func 46) #[(.pointer r_0)] #[]), (.int .i64 from_2), (.int .i64 to_3)] = expr_reader_chain_46_T r_0 from_2 to_3 := by kernel_rfl

/-- (*tronage/expr.reader).chain -/
def expr_reader_chain_38_T (r_0 : Option Addr) (from_2 : Int) (to_3 : Int) : T :=
  T.new (.cells #[(.int .i64 (0 : Int)), (.int .i64 (0 : Int)), (.slice none 0 0)] 25 (0, 0)) fun r1 =>
  T.call 38 [(.pointer r_0)] (.one (.agg [(.int .i64), (.int .i64), .slice])) fun (t2 : Int × Int × (Option Addr × Nat × Nat) × Unit) =>
  T.new (.cells #[(.int .i64 (0 : Int)), (.int .i64 (0 : Int)), (.slice none 0 0)] 25 (0, 0)) fun r3 =>
  T.store ⟨r3, 0, none⟩ (.int .i64 t2.1) <|
  T.store ⟨r3, 1, none⟩ (.int .i64 t2.2.1) <|
  T.store ⟨r3, 2, none⟩ (.slice t2.2.2.1.1 t2.2.2.1.2.1 t2.2.2.1.2.2) <|
  T.loop [] [] fun (z4 : Unit) =>
  T.call 25 [(.pointer r_0)] (.one (.atom (.int .u8))) fun (t5 : Int) =>
  T.call 45 [(.int .u8 t5)] (.one (.atom (.int .i64))) fun (t6 : Int) =>
  T.join [(.atom .bool)]
  (cond (decide (t6 < from_2))
  (T.out [(.bool true)])
  (T.out [(.bool (decide (t6 > to_3)))])) fun (z7 : Bool × Unit) =>
  cond z7.1
  (T.load (.int .i64) ⟨r3, 0, none⟩ fun (t8 : Int) =>
  T.load (.int .i64) ⟨r3, 1, none⟩ fun (t9 : Int) =>
  T.load .slice ⟨r3, 2, none⟩ fun (t10 : Option Addr × Nat × Nat) =>
  T.store ⟨r1, 0, none⟩ (.int .i64 t8) <|
  T.store ⟨r1, 1, none⟩ (.int .i64 t9) <|
  T.store ⟨r1, 2, none⟩ (.slice t10.1 t10.2.1 t10.2.2) <|
  T.load (.int .i64) ⟨r1, 0, none⟩ fun (res11 : Int) =>
  T.load (.int .i64) ⟨r1, 1, none⟩ fun (res12 : Int) =>
  T.load .slice ⟨r1, 2, none⟩ fun (res13 : Option Addr × Nat × Nat) =>
  T.ret (.agg #[(.int .i64 res11), (.int .i64 res12), (.slice res13.1 res13.2.1 res13.2.2)]))
  (deref r_0 fun a14 =>
  T.load (.int .i64) (a14.add 1) fun (t15 : Int) =>
  deref r_0 fun a16 =>
  T.store (a16.add 1) (.int .i64 (IntKind.wrap .i64 (t15 + (1 : Int)))) <|
  T.load (.int .i64) ⟨r3, 0, none⟩ fun (t17 : Int) =>
  T.load (.int .i64) ⟨r3, 1, none⟩ fun (t18 : Int) =>
  T.load .slice ⟨r3, 2, none⟩ fun (t19 : Option Addr × Nat × Nat) =>
  T.call 38 [(.pointer r_0)] (.one (.agg [(.int .i64), (.int .i64), .slice])) fun (t20 : Int × Int × (Option Addr × Nat × Nat) × Unit) =>
  T.still ⟨r3, 0, none⟩ (.int .i64 t17) <|
  T.still ⟨r3, 1, none⟩ (.int .i64 t18) <|
  T.still ⟨r3, 2, none⟩ (.slice t19.1 t19.2.1 t19.2.2) <|
  T.new (.cells #[(.int .i64 t17), (.int .i64 t18), (.slice t19.1 t19.2.1 t19.2.2), (.int .i64 t20.1), (.int .i64 t20.2.1), (.slice t20.2.2.1.1 t20.2.2.1.2.1 t20.2.2.1.2.2)] 25 (0, 0)) fun r21 =>
  T.store ⟨r3, 0, none⟩ (.int .i64 t6) <|
  T.store ⟨r3, 1, none⟩ (.int .i64 (0 : Int)) <|
  T.store ⟨r3, 2, none⟩ (.slice (some ⟨r21, 0, none⟩) 2 2) <|
  T.out [])
theorem expr_reader_chain_38_den (r_0 : Option Addr) (from_2 : Int) (to_3 : Int) : denFun Tryd.prog Tryd.f37 [(.pointer r_0), (.func (.func 38) #[(.pointer r_0)] #[]), (.int .i64 from_2), (.int .i64 to_3)] = expr_reader_chain_38_T r_0 from_2 to_3 := by kernel_rfl

/-- (*tronage/expr.reader).product -/
def expr_reader_product_T (r_0 : Option Addr) : T :=
  T.new (.cells #[(.int .i64 (0 : Int)), (.int .i64 (0 : Int)), (.slice none 0 0)] 25 (0, 0)) fun r1 =>
  T.call 37 [(.pointer r_0), (.func (.func 46) #[(.pointer r_0)] #[]), (.int .i64 (7 : Int)), (.int .i64 (9 : Int))] (.one (.agg [(.int .i64), (.int .i64), .slice])) fun (t2 : Int × Int × (Option Addr × Nat × Nat) × Unit) =>
  T.store ⟨r1, 0, none⟩ (.int .i64 t2.1) <|
  T.store ⟨r1, 1, none⟩ (.int .i64 t2.2.1) <|
  T.store ⟨r1, 2, none⟩ (.slice t2.2.2.1.1 t2.2.2.1.2.1 t2.2.2.1.2.2) <|
  T.load (.int .i64) ⟨r1, 0, none⟩ fun (res3 : Int) =>
  T.load (.int .i64) ⟨r1, 1, none⟩ fun (res4 : Int) =>
  T.load .slice ⟨r1, 2, none⟩ fun (res5 : Option Addr × Nat × Nat) =>
  T.ret (.agg #[(.int .i64 res3), (.int .i64 res4), (.slice res5.1 res5.2.1 res5.2.2)])
theorem expr_reader_product_den (r_0 : Option Addr) : denFun Tryd.prog Tryd.f38 [(.pointer r_0)] = expr_reader_product_T r_0 := by kernel_rfl

/-- (*tronage/tronageref20.Reader).product -/
def tronageref20_Reader_product_T (r_0 : Option Addr) : T :=
  T.new (.cells #[(.int .i64 (0 : Int)), (.int .i64 (0 : Int)), (.slice none 0 0)] 25 (0, 0)) fun r1 =>
  T.call 47 [(.pointer r_0)] (.one (.agg [(.int .i64), (.int .i64), .slice])) fun (t2 : Int × Int × (Option Addr × Nat × Nat) × Unit) =>
  T.new (.cells #[(.int .i64 (0 : Int)), (.int .i64 (0 : Int)), (.slice none 0 0)] 25 (0, 0)) fun r3 =>
  T.store ⟨r3, 0, none⟩ (.int .i64 t2.1) <|
  T.store ⟨r3, 1, none⟩ (.int .i64 t2.2.1) <|
  T.store ⟨r3, 2, none⟩ (.slice t2.2.2.1.1 t2.2.2.1.2.1 t2.2.2.1.2.2) <|
  T.block 0 []
  (T.loop [] [] fun (z5 : Unit) =>
  deref r_0 fun a6 =>
  T.load (.int .i64) (a6.add 3) fun (t7 : Int) =>
  cond (t7 == (0 : Int))
  (T.call 28 [(.pointer r_0)] (.one (.atom (.int .i64))) fun (t8 : Int) =>
  T.join [(.atom (.int .i64))]
  (cond (t8 == (42 : Int))
  (T.out [(.int .i64 (7 : Int))])
  (T.join [(.atom (.int .i64))]
  (cond (t8 == (47 : Int))
  (T.out [(.int .i64 (8 : Int))])
  (T.join [(.atom (.int .i64))]
  (cond (t8 == (37 : Int))
  (T.out [(.int .i64 (9 : Int))])
  (T.out [(.int .i64 (0 : Int))])) fun (z11 : Int × Unit) =>
  T.out [(.int .i64 z11.1)])) fun (z10 : Int × Unit) =>
  T.out [(.int .i64 z10.1)])) fun (z9 : Int × Unit) =>
  cond (z9.1 == (0 : Int))
  (T.brk 0 [])
  (deref r_0 fun a12 =>
  T.load (.int .i64) (a12.add 1) fun (t13 : Int) =>
  deref r_0 fun a14 =>
  T.store (a14.add 1) (.int .i64 (IntKind.wrap .i64 (t13 + (1 : Int)))) <|
  T.call 47 [(.pointer r_0)] (.one (.agg [(.int .i64), (.int .i64), .slice])) fun (t15 : Int × Int × (Option Addr × Nat × Nat) × Unit) =>
  T.new (.cells #[(.int .i64 (0 : Int)), (.int .i64 (0 : Int)), (.slice none 0 0)] 25 (0, 0)) fun r16 =>
  T.store ⟨r16, 0, none⟩ (.int .i64 t15.1) <|
  T.store ⟨r16, 1, none⟩ (.int .i64 t15.2.1) <|
  T.store ⟨r16, 2, none⟩ (.slice t15.2.2.1.1 t15.2.2.1.2.1 t15.2.2.1.2.2) <|
  T.load (.int .i64) ⟨r3, 0, none⟩ fun (t17 : Int) =>
  T.load (.int .i64) ⟨r3, 1, none⟩ fun (t18 : Int) =>
  T.load .slice ⟨r3, 2, none⟩ fun (t19 : Option Addr × Nat × Nat) =>
  T.load (.int .i64) ⟨r16, 0, none⟩ fun (t20 : Int) =>
  T.load (.int .i64) ⟨r16, 1, none⟩ fun (t21 : Int) =>
  T.load .slice ⟨r16, 2, none⟩ fun (t22 : Option Addr × Nat × Nat) =>
  T.new (.cells #[(.int .i64 t17), (.int .i64 t18), (.slice t19.1 t19.2.1 t19.2.2), (.int .i64 t20), (.int .i64 t21), (.slice t22.1 t22.2.1 t22.2.2)] 25 (0, 0)) fun r23 =>
  T.store ⟨r3, 0, none⟩ (.int .i64 z9.1) <|
  T.store ⟨r3, 1, none⟩ (.int .i64 (0 : Int)) <|
  T.store ⟨r3, 2, none⟩ (.slice (some ⟨r23, 0, none⟩) 2 2) <|
  T.out []))
  (T.brk 0 [])) fun (z4 : Unit) =>
  T.load (.int .i64) ⟨r3, 0, none⟩ fun (t24 : Int) =>
  T.load (.int .i64) ⟨r3, 1, none⟩ fun (t25 : Int) =>
  T.load .slice ⟨r3, 2, none⟩ fun (t26 : Option Addr × Nat × Nat) =>
  T.store ⟨r1, 0, none⟩ (.int .i64 t24) <|
  T.store ⟨r1, 1, none⟩ (.int .i64 t25) <|
  T.store ⟨r1, 2, none⟩ (.slice t26.1 t26.2.1 t26.2.2) <|
  T.load (.int .i64) ⟨r1, 0, none⟩ fun (res27 : Int) =>
  T.load (.int .i64) ⟨r1, 1, none⟩ fun (res28 : Int) =>
  T.load .slice ⟨r1, 2, none⟩ fun (res29 : Option Addr × Nat × Nat) =>
  T.ret (.agg #[(.int .i64 res27), (.int .i64 res28), (.slice res29.1 res29.2.1 res29.2.2)])
theorem tronageref20_Reader_product_den (r_0 : Option Addr) : denFun Tryd.prog Tryd.f39 [(.pointer r_0)] = tronageref20_Reader_product_T r_0 := by kernel_rfl

/-- tronage/expr.many -/
def expr_many_T (kind_0 : Int) : T :=
  cond (decide (kind_0 < (4 : Int)))
  (T.ret (.int .i64 (0 : Int)))
  (cond (kind_0 == (4 : Int))
  (T.ret (.int .i64 (1 : Int)))
  (T.ret (.int .i64 (2 : Int))))
theorem expr_many_den (kind_0 : Int) : denFun Tryd.prog Tryd.f41 [(.int .i64 kind_0)] = expr_many_T kind_0 := by kernel_rfl

/-- slices.ContainsFunc[[]tronage/api.Expr,tronage/api.Expr] -/
def slices_ContainsFunc_api_Expr_api_Expr_43_T (s_0_p : Option Addr) (s_0_n s_0_c : Nat) : T :=
  T.call 49 [(.slice s_0_p s_0_n s_0_c), (.func (.func 43) #[] #[])] (.one (.atom (.int .i64))) fun (t1 : Int) =>
  T.ret (.bool (decide (t1 ≥ (0 : Int))))
theorem slices_ContainsFunc_api_Expr_api_Expr_43_den (s_0_p : Option Addr) (s_0_n s_0_c : Nat) : denFun Tryd.prog Tryd.f42 [(.slice s_0_p s_0_n s_0_c), (.func (.func 43) #[] #[])] = slices_ContainsFunc_api_Expr_api_Expr_43_T s_0_p s_0_n s_0_c := by kernel_rfl

/-- tronage/expr.sure$1 -/
def expr_sure_1_T (k_0 : Int × Int × (Option Addr × Nat × Nat) × Unit) : T :=
  T.new (.cells #[(.int .i64 k_0.1), (.int .i64 k_0.2.1), (.slice k_0.2.2.1.1 k_0.2.2.1.2.1 k_0.2.2.1.2.2)] 25 (0, 0)) fun r1 =>
  T.load (.int .i64) ⟨r1, 0, none⟩ fun (t2 : Int) =>
  T.load (.int .i64) ⟨r1, 1, none⟩ fun (t3 : Int) =>
  T.load .slice ⟨r1, 2, none⟩ fun (t4 : Option Addr × Nat × Nat) =>
  T.call 35 [(.agg #[(.int .i64 t2), (.int .i64 t3), (.slice t4.1 t4.2.1 t4.2.2)])] (.one (.atom .bool)) fun (t5 : Bool) =>
  T.ret (.bool (!t5))
theorem expr_sure_1_den (k_0 : Int × Int × (Option Addr × Nat × Nat) × Unit) : denFun Tryd.prog Tryd.f43 [(.agg #[(.int .i64 k_0.1), (.int .i64 k_0.2.1), (.slice k_0.2.2.1.1 k_0.2.2.1.2.1 k_0.2.2.1.2.2)])] = expr_sure_1_T k_0 := by kernel_rfl

/-- slices.Index[[]byte,byte] -/
def slices_Index_byte_byte_T (s_0_p : Option Addr) (s_0_n s_0_c : Nat) (v_1 : Int) : T :=
  T.block 0 [(.atom (.int .i64)), (.atom (.int .i64))]
  (T.loop [(.atom (.int .i64)), (.atom (.int .i64))] [(.int .i64 (0 : Int)), (.int .i64 (0 : Int))] fun (z2 : Int × Int × Unit) =>
  cond (decide (z2.1 < ((s_0_n : Nat) : Int)))
  (deref s_0_p fun a3 =>
  chk (0 ≤ z2.1 ∧ z2.1 < (s_0_n : Nat)) <|
  T.load (.int .u8) (a3.add (Int.toNat z2.1 * 1)) fun (t4 : Int) =>
  cond (v_1 == t4)
  (T.ret (.int .i64 z2.1))
  (T.out [(.int .i64 (IntKind.wrap .i64 (z2.1 + (1 : Int)))), (.int .i64 z2.2.1)]))
  (T.brk 0 [(.int .i64 z2.1), (.int .i64 z2.2.1)])) fun (z1 : Int × Int × Unit) =>
  T.ret (.int .i64 (-1 : Int))
theorem slices_Index_byte_byte_den (s_0_p : Option Addr) (s_0_n s_0_c : Nat) (v_1 : Int) : denFun Tryd.prog Tryd.f44 [(.slice s_0_p s_0_n s_0_c), (.int .u8 v_1)] = slices_Index_byte_byte_T s_0_p s_0_n s_0_c v_1 := by kernel_rfl

/-- tronage/expr.sign -/
def expr_sign_T (c_0 : Int) : T :=
  cond (c_0 == (43 : Int))
  (T.ret (.int .i64 (5 : Int)))
  (cond (c_0 == (45 : Int))
  (T.ret (.int .i64 (6 : Int)))
  (cond (c_0 == (42 : Int))
  (T.ret (.int .i64 (7 : Int)))
  (cond (c_0 == (47 : Int))
  (T.ret (.int .i64 (8 : Int)))
  (cond (c_0 == (37 : Int))
  (T.ret (.int .i64 (9 : Int)))
  (T.ret (.int .i64 (0 : Int)))))))
theorem expr_sign_den (c_0 : Int) : denFun Tryd.prog Tryd.f45 [(.int .u8 c_0)] = expr_sign_T c_0 := by kernel_rfl

/-- (*tronage/expr.reader).factor -/
def expr_reader_factor_T (r_0 : Option Addr) : T :=
  T.new (.cells #[(.pointer r_0)] 43 (0, 0)) fun r1 =>
  T.new (.cells #[(.int .i64 (0 : Int)), (.int .i64 (0 : Int)), (.slice none 0 0)] 25 (0, 0)) fun r2 =>
  T.load .pointer ⟨r1, 0, none⟩ fun (t3 : Option Addr) =>
  T.call 25 [(.pointer t3)] (.one (.atom (.int .u8))) fun (t4 : Int) =>
  T.load .pointer ⟨r1, 0, none⟩ fun (t5 : Option Addr) =>
  deref t5 fun a6 =>
  T.load (.int .i64) (a6.add 2) fun (t7 : Int) =>
  deref t5 fun a8 =>
  T.store (a8.add 2) (.int .i64 (IntKind.wrap .i64 (t7 + (1 : Int)))) <|
  T.later 50 [(.pointer (some ⟨r1, 0, none⟩))]
  (T.join [(.atom .bool)]
  (T.load .pointer ⟨r1, 0, none⟩ fun (t10 : Option Addr) =>
  deref t10 fun a11 =>
  T.load (.int .i64) (a11.add 2) fun (t12 : Int) =>
  cond (decide (t12 > (20 : Int)))
  (cond (t4 == (45 : Int))
  (T.out [(.bool true)])
  (cond (t4 == (40 : Int))
  (T.out [(.bool true)])
  (cond (t4 == (36 : Int))
  (T.out [(.bool true)])
  (cond (t4 == (64 : Int))
  (T.out [(.bool true)])
  (cond (decide (t4 ≥ (48 : Int)))
  (T.out [(.bool (decide (t4 ≤ (57 : Int))))])
  (T.out [(.bool false)]))))))
  (T.out [(.bool false)])) fun (z9 : Bool × Unit) =>
  T.join []
  (cond z9.1
  (T.load .pointer ⟨r1, 0, none⟩ fun (t14 : Option Addr) =>
  T.call 27 [(.pointer t14), (.int .i64 (13 : Int))] (.tuple []) fun (t15 : Unit) =>
  T.out [])
  (T.out [])) fun (z13 : Unit) =>
  cond (t4 == (45 : Int))
  (T.load .pointer ⟨r1, 0, none⟩ fun (t16 : Option Addr) =>
  deref t16 fun a17 =>
  T.load (.int .i64) (a17.add 1) fun (t18 : Int) =>
  deref t16 fun a19 =>
  T.store (a19.add 1) (.int .i64 (IntKind.wrap .i64 (t18 + (1 : Int)))) <|
  T.load .pointer ⟨r1, 0, none⟩ fun (t20 : Option Addr) =>
  T.call 46 [(.pointer t20)] (.one (.agg [(.int .i64), (.int .i64), .slice])) fun (t21 : Int × Int × (Option Addr × Nat × Nat) × Unit) =>
  T.new (.cells #[(.int .i64 t21.1), (.int .i64 t21.2.1), (.slice t21.2.2.1.1 t21.2.2.1.2.1 t21.2.2.1.2.2)] 25 (0, 0)) fun r22 =>
  T.store ⟨r2, 0, none⟩ (.int .i64 (4 : Int)) <|
  T.store ⟨r2, 1, none⟩ (.int .i64 (0 : Int)) <|
  T.store ⟨r2, 2, none⟩ (.slice (some ⟨r22, 0, none⟩) 1 1) <|
  T.ret .nilIface)
  (cond (t4 == (40 : Int))
  (T.load .pointer ⟨r1, 0, none⟩ fun (t23 : Option Addr) =>
  deref t23 fun a24 =>
  T.load (.int .i64) (a24.add 1) fun (t25 : Int) =>
  deref t23 fun a26 =>
  T.store (a26.add 1) (.int .i64 (IntKind.wrap .i64 (t25 + (1 : Int)))) <|
  T.load .pointer ⟨r1, 0, none⟩ fun (t27 : Option Addr) =>
  T.call 26 [(.pointer t27)] (.one (.agg [(.int .i64), (.int .i64), .slice])) fun (t28 : Int × Int × (Option Addr × Nat × Nat) × Unit) =>
  T.new (.cells #[(.int .i64 (0 : Int)), (.int .i64 (0 : Int)), (.slice none 0 0)] 25 (0, 0)) fun r29 =>
  T.store ⟨r29, 0, none⟩ (.int .i64 t28.1) <|
  T.store ⟨r29, 1, none⟩ (.int .i64 t28.2.1) <|
  T.store ⟨r29, 2, none⟩ (.slice t28.2.2.1.1 t28.2.2.1.2.1 t28.2.2.1.2.2) <|
  T.load .pointer ⟨r1, 0, none⟩ fun (t30 : Option Addr) =>
  T.call 25 [(.pointer t30)] (.one (.atom (.int .u8))) fun (t31 : Int) =>
  T.join []
  (cond (t31 != (41 : Int))
  (T.load .pointer ⟨r1, 0, none⟩ fun (t33 : Option Addr) =>
  T.call 27 [(.pointer t33), (.int .i64 (30 : Int))] (.tuple []) fun (t34 : Unit) =>
  T.out [])
  (T.out [])) fun (z32 : Unit) =>
  T.load .pointer ⟨r1, 0, none⟩ fun (t35 : Option Addr) =>
  deref t35 fun a36 =>
  T.load (.int .i64) (a36.add 1) fun (t37 : Int) =>
  deref t35 fun a38 =>
  T.store (a38.add 1) (.int .i64 (IntKind.wrap .i64 (t37 + (1 : Int)))) <|
  T.load (.int .i64) ⟨r29, 0, none⟩ fun (t39 : Int) =>
  T.load (.int .i64) ⟨r29, 1, none⟩ fun (t40 : Int) =>
  T.load .slice ⟨r29, 2, none⟩ fun (t41 : Option Addr × Nat × Nat) =>
  T.store ⟨r2, 0, none⟩ (.int .i64 t39) <|
  T.store ⟨r2, 1, none⟩ (.int .i64 t40) <|
  T.store ⟨r2, 2, none⟩ (.slice t41.1 t41.2.1 t41.2.2) <|
  T.ret .nilIface)
  (cond (t4 == (36 : Int))
  (T.load .pointer ⟨r1, 0, none⟩ fun (t42 : Option Addr) =>
  deref t42 fun a43 =>
  T.load (.int .i64) (a43.add 1) fun (t44 : Int) =>
  deref t42 fun a45 =>
  T.store (a45.add 1) (.int .i64 (IntKind.wrap .i64 (t44 + (1 : Int)))) <|
  T.load .pointer ⟨r1, 0, none⟩ fun (t46 : Option Addr) =>
  T.call 51 [(.pointer t46)] (.one (.atom (.int .i64))) fun (t47 : Int) =>
  T.store ⟨r2, 0, none⟩ (.int .i64 (2 : Int)) <|
  T.store ⟨r2, 1, none⟩ (.int .i64 t47) <|
  T.store ⟨r2, 2, none⟩ (.slice none 0 0) <|
  T.ret .nilIface)
  (cond (t4 == (64 : Int))
  (T.load .pointer ⟨r1, 0, none⟩ fun (t48 : Option Addr) =>
  deref t48 fun a49 =>
  T.load (.int .i64) (a49.add 1) fun (t50 : Int) =>
  deref t48 fun a51 =>
  T.store (a51.add 1) (.int .i64 (IntKind.wrap .i64 (t50 + (1 : Int)))) <|
  T.load .pointer ⟨r1, 0, none⟩ fun (t52 : Option Addr) =>
  T.call 51 [(.pointer t52)] (.one (.atom (.int .i64))) fun (t53 : Int) =>
  T.store ⟨r2, 0, none⟩ (.int .i64 (3 : Int)) <|
  T.store ⟨r2, 1, none⟩ (.int .i64 t53) <|
  T.store ⟨r2, 2, none⟩ (.slice none 0 0) <|
  T.ret .nilIface)
  (T.load .pointer ⟨r1, 0, none⟩ fun (t54 : Option Addr) =>
  T.call 51 [(.pointer t54)] (.one (.atom (.int .i64))) fun (t55 : Int) =>
  T.store ⟨r2, 0, none⟩ (.int .i64 (1 : Int)) <|
  T.store ⟨r2, 1, none⟩ (.int .i64 t55) <|
  T.store ⟨r2, 2, none⟩ (.slice none 0 0) <|
  T.ret .nilIface)))))
  (T.load (.int .i64) ⟨r2, 0, none⟩ fun (res56 : Int) =>
  T.load (.int .i64) ⟨r2, 1, none⟩ fun (res57 : Int) =>
  T.load .slice ⟨r2, 2, none⟩ fun (res58 : Option Addr × Nat × Nat) =>
  T.ret (.agg #[(.int .i64 res56), (.int .i64 res57), (.slice res58.1 res58.2.1 res58.2.2)]))
theorem expr_reader_factor_den (r_0 : Option Addr) : denFunD Tryd.prog Tryd.f46 [(.pointer r_0)] = expr_reader_factor_T r_0 := by kernel_rfl

/-- (*tronage/tronageref20.Reader).factor -/
def tronageref20_Reader_factor_T (r_0 : Option Addr) : T :=
  T.new (.cells #[(.int .i64 (0 : Int)), (.int .i64 (0 : Int)), (.slice none 0 0)] 25 (0, 0)) fun r1 =>
  T.call 28 [(.pointer r_0)] (.one (.atom (.int .i64))) fun (t2 : Int) =>
  T.join [(.atom .bool)]
  (cond (t2 == (45 : Int))
  (T.out [(.bool true)])
  (cond (t2 == (40 : Int))
  (T.out [(.bool true)])
  (cond (t2 == (36 : Int))
  (T.out [(.bool true)])
  (cond (t2 == (64 : Int))
  (T.out [(.bool true)])
  (cond (decide (t2 ≥ (48 : Int)))
  (T.out [(.bool (decide (t2 ≤ (57 : Int))))])
  (T.out [(.bool false)])))))) fun (z3 : Bool × Unit) =>
  T.join [(.atom .bool)]
  (deref r_0 fun a5 =>
  T.load (.int .i64) (a5.add 3) fun (t6 : Int) =>
  cond (t6 != (0 : Int))
  (T.out [(.bool true)])
  (T.out [(.bool (!z3.1))])) fun (z4 : Bool × Unit) =>
  cond z4.1
  (T.call 30 [(.pointer r_0), (.int .i64 (30 : Int))] (.tuple []) fun (t7 : Unit) =>
  T.store ⟨r1, 0, none⟩ (.int .i64 (0 : Int)) <|
  T.store ⟨r1, 1, none⟩ (.int .i64 (0 : Int)) <|
  T.store ⟨r1, 2, none⟩ (.slice none 0 0) <|
  T.load (.int .i64) ⟨r1, 0, none⟩ fun (res8 : Int) =>
  T.load (.int .i64) ⟨r1, 1, none⟩ fun (res9 : Int) =>
  T.load .slice ⟨r1, 2, none⟩ fun (res10 : Option Addr × Nat × Nat) =>
  T.ret (.agg #[(.int .i64 res8), (.int .i64 res9), (.slice res10.1 res10.2.1 res10.2.2)]))
  (deref r_0 fun a11 =>
  T.load (.int .i64) (a11.add 2) fun (t12 : Int) =>
  cond (t12 == (20 : Int))
  (T.call 30 [(.pointer r_0), (.int .i64 (13 : Int))] (.tuple []) fun (t13 : Unit) =>
  T.store ⟨r1, 0, none⟩ (.int .i64 (0 : Int)) <|
  T.store ⟨r1, 1, none⟩ (.int .i64 (0 : Int)) <|
  T.store ⟨r1, 2, none⟩ (.slice none 0 0) <|
  T.load (.int .i64) ⟨r1, 0, none⟩ fun (res14 : Int) =>
  T.load (.int .i64) ⟨r1, 1, none⟩ fun (res15 : Int) =>
  T.load .slice ⟨r1, 2, none⟩ fun (res16 : Option Addr × Nat × Nat) =>
  T.ret (.agg #[(.int .i64 res14), (.int .i64 res15), (.slice res16.1 res16.2.1 res16.2.2)]))
  (deref r_0 fun a17 =>
  T.load (.int .i64) (a17.add 2) fun (t18 : Int) =>
  deref r_0 fun a19 =>
  T.store (a19.add 2) (.int .i64 (IntKind.wrap .i64 (t18 + (1 : Int)))) <|
  T.new (.cells #[(.int .i64 (0 : Int)), (.int .i64 (0 : Int)), (.slice none 0 0)] 25 (0, 0)) fun r20 =>
  T.store ⟨r20, 0, none⟩ (.int .i64 (1 : Int)) <|
  T.store ⟨r20, 1, none⟩ (.int .i64 (0 : Int)) <|
  T.store ⟨r20, 2, none⟩ (.slice none 0 0) <|
  T.join []
  (cond (t2 == (45 : Int))
  (deref r_0 fun a22 =>
  T.load (.int .i64) (a22.add 1) fun (t23 : Int) =>
  deref r_0 fun a24 =>
  T.store (a24.add 1) (.int .i64 (IntKind.wrap .i64 (t23 + (1 : Int)))) <|
  T.call 47 [(.pointer r_0)] (.one (.agg [(.int .i64), (.int .i64), .slice])) fun (t25 : Int × Int × (Option Addr × Nat × Nat) × Unit) =>
  T.new (.cells #[(.int .i64 (0 : Int)), (.int .i64 (0 : Int)), (.slice none 0 0)] 25 (0, 0)) fun r26 =>
  T.store ⟨r26, 0, none⟩ (.int .i64 t25.1) <|
  T.store ⟨r26, 1, none⟩ (.int .i64 t25.2.1) <|
  T.store ⟨r26, 2, none⟩ (.slice t25.2.2.1.1 t25.2.2.1.2.1 t25.2.2.1.2.2) <|
  T.load (.int .i64) ⟨r26, 0, none⟩ fun (t27 : Int) =>
  T.load (.int .i64) ⟨r26, 1, none⟩ fun (t28 : Int) =>
  T.load .slice ⟨r26, 2, none⟩ fun (t29 : Option Addr × Nat × Nat) =>
  T.new (.cells #[(.int .i64 t27), (.int .i64 t28), (.slice t29.1 t29.2.1 t29.2.2)] 25 (0, 0)) fun r30 =>
  T.store ⟨r20, 0, none⟩ (.int .i64 (4 : Int)) <|
  T.store ⟨r20, 1, none⟩ (.int .i64 (0 : Int)) <|
  T.store ⟨r20, 2, none⟩ (.slice (some ⟨r30, 0, none⟩) 1 1) <|
  T.out [])
  (T.join []
  (cond (t2 == (40 : Int))
  (deref r_0 fun a32 =>
  T.load (.int .i64) (a32.add 1) fun (t33 : Int) =>
  deref r_0 fun a34 =>
  T.store (a34.add 1) (.int .i64 (IntKind.wrap .i64 (t33 + (1 : Int)))) <|
  T.call 29 [(.pointer r_0)] (.one (.agg [(.int .i64), (.int .i64), .slice])) fun (t35 : Int × Int × (Option Addr × Nat × Nat) × Unit) =>
  T.store ⟨r20, 0, none⟩ (.int .i64 t35.1) <|
  T.store ⟨r20, 1, none⟩ (.int .i64 t35.2.1) <|
  T.store ⟨r20, 2, none⟩ (.slice t35.2.2.1.1 t35.2.2.1.2.1 t35.2.2.1.2.2) <|
  T.call 28 [(.pointer r_0)] (.one (.atom (.int .i64))) fun (t36 : Int) =>
  T.join []
  (cond (t36 != (41 : Int))
  (T.call 30 [(.pointer r_0), (.int .i64 (30 : Int))] (.tuple []) fun (t38 : Unit) =>
  T.out [])
  (T.out [])) fun (z37 : Unit) =>
  deref r_0 fun a39 =>
  T.load (.int .i64) (a39.add 1) fun (t40 : Int) =>
  deref r_0 fun a41 =>
  T.store (a41.add 1) (.int .i64 (IntKind.wrap .i64 (t40 + (1 : Int)))) <|
  T.out [])
  (T.join []
  (cond (t2 == (36 : Int))
  (deref r_0 fun a43 =>
  T.load (.int .i64) (a43.add 1) fun (t44 : Int) =>
  deref r_0 fun a45 =>
  T.store (a45.add 1) (.int .i64 (IntKind.wrap .i64 (t44 + (1 : Int)))) <|
  T.call 52 [(.pointer r_0)] (.one (.atom (.int .i64))) fun (t46 : Int) =>
  T.store ⟨r20, 0, none⟩ (.int .i64 (2 : Int)) <|
  T.store ⟨r20, 1, none⟩ (.int .i64 t46) <|
  T.store ⟨r20, 2, none⟩ (.slice none 0 0) <|
  T.out [])
  (T.join []
  (cond (t2 == (64 : Int))
  (deref r_0 fun a48 =>
  T.load (.int .i64) (a48.add 1) fun (t49 : Int) =>
  deref r_0 fun a50 =>
  T.store (a50.add 1) (.int .i64 (IntKind.wrap .i64 (t49 + (1 : Int)))) <|
  T.call 52 [(.pointer r_0)] (.one (.atom (.int .i64))) fun (t51 : Int) =>
  T.store ⟨r20, 0, none⟩ (.int .i64 (3 : Int)) <|
  T.store ⟨r20, 1, none⟩ (.int .i64 t51) <|
  T.store ⟨r20, 2, none⟩ (.slice none 0 0) <|
  T.out [])
  (T.call 52 [(.pointer r_0)] (.one (.atom (.int .i64))) fun (t52 : Int) =>
  T.store ⟨r20, 1, none⟩ (.int .i64 t52) <|
  T.out [])) fun (z47 : Unit) =>
  T.out [])) fun (z42 : Unit) =>
  T.out [])) fun (z31 : Unit) =>
  T.out [])) fun (z21 : Unit) =>
  deref r_0 fun a53 =>
  T.load (.int .i64) (a53.add 2) fun (t54 : Int) =>
  deref r_0 fun a55 =>
  T.store (a55.add 2) (.int .i64 (IntKind.wrap .i64 (t54 - (1 : Int)))) <|
  T.load (.int .i64) ⟨r20, 0, none⟩ fun (t56 : Int) =>
  T.load (.int .i64) ⟨r20, 1, none⟩ fun (t57 : Int) =>
  T.load .slice ⟨r20, 2, none⟩ fun (t58 : Option Addr × Nat × Nat) =>
  T.store ⟨r1, 0, none⟩ (.int .i64 t56) <|
  T.store ⟨r1, 1, none⟩ (.int .i64 t57) <|
  T.store ⟨r1, 2, none⟩ (.slice t58.1 t58.2.1 t58.2.2) <|
  T.load (.int .i64) ⟨r1, 0, none⟩ fun (res59 : Int) =>
  T.load (.int .i64) ⟨r1, 1, none⟩ fun (res60 : Int) =>
  T.load .slice ⟨r1, 2, none⟩ fun (res61 : Option Addr × Nat × Nat) =>
  T.ret (.agg #[(.int .i64 res59), (.int .i64 res60), (.slice res61.1 res61.2.1 res61.2.2)])))
theorem tronageref20_Reader_factor_den (r_0 : Option Addr) : denFun Tryd.prog Tryd.f47 [(.pointer r_0)] = tronageref20_Reader_factor_T r_0 := by kernel_rfl

/-- slices.IndexFunc[[]tronage/api.Expr,tronage/api.Expr] -/
def slices_IndexFunc_api_Expr_api_Expr_43_T (s_0_p : Option Addr) (s_0_n s_0_c : Nat) : T :=
  T.block 0 [(.atom (.int .i64)), (.atom (.int .i64))]
  (T.loop [(.atom (.int .i64)), (.atom (.int .i64))] [(.int .i64 (0 : Int)), (.int .i64 (0 : Int))] fun (z2 : Int × Int × Unit) =>
  cond (decide (z2.1 < ((s_0_n : Nat) : Int)))
  (deref s_0_p fun a3 =>
  chk (0 ≤ z2.1 ∧ z2.1 < (s_0_n : Nat)) <|
  T.load (.int .i64) (a3.add (Int.toNat z2.1 * 3)) fun (t4 : Int) =>
  T.load (.int .i64) ((a3.add (Int.toNat z2.1 * 3)).add 1) fun (t5 : Int) =>
  T.load .slice ((a3.add (Int.toNat z2.1 * 3)).add 2) fun (t6 : Option Addr × Nat × Nat) =>
  T.call 43 [(.agg #[(.int .i64 t4), (.int .i64 t5), (.slice t6.1 t6.2.1 t6.2.2)])] (.one (.atom .bool)) fun (t7 : Bool) =>
  cond t7
  (T.ret (.int .i64 z2.1))
  (T.out [(.int .i64 (IntKind.wrap .i64 (z2.1 + (1 : Int)))), (.int .i64 z2.2.1)]))
  (T.brk 0 [(.int .i64 z2.1), (.int .i64 z2.2.1)])) fun (z1 : Int × Int × Unit) =>
  T.ret (.int .i64 (-1 : Int))
theorem slices_IndexFunc_api_Expr_api_Expr_43_den (s_0_p : Option Addr) (s_0_n s_0_c : Nat) : denFun Tryd.prog Tryd.f49 [(.slice s_0_p s_0_n s_0_c), (.func (.func 43) #[] #[])] = slices_IndexFunc_api_Expr_api_Expr_43_T s_0_p s_0_n s_0_c := by kernel_rfl

/-- (*tronage/expr.reader).factor$1 -/
def expr_reader_factor_1_T (c_0 : Nat) : T :=
  T.load .pointer ⟨c_0, 0, none⟩ fun (t1 : Option Addr) =>
  deref t1 fun a2 =>
  T.load (.int .i64) (a2.add 2) fun (t3 : Int) =>
  deref t1 fun a4 =>
  T.store (a4.add 2) (.int .i64 (IntKind.wrap .i64 (t3 - (1 : Int)))) <|
  T.ret (.tuple #[])
theorem expr_reader_factor_1_den (c_0 : Nat) : denFun Tryd.prog Tryd.f50 [(.pointer (some ⟨c_0, 0, none⟩))] = expr_reader_factor_1_T c_0 := by kernel_rfl

/-- (*tronage/expr.reader).number -/
def expr_reader_number_T (r_0 : Option Addr) : T :=
  T.block 0 [(.atom (.int .i64)), (.atom (.int .i64))]
  (T.loop [(.atom (.int .i64)), (.atom (.int .i64))] [(.int .i64 (0 : Int)), (.int .i64 (0 : Int))] fun (z2 : Int × Int × Unit) =>
  T.join [(.atom .bool)]
  (deref r_0 fun a4 =>
  T.load (.int .i64) (a4.add 1) fun (t5 : Int) =>
  deref r_0 fun a6 =>
  T.load .string a6 fun (t7 : ByteArray) =>
  cond (decide (t5 < ((ByteArray.size t7 : Nat) : Int)))
  (deref r_0 fun a8 =>
  T.load .string a8 fun (t9 : ByteArray) =>
  deref r_0 fun a10 =>
  T.load (.int .i64) (a10.add 1) fun (t11 : Int) =>
  chk (0 ≤ t11 ∧ t11 < (ByteArray.size t9 : Nat)) <|
  cond (decide (((UInt8.toNat (byteAt t9 (Int.toNat t11)) : Nat) : Int) ≥ (48 : Int)))
  (deref r_0 fun a12 =>
  T.load .string a12 fun (t13 : ByteArray) =>
  deref r_0 fun a14 =>
  T.load (.int .i64) (a14.add 1) fun (t15 : Int) =>
  chk (0 ≤ t15 ∧ t15 < (ByteArray.size t13 : Nat)) <|
  T.out [(.bool (decide (((UInt8.toNat (byteAt t13 (Int.toNat t15)) : Nat) : Int) ≤ (57 : Int))))])
  (T.out [(.bool false)]))
  (T.out [(.bool false)])) fun (z3 : Bool × Unit) =>
  cond z3.1
  (T.join []
  (cond (decide ((IntKind.wrap .i64 (z2.1 + (1 : Int))) > (18 : Int)))
  (T.call 27 [(.pointer r_0), (.int .i64 (30 : Int))] (.tuple []) fun (t17 : Unit) =>
  T.out [])
  (T.out [])) fun (z16 : Unit) =>
  deref r_0 fun a18 =>
  T.load .string a18 fun (t19 : ByteArray) =>
  deref r_0 fun a20 =>
  T.load (.int .i64) (a20.add 1) fun (t21 : Int) =>
  chk (0 ≤ t21 ∧ t21 < (ByteArray.size t19 : Nat)) <|
  deref r_0 fun a22 =>
  T.load (.int .i64) (a22.add 1) fun (t23 : Int) =>
  deref r_0 fun a24 =>
  T.store (a24.add 1) (.int .i64 (IntKind.wrap .i64 (t23 + (1 : Int)))) <|
  T.out [(.int .i64 (IntKind.wrap .i64 (z2.1 + (1 : Int)))), (.int .i64 (IntKind.wrap .i64 ((IntKind.wrap .i64 ((10 : Int) * z2.2.1)) + (IntKind.wrap .i64 (IntKind.wrap .u8 (((UInt8.toNat (byteAt t19 (Int.toNat t21)) : Nat) : Int) - (48 : Int)))))))])
  (T.brk 0 [(.int .i64 z2.1), (.int .i64 z2.2.1)])) fun (z1 : Int × Int × Unit) =>
  T.join []
  (cond (z1.1 == (0 : Int))
  (T.call 27 [(.pointer r_0), (.int .i64 (30 : Int))] (.tuple []) fun (t26 : Unit) =>
  T.out [])
  (T.out [])) fun (z25 : Unit) =>
  T.ret (.int .i64 z1.2.1)
theorem expr_reader_number_den (r_0 : Option Addr) : denFun Tryd.prog Tryd.f51 [(.pointer r_0)] = expr_reader_number_T r_0 := by kernel_rfl

/-- (*tronage/tronageref20.Reader).number -/
def tronageref20_Reader_number_T (r_0 : Option Addr) : T :=
  T.block 0 [(.atom (.int .i64)), (.atom (.int .i64)), (.atom (.int .i64))]
  (T.loop [(.atom (.int .i64)), (.atom (.int .i64)), (.atom (.int .i64))] [(.int .i64 (0 : Int)), (.int .i64 (0 : Int)), (.int .i64 (0 : Int))] fun (z2 : Int × Int × Int × Unit) =>
  T.join [(.atom .bool)]
  (deref r_0 fun a4 =>
  T.load (.int .i64) (a4.add 1) fun (t5 : Int) =>
  deref r_0 fun a6 =>
  T.load .string a6 fun (t7 : ByteArray) =>
  cond (decide (t5 < ((ByteArray.size t7 : Nat) : Int)))
  (deref r_0 fun a8 =>
  T.load .string a8 fun (t9 : ByteArray) =>
  deref r_0 fun a10 =>
  T.load (.int .i64) (a10.add 1) fun (t11 : Int) =>
  chk (0 ≤ t11 ∧ t11 < (ByteArray.size t9 : Nat)) <|
  cond (decide (((UInt8.toNat (byteAt t9 (Int.toNat t11)) : Nat) : Int) ≥ (48 : Int)))
  (deref r_0 fun a12 =>
  T.load .string a12 fun (t13 : ByteArray) =>
  deref r_0 fun a14 =>
  T.load (.int .i64) (a14.add 1) fun (t15 : Int) =>
  chk (0 ≤ t15 ∧ t15 < (ByteArray.size t13 : Nat)) <|
  T.out [(.bool (decide (((UInt8.toNat (byteAt t13 (Int.toNat t15)) : Nat) : Int) ≤ (57 : Int))))])
  (T.out [(.bool false)]))
  (T.out [(.bool false)])) fun (z3 : Bool × Unit) =>
  cond z3.1
  (cond (z2.1 == (18 : Int))
  (T.call 30 [(.pointer r_0), (.int .i64 (30 : Int))] (.tuple []) fun (t16 : Unit) =>
  T.ret (.int .i64 (0 : Int)))
  (deref r_0 fun a17 =>
  T.load .string a17 fun (t18 : ByteArray) =>
  deref r_0 fun a19 =>
  T.load (.int .i64) (a19.add 1) fun (t20 : Int) =>
  chk (0 ≤ t20 ∧ t20 < (ByteArray.size t18 : Nat)) <|
  deref r_0 fun a21 =>
  T.load (.int .i64) (a21.add 1) fun (t22 : Int) =>
  deref r_0 fun a23 =>
  T.store (a23.add 1) (.int .i64 (IntKind.wrap .i64 (t22 + (1 : Int)))) <|
  T.out [(.int .i64 (IntKind.wrap .i64 (z2.1 + (1 : Int)))), (.int .i64 (IntKind.wrap .i64 ((IntKind.wrap .i64 ((10 : Int) * z2.2.1)) + (IntKind.wrap .i64 (IntKind.wrap .u8 (((UInt8.toNat (byteAt t18 (Int.toNat t20)) : Nat) : Int) - (48 : Int))))))), (.int .i64 z2.2.2.1)]))
  (T.brk 0 [(.int .i64 z2.1), (.int .i64 z2.2.1), (.int .i64 z2.2.2.1)])) fun (z1 : Int × Int × Int × Unit) =>
  T.join []
  (cond (z1.1 == (0 : Int))
  (T.call 30 [(.pointer r_0), (.int .i64 (30 : Int))] (.tuple []) fun (t25 : Unit) =>
  T.out [])
  (T.out [])) fun (z24 : Unit) =>
  T.ret (.int .i64 z1.2.1)
theorem tronageref20_Reader_number_den (r_0 : Option Addr) : denFun Tryd.prog Tryd.f52 [(.pointer r_0)] = tronageref20_Reader_number_T r_0 := by kernel_rfl

end Go.Proofs.YtkhfdckieocciaaDoor
