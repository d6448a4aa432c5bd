import Derived.Test.YtklamaeccniblaaDoorEngI
import Derived.Test.YtklamaeccniblaaDoorProg
import Derived.KernelRfl
namespace Go.Proofs.YtklamaeccniblaaDoor
open Go Go.Eng
set_option linter.unusedVariables false
set_option maxRecDepth 100000

/-- tronage/tronagelaw15.TableShares -/
def tronagelaw15_TableShares_T (rows_0_p : Option Addr) (rows_0_n rows_0_c : Nat) (noughts_1_p : Option Addr) (noughts_1_n noughts_1_c : Nat) : T :=
  T.call 8 [] (.one (.atom .bool)) fun (t1 : Bool) =>
  T.call 9 [(.slice rows_0_p rows_0_n rows_0_c)] (.one (.atom .bool)) fun (t2 : Bool) =>
  cond (!t2)
  (T.ret (.bool t1))
  (T.call 10 [(.slice rows_0_p rows_0_n rows_0_c)] (.tuple [(.atom .slice), (.atom .slice)]) fun (t3 : (Option Addr × Nat × Nat) × (Option Addr × Nat × Nat) × Unit) =>
  cond (((t3.1.2.1 : Nat) : Int) != ((rows_0_n : Nat) : Int))
  (T.ret (.bool false))
  (T.block 0 [(.atom (.int .i64)), (.atom .slice), (.atom .bool)]
  (T.loop [(.atom (.int .i64)), (.atom .slice), (.atom .bool)] [(.int .i64 (0 : Int)), (.slice none 0 0), (.bool false)] fun (z5 : Int × (Option Addr × Nat × Nat) × Bool × Unit) =>
  cond (decide (z5.1 < ((rows_0_n : Nat) : Int)))
  (T.new (.cells #[] 3 (0, 0)) fun r6 =>
  deref rows_0_p fun a7 =>
  chk (0 ≤ z5.1 ∧ z5.1 < (rows_0_n : Nat)) <|
  T.load .slice (a7.add (Int.toNat z5.1 * 1)) fun (t8 : Option Addr × Nat × Nat) =>
  T.sem (Builtin.append_ #[26, 26] 26 #[(.slice (some ⟨r6, 0, none⟩) 0 0), (.slice t8.1 t8.2.1 t8.2.2)]) (.one (.atom .slice)) fun (t9 : Option Addr × Nat × Nat) =>
  T.block 2 [(.atom (.int .i64)), (.atom .slice)]
  (T.loop [(.atom (.int .i64)), (.atom .slice)] [(.int .i64 (0 : Int)), (.slice t9.1 t9.2.1 t9.2.2)] fun (z11 : Int × (Option Addr × Nat × Nat) × Unit) =>
  T.join [(.atom .bool)]
  (cond (decide (z5.1 < ((noughts_1_n : Nat) : Int)))
  (deref noughts_1_p fun a13 =>
  chk (0 ≤ z5.1 ∧ z5.1 < (noughts_1_n : Nat)) <|
  T.load (.int .u8) (a13.add (Int.toNat z5.1 * 1)) fun (t14 : Int) =>
  chk ((10 : Int) ≠ 0) <|
  T.out [(.bool (decide (z11.1 < (IntKind.wrap .i64 (Int.tmod t14 (10 : Int))))))])
  (T.out [(.bool false)])) fun (z12 : Bool × Unit) =>
  cond z12.1
  (T.new (.cells #[(.int .i64 (0 : Int))] 3 (0, 0)) fun r15 =>
  T.sem (Builtin.append_ #[26, 26] 26 #[(.slice z11.2.1.1 z11.2.1.2.1 z11.2.1.2.2), (.slice (some ⟨r15, 0, none⟩) 1 1)]) (.one (.atom .slice)) fun (t16 : Option Addr × Nat × Nat) =>
  T.out [(.int .i64 (IntKind.wrap .i64 (z11.1 + (1 : Int)))), (.slice t16.1 t16.2.1 t16.2.2)])
  (T.brk 2 [(.int .i64 z11.1), (.slice z11.2.1.1 z11.2.1.2.1 z11.2.1.2.2)])) fun (z10 : Int × (Option Addr × Nat × Nat) × Unit) =>
  T.new (.cells #[(.slice z10.2.1.1 z10.2.1.2.1 z10.2.1.2.2)] 26 (0, 0)) fun r17 =>
  T.sem (Builtin.append_ #[22, 22] 22 #[(.slice z5.2.1.1 z5.2.1.2.1 z5.2.1.2.2), (.slice (some ⟨r17, 0, none⟩) 1 1)]) (.one (.atom .slice)) fun (t18 : Option Addr × Nat × Nat) =>
  T.join [(.atom .bool)]
  (deref t3.1.1 fun a20 =>
  chk (0 ≤ z5.1 ∧ z5.1 < (t3.1.2.1 : Nat)) <|
  T.load (.int .i64) (a20.add (Int.toNat z5.1 * 1)) fun (t21 : Int) =>
  cond (decide (t21 < (0 : Int)))
  (T.out [(.bool true)])
  (deref t3.1.1 fun a22 =>
  chk (0 ≤ z5.1 ∧ z5.1 < (t3.1.2.1 : Nat)) <|
  T.load (.int .i64) (a22.add (Int.toNat z5.1 * 1)) fun (t23 : Int) =>
  cond (decide (t23 ≥ ((t3.2.1.2.1 : Nat) : Int)))
  (T.out [(.bool true)])
  (deref t3.1.1 fun a24 =>
  chk (0 ≤ z5.1 ∧ z5.1 < (t3.1.2.1 : Nat)) <|
  T.load (.int .i64) (a24.add (Int.toNat z5.1 * 1)) fun (t25 : Int) =>
  deref t3.2.1.1 fun a26 =>
  chk (0 ≤ t25 ∧ t25 < (t3.2.1.2.1 : Nat)) <|
  T.load .slice (a26.add (Int.toNat t25 * 1)) fun (t27 : Option Addr × Nat × Nat) =>
  deref rows_0_p fun a28 =>
  chk (0 ≤ z5.1 ∧ z5.1 < (rows_0_n : Nat)) <|
  T.load .slice (a28.add (Int.toNat z5.1 * 1)) fun (t29 : Option Addr × Nat × Nat) =>
  T.call 12 [(.slice t29.1 t29.2.1 t29.2.2)] (.one (.atom .slice)) fun (t30 : Option Addr × Nat × Nat) =>
  T.still (a26.add (Int.toNat t25 * 1)) (.slice t27.1 t27.2.1 t27.2.2) <|
  T.still (a24.add (Int.toNat z5.1 * 1)) (.int .i64 t25) <|
  T.call 11 [(.slice t27.1 t27.2.1 t27.2.2), (.slice t30.1 t30.2.1 t30.2.2)] (.one (.atom .bool)) fun (t31 : Bool) =>
  T.out [(.bool (!t31))]))) fun (z19 : Bool × Unit) =>
  cond z19.1
  (T.ret (.bool false))
  (T.out [(.int .i64 (IntKind.wrap .i64 (z5.1 + (1 : Int)))), (.slice t18.1 t18.2.1 t18.2.2), (.bool z5.2.2.1)]))
  (T.brk 0 [(.int .i64 z5.1), (.slice z5.2.1.1 z5.2.1.2.1 z5.2.1.2.2), (.bool z5.2.2.1)])) fun (z4 : Int × (Option Addr × Nat × Nat) × Bool × Unit) =>
  T.block 4 [(.atom (.int .i64)), (.atom .bool)]
  (T.loop [(.atom (.int .i64)), (.atom .bool)] [(.int .i64 (0 : Int)), (.bool z4.2.2.1)] fun (z33 : Int × Bool × Unit) =>
  cond (decide (z33.1 < ((t3.2.1.2.1 : Nat) : Int)))
  (T.block 6 [(.atom (.int .i64)), (.atom .bool)]
  (T.loop [(.atom (.int .i64)), (.atom .bool)] [(.int .i64 (0 : Int)), (.bool z33.2.1)] fun (z35 : Int × Bool × Unit) =>
  cond (decide (z35.1 < z33.1))
  (deref t3.2.1.1 fun a36 =>
  chk (0 ≤ z33.1 ∧ z33.1 < (t3.2.1.2.1 : Nat)) <|
  T.load .slice (a36.add (Int.toNat z33.1 * 1)) fun (t37 : Option Addr × Nat × Nat) =>
  deref t3.2.1.1 fun a38 =>
  chk (0 ≤ z35.1 ∧ z35.1 < (t3.2.1.2.1 : Nat)) <|
  T.load .slice (a38.add (Int.toNat z35.1 * 1)) fun (t39 : Option Addr × Nat × Nat) =>
  T.call 11 [(.slice t37.1 t37.2.1 t37.2.2), (.slice t39.1 t39.2.1 t39.2.2)] (.one (.atom .bool)) fun (t40 : Bool) =>
  cond t40
  (T.ret (.bool false))
  (T.out [(.int .i64 (IntKind.wrap .i64 (z35.1 + (1 : Int)))), (.bool z35.2.1)]))
  (T.brk 6 [(.int .i64 z35.1), (.bool z35.2.1)])) fun (z34 : Int × Bool × Unit) =>
  T.out [(.int .i64 (IntKind.wrap .i64 (z33.1 + (1 : Int)))), (.bool z34.2.1)])
  (T.brk 4 [(.int .i64 z33.1), (.bool z33.2.1)])) fun (z32 : Int × Bool × Unit) =>
  T.call 10 [(.slice z4.2.1.1 z4.2.1.2.1 z4.2.1.2.2)] (.tuple [(.atom .slice), (.atom .slice)]) fun (t41 : (Option Addr × Nat × Nat) × (Option Addr × Nat × Nat) × Unit) =>
  T.join [(.atom .bool)]
  (cond t1
  (T.call 11 [(.slice t3.1.1 t3.1.2.1 t3.1.2.2), (.slice t41.1.1 t41.1.2.1 t41.1.2.2)] (.one (.atom .bool)) fun (t43 : Bool) =>
  cond t43
  (T.call 13 [(.slice t3.2.1.1 t3.2.1.2.1 t3.2.1.2.2), (.slice t41.2.1.1 t41.2.1.2.1 t41.2.1.2.2)] (.one (.atom .bool)) fun (t44 : Bool) =>
  T.out [(.bool t44)])
  (T.out [(.bool false)]))
  (T.out [(.bool false)])) fun (z42 : Bool × Unit) =>
  T.ret (.bool z42.1)))
theorem tronagelaw15_TableShares_den (rows_0_p : Option Addr) (rows_0_n rows_0_c : Nat) (noughts_1_p : Option Addr) (noughts_1_n noughts_1_c : Nat) : denFun Tryd.prog Tryd.f3 [(.slice rows_0_p rows_0_n rows_0_c), (.slice noughts_1_p noughts_1_n noughts_1_c)] = tronagelaw15_TableShares_T rows_0_p rows_0_n rows_0_c noughts_1_p noughts_1_n noughts_1_c := by kernel_rfl

/-- tronage/tronagelaw15.TableFits -/
def tronagelaw15_TableFits_T (rows_0_p : Option Addr) (rows_0_n rows_0_c : Nat) : T :=
  T.call 8 [] (.one (.atom .bool)) fun (t1 : Bool) =>
  T.call 9 [(.slice rows_0_p rows_0_n rows_0_c)] (.one (.atom .bool)) fun (t2 : Bool) =>
  cond (!t2)
  (T.ret (.bool t1))
  (T.call 14 [(.slice rows_0_p rows_0_n rows_0_c)] (.one (.agg [.slice, .slice, .slice, .slice])) fun (t3 : (Option Addr × Nat × Nat) × (Option Addr × Nat × Nat) × (Option Addr × Nat × Nat) × (Option Addr × Nat × Nat) × Unit) =>
  T.new (.cells #[(.slice none 0 0), (.slice none 0 0), (.slice none 0 0), (.slice none 0 0)] 34 (0, 0)) fun r4 =>
  T.store ⟨r4, 0, none⟩ (.slice t3.1.1 t3.1.2.1 t3.1.2.2) <|
  T.store ⟨r4, 1, none⟩ (.slice t3.2.1.1 t3.2.1.2.1 t3.2.1.2.2) <|
  T.store ⟨r4, 2, none⟩ (.slice t3.2.2.1.1 t3.2.2.1.2.1 t3.2.2.1.2.2) <|
  T.store ⟨r4, 3, none⟩ (.slice t3.2.2.2.1.1 t3.2.2.2.1.2.1 t3.2.2.2.1.2.2) <|
  T.join [(.atom .bool)]
  (T.load .slice ⟨r4, 1, none⟩ fun (t6 : Option Addr × Nat × Nat) =>
  cond (((t6.2.1 : Nat) : Int) != ((rows_0_n : Nat) : Int))
  (T.out [(.bool true)])
  (T.load .slice ⟨r4, 0, none⟩ fun (t7 : Option Addr × Nat × Nat) =>
  T.out [(.bool (((t7.2.1 : Nat) : Int) != ((rows_0_n : Nat) : Int)))])) fun (z5 : Bool × Unit) =>
  cond z5.1
  (T.ret (.bool false))
  (T.block 0 [(.atom (.int .i64)), (.atom .bool)]
  (T.loop [(.atom (.int .i64)), (.atom .bool)] [(.int .i64 (0 : Int)), (.bool false)] fun (z9 : Int × Bool × Unit) =>
  cond (decide (z9.1 < ((rows_0_n : Nat) : Int)))
  (T.block 2 [(.atom (.int .i64)), (.atom .bool)]
  (T.loop [(.atom (.int .i64)), (.atom .bool)] [(.int .i64 (0 : Int)), (.bool z9.2.1)] fun (z11 : Int × Bool × Unit) =>
  T.load .slice ⟨r4, 1, none⟩ fun (t12 : Option Addr × Nat × Nat) =>
  deref t12.1 fun a13 =>
  chk (0 ≤ z9.1 ∧ z9.1 < (t12.2.1 : Nat)) <|
  T.load (.int .i64) (a13.add (Int.toNat z9.1 * 1)) fun (t14 : Int) =>
  cond (decide (z11.1 < t14))
  (T.block 4 [(.atom (.int .i64)), (.atom .bool)]
  (T.loop [(.atom (.int .i64)), (.atom .bool)] [(.int .i64 (0 : Int)), (.bool false)] fun (z16 : Int × Bool × Unit) =>
  deref rows_0_p fun a17 =>
  chk (0 ≤ z9.1 ∧ z9.1 < (rows_0_n : Nat)) <|
  T.load .slice (a17.add (Int.toNat z9.1 * 1)) fun (t18 : Option Addr × Nat × Nat) =>
  cond (decide (z16.1 < ((t18.2.1 : Nat) : Int)))
  (T.join [(.atom .bool)]
  (cond z16.2.1
  (T.out [(.bool true)])
  (deref rows_0_p fun a20 =>
  chk (0 ≤ z9.1 ∧ z9.1 < (rows_0_n : Nat)) <|
  T.load .slice (a20.add (Int.toNat z9.1 * 1)) fun (t21 : Option Addr × Nat × Nat) =>
  deref t21.1 fun a22 =>
  chk (0 ≤ z16.1 ∧ z16.1 < (t21.2.1 : Nat)) <|
  T.load (.int .i64) (a22.add (Int.toNat z16.1 * 1)) fun (t23 : Int) =>
  cond (t23 != (0 : Int))
  (T.load .slice ⟨r4, 3, none⟩ fun (t24 : Option Addr × Nat × Nat) =>
  cond (decide ((IntKind.wrap .i64 (z11.1 + z16.1)) < ((t24.2.1 : Nat) : Int)))
  (T.load .slice ⟨r4, 3, none⟩ fun (t25 : Option Addr × Nat × Nat) =>
  deref t25.1 fun a26 =>
  chk (0 ≤ (IntKind.wrap .i64 (z11.1 + z16.1)) ∧ (IntKind.wrap .i64 (z11.1 + z16.1)) < (t25.2.1 : Nat)) <|
  T.load (.int .i64) (a26.add (Int.toNat (IntKind.wrap .i64 (z11.1 + z16.1)) * 1)) fun (t27 : Int) =>
  cond (decide (t27 > (0 : Int)))
  (T.load .slice ⟨r4, 3, none⟩ fun (t28 : Option Addr × Nat × Nat) =>
  deref t28.1 fun a29 =>
  chk (0 ≤ (IntKind.wrap .i64 (z11.1 + z16.1)) ∧ (IntKind.wrap .i64 (z11.1 + z16.1)) < (t28.2.1 : Nat)) <|
  T.load (.int .i64) (a29.add (Int.toNat (IntKind.wrap .i64 (z11.1 + z16.1)) * 1)) fun (t30 : Int) =>
  T.load .slice ⟨r4, 0, none⟩ fun (t31 : Option Addr × Nat × Nat) =>
  deref t31.1 fun a32 =>
  chk (0 ≤ z9.1 ∧ z9.1 < (t31.2.1 : Nat)) <|
  T.load (.int .i64) (a32.add (Int.toNat z9.1 * 1)) fun (t33 : Int) =>
  T.out [(.bool (decide (t30 ≤ t33)))])
  (T.out [(.bool false)]))
  (T.out [(.bool false)]))
  (T.out [(.bool false)]))) fun (z19 : Bool × Unit) =>
  T.out [(.int .i64 (IntKind.wrap .i64 (z16.1 + (1 : Int)))), (.bool z19.1)])
  (T.brk 4 [(.int .i64 z16.1), (.bool z16.2.1)])) fun (z15 : Int × Bool × Unit) =>
  cond (!z15.2.1)
  (T.ret (.bool false))
  (T.out [(.int .i64 (IntKind.wrap .i64 (z11.1 + (1 : Int)))), (.bool z11.2.1)]))
  (T.brk 2 [(.int .i64 z11.1), (.bool z11.2.1)])) fun (z10 : Int × Bool × Unit) =>
  T.out [(.int .i64 (IntKind.wrap .i64 (z9.1 + (1 : Int)))), (.bool z10.2.1)])
  (T.brk 0 [(.int .i64 z9.1), (.bool z9.2.1)])) fun (z8 : Int × Bool × Unit) =>
  T.ret (.bool t1)))
theorem tronagelaw15_TableFits_den (rows_0_p : Option Addr) (rows_0_n rows_0_c : Nat) : denFun Tryd.prog Tryd.f4 [(.slice rows_0_p rows_0_n rows_0_c)] = tronagelaw15_TableFits_T rows_0_p rows_0_n rows_0_c := by kernel_rfl

/-- tronage/tronagelaw15.TableGoesOn -/
def tronagelaw15_TableGoesOn_T (rows_0_p : Option Addr) (rows_0_n rows_0_c : Nat) (more_1_p : Option Addr) (more_1_n more_1_c : Nat) : T :=
  T.call 8 [] (.one (.atom .bool)) fun (t1 : Bool) =>
  T.call 9 [(.slice rows_0_p rows_0_n rows_0_c)] (.one (.atom .bool)) fun (t2 : Bool) =>
  T.join [(.atom .bool)]
  (cond (!t2)
  (T.out [(.bool true)])
  (cond (decide (((rows_0_n : Nat) : Int) > (24 : Int)))
  (T.out [(.bool true)])
  (T.out [(.bool (decide (((more_1_n : Nat) : Int) > (25 : Int))))]))) fun (z3 : Bool × Unit) =>
  cond z3.1
  (T.ret (.bool t1))
  (T.call 14 [(.slice rows_0_p rows_0_n rows_0_c)] (.one (.agg [.slice, .slice, .slice, .slice])) fun (t4 : (Option Addr × Nat × Nat) × (Option Addr × Nat × Nat) × (Option Addr × Nat × Nat) × (Option Addr × Nat × Nat) × Unit) =>
  T.new (.cells #[(.slice none 0 0), (.slice none 0 0), (.slice none 0 0), (.slice none 0 0)] 34 (0, 0)) fun r5 =>
  T.store ⟨r5, 0, none⟩ (.slice t4.1.1 t4.1.2.1 t4.1.2.2) <|
  T.store ⟨r5, 1, none⟩ (.slice t4.2.1.1 t4.2.1.2.1 t4.2.1.2.2) <|
  T.store ⟨r5, 2, none⟩ (.slice t4.2.2.1.1 t4.2.2.1.2.1 t4.2.2.1.2.2) <|
  T.store ⟨r5, 3, none⟩ (.slice t4.2.2.2.1.1 t4.2.2.2.1.2.1 t4.2.2.2.1.2.2) <|
  T.new (.cells #[] 26 (0, 0)) fun r6 =>
  T.sem (Builtin.append_ #[22, 22] 22 #[(.slice (some ⟨r6, 0, none⟩) 0 0), (.slice rows_0_p rows_0_n rows_0_c)]) (.one (.atom .slice)) fun (t7 : Option Addr × Nat × Nat) =>
  T.new (.cells #[(.slice more_1_p more_1_n more_1_c)] 26 (0, 0)) fun r8 =>
  T.sem (Builtin.append_ #[22, 22] 22 #[(.slice t7.1 t7.2.1 t7.2.2), (.slice (some ⟨r8, 0, none⟩) 1 1)]) (.one (.atom .slice)) fun (t9 : Option Addr × Nat × Nat) =>
  T.call 14 [(.slice t9.1 t9.2.1 t9.2.2)] (.one (.agg [.slice, .slice, .slice, .slice])) fun (t10 : (Option Addr × Nat × Nat) × (Option Addr × Nat × Nat) × (Option Addr × Nat × Nat) × (Option Addr × Nat × Nat) × Unit) =>
  T.new (.cells #[(.slice none 0 0), (.slice none 0 0), (.slice none 0 0), (.slice none 0 0)] 34 (0, 0)) fun r11 =>
  T.store ⟨r11, 0, none⟩ (.slice t10.1.1 t10.1.2.1 t10.1.2.2) <|
  T.store ⟨r11, 1, none⟩ (.slice t10.2.1.1 t10.2.1.2.1 t10.2.1.2.2) <|
  T.store ⟨r11, 2, none⟩ (.slice t10.2.2.1.1 t10.2.2.1.2.1 t10.2.2.1.2.2) <|
  T.store ⟨r11, 3, none⟩ (.slice t10.2.2.2.1.1 t10.2.2.2.1.2.1 t10.2.2.2.1.2.2) <|
  T.join [(.atom .bool)]
  (T.load .slice ⟨r11, 1, none⟩ fun (t13 : Option Addr × Nat × Nat) =>
  cond (((t13.2.1 : Nat) : Int) != (IntKind.wrap .i64 (((rows_0_n : Nat) : Int) + (1 : Int))))
  (T.out [(.bool true)])
  (T.load .slice ⟨r5, 1, none⟩ fun (t14 : Option Addr × Nat × Nat) =>
  cond (((t14.2.1 : Nat) : Int) != ((rows_0_n : Nat) : Int))
  (T.out [(.bool true)])
  (T.load .slice ⟨r11, 0, none⟩ fun (t15 : Option Addr × Nat × Nat) =>
  T.load .slice ⟨r11, 1, none⟩ fun (t16 : Option Addr × Nat × Nat) =>
  T.load .slice ⟨r11, 2, none⟩ fun (t17 : Option Addr × Nat × Nat) =>
  T.load .slice ⟨r11, 3, none⟩ fun (t18 : Option Addr × Nat × Nat) =>
  T.load .slice ⟨r5, 0, none⟩ fun (t19 : Option Addr × Nat × Nat) =>
  T.load .slice ⟨r5, 1, none⟩ fun (t20 : Option Addr × Nat × Nat) =>
  T.load .slice ⟨r5, 2, none⟩ fun (t21 : Option Addr × Nat × Nat) =>
  T.load .slice ⟨r5, 3, none⟩ fun (t22 : Option Addr × Nat × Nat) =>
  T.call 15 [(.agg #[(.slice t15.1 t15.2.1 t15.2.2), (.slice t16.1 t16.2.1 t16.2.2), (.slice t17.1 t17.2.1 t17.2.2), (.slice t18.1 t18.2.1 t18.2.2)])] (.one (.atom (.int .i64))) fun (t23 : Int) =>
  T.still ⟨r5, 0, none⟩ (.slice t19.1 t19.2.1 t19.2.2) <|
  T.still ⟨r5, 1, none⟩ (.slice t20.1 t20.2.1 t20.2.2) <|
  T.still ⟨r5, 2, none⟩ (.slice t21.1 t21.2.1 t21.2.2) <|
  T.still ⟨r5, 3, none⟩ (.slice t22.1 t22.2.1 t22.2.2) <|
  T.call 15 [(.agg #[(.slice t19.1 t19.2.1 t19.2.2), (.slice t20.1 t20.2.1 t20.2.2), (.slice t21.1 t21.2.1 t21.2.2), (.slice t22.1 t22.2.1 t22.2.2)])] (.one (.atom (.int .i64))) fun (t24 : Int) =>
  T.out [(.bool (decide (t23 < t24)))]))) fun (z12 : Bool × Unit) =>
  cond z12.1
  (T.ret (.bool false))
  (T.block 0 [(.atom (.int .i64)), (.atom .bool)]
  (T.loop [(.atom (.int .i64)), (.atom .bool)] [(.int .i64 (0 : Int)), (.bool false)] fun (z26 : Int × Bool × Unit) =>
  T.load .slice ⟨r5, 2, none⟩ fun (t27 : Option Addr × Nat × Nat) =>
  cond (decide (z26.1 < ((t27.2.1 : Nat) : Int)))
  (T.join [(.atom .bool)]
  (T.load .slice ⟨r5, 3, none⟩ fun (t29 : Option Addr × Nat × Nat) =>
  deref t29.1 fun a30 =>
  chk (0 ≤ z26.1 ∧ z26.1 < (t29.2.1 : Nat)) <|
  T.load (.int .i64) (a30.add (Int.toNat z26.1 * 1)) fun (t31 : Int) =>
  cond (t31 != (0 : Int))
  (T.load .slice ⟨r11, 2, none⟩ fun (t32 : Option Addr × Nat × Nat) =>
  deref t32.1 fun a33 =>
  chk (0 ≤ z26.1 ∧ z26.1 < (t32.2.1 : Nat)) <|
  T.load (.int .i64) (a33.add (Int.toNat z26.1 * 1)) fun (t34 : Int) =>
  T.load .slice ⟨r5, 2, none⟩ fun (t35 : Option Addr × Nat × Nat) =>
  deref t35.1 fun a36 =>
  chk (0 ≤ z26.1 ∧ z26.1 < (t35.2.1 : Nat)) <|
  T.load (.int .i64) (a36.add (Int.toNat z26.1 * 1)) fun (t37 : Int) =>
  cond (t34 != t37)
  (T.out [(.bool true)])
  (T.load .slice ⟨r11, 3, none⟩ fun (t38 : Option Addr × Nat × Nat) =>
  deref t38.1 fun a39 =>
  chk (0 ≤ z26.1 ∧ z26.1 < (t38.2.1 : Nat)) <|
  T.load (.int .i64) (a39.add (Int.toNat z26.1 * 1)) fun (t40 : Int) =>
  T.load .slice ⟨r5, 3, none⟩ fun (t41 : Option Addr × Nat × Nat) =>
  deref t41.1 fun a42 =>
  chk (0 ≤ z26.1 ∧ z26.1 < (t41.2.1 : Nat)) <|
  T.load (.int .i64) (a42.add (Int.toNat z26.1 * 1)) fun (t43 : Int) =>
  T.out [(.bool (t40 != t43))]))
  (T.out [(.bool false)])) fun (z28 : Bool × Unit) =>
  cond z28.1
  (T.ret (.bool false))
  (T.out [(.int .i64 (IntKind.wrap .i64 (z26.1 + (1 : Int)))), (.bool z26.2.1)]))
  (T.brk 0 [(.int .i64 z26.1), (.bool z26.2.1)])) fun (z25 : Int × Bool × Unit) =>
  T.join [(.atom .bool)]
  (cond t1
  (T.load .slice ⟨r5, 1, none⟩ fun (t45 : Option Addr × Nat × Nat) =>
  T.load .slice ⟨r11, 1, none⟩ fun (t46 : Option Addr × Nat × Nat) =>
  chk (0 ≤ (0 : Int) ∧ (0 : Int) ≤ ((rows_0_n : Nat) : Int) ∧ ((rows_0_n : Nat) : Int) ≤ (t46.2.2 : Nat)) <|
  T.call 11 [(.slice t45.1 t45.2.1 t45.2.2), (.slice (if t46.2.2 = Int.toNat (0 : Int) then t46.1 else Option.map (fun x => Addr.add x (Int.toNat (0 : Int) * 1)) t46.1) (Int.toNat ((rows_0_n : Nat) : Int) - Int.toNat (0 : Int)) (t46.2.2 - Int.toNat (0 : Int)))] (.one (.atom .bool)) fun (t47 : Bool) =>
  cond t47
  (T.load .slice ⟨r5, 0, none⟩ fun (t48 : Option Addr × Nat × Nat) =>
  T.load .slice ⟨r11, 0, none⟩ fun (t49 : Option Addr × Nat × Nat) =>
  chk (0 ≤ (0 : Int) ∧ (0 : Int) ≤ ((rows_0_n : Nat) : Int) ∧ ((rows_0_n : Nat) : Int) ≤ (t49.2.2 : Nat)) <|
  T.call 11 [(.slice t48.1 t48.2.1 t48.2.2), (.slice (if t49.2.2 = Int.toNat (0 : Int) then t49.1 else Option.map (fun x => Addr.add x (Int.toNat (0 : Int) * 1)) t49.1) (Int.toNat ((rows_0_n : Nat) : Int) - Int.toNat (0 : Int)) (t49.2.2 - Int.toNat (0 : Int)))] (.one (.atom .bool)) fun (t50 : Bool) =>
  T.out [(.bool t50)])
  (T.out [(.bool false)]))
  (T.out [(.bool false)])) fun (z44 : Bool × Unit) =>
  T.ret (.bool z44.1)))
theorem tronagelaw15_TableGoesOn_den (rows_0_p : Option Addr) (rows_0_n rows_0_c : Nat) (more_1_p : Option Addr) (more_1_n more_1_c : Nat) : denFun Tryd.prog Tryd.f5 [(.slice rows_0_p rows_0_n rows_0_c), (.slice more_1_p more_1_n more_1_c)] = tronagelaw15_TableGoesOn_T rows_0_p rows_0_n rows_0_c more_1_p more_1_n more_1_c := by kernel_rfl

/-- tronage/tronagelaw15.TablePacks -/
def tronagelaw15_TablePacks_T (rows_0_p : Option Addr) (rows_0_n rows_0_c : Nat) : T :=
  T.call 8 [] (.one (.atom .bool)) fun (t1 : Bool) =>
  T.call 9 [(.slice rows_0_p rows_0_n rows_0_c)] (.one (.atom .bool)) fun (t2 : Bool) =>
  cond (!t2)
  (T.ret (.bool t1))
  (T.call 10 [(.slice rows_0_p rows_0_n rows_0_c)] (.tuple [(.atom .slice), (.atom .slice)]) fun (t3 : (Option Addr × Nat × Nat) × (Option Addr × Nat × Nat) × Unit) =>
  T.call 16 [(.slice rows_0_p rows_0_n rows_0_c)] (.tuple [(.atom .slice), (.atom .slice)]) fun (t4 : (Option Addr × Nat × Nat) × (Option Addr × Nat × Nat) × Unit) =>
  T.call 14 [(.slice rows_0_p rows_0_n rows_0_c)] (.one (.agg [.slice, .slice, .slice, .slice])) fun (t5 : (Option Addr × Nat × Nat) × (Option Addr × Nat × Nat) × (Option Addr × Nat × Nat) × (Option Addr × Nat × Nat) × Unit) =>
  T.new (.cells #[(.slice none 0 0), (.slice none 0 0), (.slice none 0 0), (.slice none 0 0)] 34 (0, 0)) fun r6 =>
  T.store ⟨r6, 0, none⟩ (.slice t5.1.1 t5.1.2.1 t5.1.2.2) <|
  T.store ⟨r6, 1, none⟩ (.slice t5.2.1.1 t5.2.1.2.1 t5.2.1.2.2) <|
  T.store ⟨r6, 2, none⟩ (.slice t5.2.2.1.1 t5.2.2.1.2.1 t5.2.2.1.2.2) <|
  T.store ⟨r6, 3, none⟩ (.slice t5.2.2.2.1.1 t5.2.2.2.1.2.1 t5.2.2.2.1.2.2) <|
  T.call 17 [(.slice rows_0_p rows_0_n rows_0_c)] (.one (.atom .pointer)) fun (t7 : Option Addr) =>
  T.block 0 [(.atom (.int .i64)), (.atom (.int .i64))]
  (T.loop [(.atom (.int .i64)), (.atom (.int .i64))] [(.int .i64 (0 : Int)), (.int .i64 (0 : Int))] fun (z9 : Int × Int × Unit) =>
  cond (decide (z9.1 < ((rows_0_n : Nat) : Int)))
  (T.block 2 [(.atom (.int .i64)), (.atom (.int .i64))]
  (T.loop [(.atom (.int .i64)), (.atom (.int .i64))] [(.int .i64 (0 : Int)), (.int .i64 z9.2.1)] fun (z11 : Int × Int × Unit) =>
  deref rows_0_p fun a12 =>
  chk (0 ≤ z9.1 ∧ z9.1 < (rows_0_n : Nat)) <|
  T.load .slice (a12.add (Int.toNat z9.1 * 1)) fun (t13 : Option Addr × Nat × Nat) =>
  cond (decide (z11.1 < ((t13.2.1 : Nat) : Int)))
  (deref rows_0_p fun a14 =>
  chk (0 ≤ z9.1 ∧ z9.1 < (rows_0_n : Nat)) <|
  T.load .slice (a14.add (Int.toNat z9.1 * 1)) fun (t15 : Option Addr × Nat × Nat) =>
  deref t15.1 fun a16 =>
  chk (0 ≤ z11.1 ∧ z11.1 < (t15.2.1 : Nat)) <|
  T.load (.int .i64) (a16.add (Int.toNat z11.1 * 1)) fun (t17 : Int) =>
  T.join [(.atom (.int .i64))]
  (cond (t17 != (0 : Int))
  (T.out [(.int .i64 (IntKind.wrap .i64 (z11.2.1 + (1 : Int))))])
  (T.out [(.int .i64 z11.2.1)])) fun (z18 : Int × Unit) =>
  T.out [(.int .i64 (IntKind.wrap .i64 (z11.1 + (1 : Int)))), (.int .i64 z18.1)])
  (T.brk 2 [(.int .i64 z11.1), (.int .i64 z11.2.1)])) fun (z10 : Int × Int × Unit) =>
  T.out [(.int .i64 (IntKind.wrap .i64 (z9.1 + (1 : Int)))), (.int .i64 z10.2.1)])
  (T.brk 0 [(.int .i64 z9.1), (.int .i64 z9.2.1)])) fun (z8 : Int × Int × Unit) =>
  T.join [(.atom .bool)]
  (cond t1
  (T.call 11 [(.slice t3.1.1 t3.1.2.1 t3.1.2.2), (.slice t4.1.1 t4.1.2.1 t4.1.2.2)] (.one (.atom .bool)) fun (t20 : Bool) =>
  cond t20
  (T.call 13 [(.slice t3.2.1.1 t3.2.1.2.1 t3.2.1.2.2), (.slice t4.2.1.1 t4.2.1.2.1 t4.2.1.2.2)] (.one (.atom .bool)) fun (t21 : Bool) =>
  cond t21
  (T.load .slice ⟨r6, 0, none⟩ fun (t22 : Option Addr × Nat × Nat) =>
  deref t7 fun a23 =>
  T.load .slice a23 fun (t24 : Option Addr × Nat × Nat) =>
  T.call 11 [(.slice t22.1 t22.2.1 t22.2.2), (.slice t24.1 t24.2.1 t24.2.2)] (.one (.atom .bool)) fun (t25 : Bool) =>
  cond t25
  (T.load .slice ⟨r6, 1, none⟩ fun (t26 : Option Addr × Nat × Nat) =>
  deref t7 fun a27 =>
  T.load .slice (a27.add 1) fun (t28 : Option Addr × Nat × Nat) =>
  T.call 11 [(.slice t26.1 t26.2.1 t26.2.2), (.slice t28.1 t28.2.1 t28.2.2)] (.one (.atom .bool)) fun (t29 : Bool) =>
  cond t29
  (T.load .slice ⟨r6, 2, none⟩ fun (t30 : Option Addr × Nat × Nat) =>
  deref t7 fun a31 =>
  T.load .slice (a31.add 2) fun (t32 : Option Addr × Nat × Nat) =>
  T.call 11 [(.slice t30.1 t30.2.1 t30.2.2), (.slice t32.1 t32.2.1 t32.2.2)] (.one (.atom .bool)) fun (t33 : Bool) =>
  cond t33
  (T.load .slice ⟨r6, 3, none⟩ fun (t34 : Option Addr × Nat × Nat) =>
  deref t7 fun a35 =>
  T.load .slice (a35.add 3) fun (t36 : Option Addr × Nat × Nat) =>
  T.call 11 [(.slice t34.1 t34.2.1 t34.2.2), (.slice t36.1 t36.2.1 t36.2.2)] (.one (.atom .bool)) fun (t37 : Bool) =>
  cond t37
  (T.load .slice ⟨r6, 0, none⟩ fun (t38 : Option Addr × Nat × Nat) =>
  T.load .slice ⟨r6, 1, none⟩ fun (t39 : Option Addr × Nat × Nat) =>
  T.load .slice ⟨r6, 2, none⟩ fun (t40 : Option Addr × Nat × Nat) =>
  T.load .slice ⟨r6, 3, none⟩ fun (t41 : Option Addr × Nat × Nat) =>
  deref t7 fun a42 =>
  T.load .slice (a42.add 2) fun (t43 : Option Addr × Nat × Nat) =>
  T.call 15 [(.agg #[(.slice t38.1 t38.2.1 t38.2.2), (.slice t39.1 t39.2.1 t39.2.2), (.slice t40.1 t40.2.1 t40.2.2), (.slice t41.1 t41.2.1 t41.2.2)])] (.one (.atom (.int .i64))) fun (t44 : Int) =>
  T.still (a42.add 2) (.slice t43.1 t43.2.1 t43.2.2) <|
  cond (t44 == ((t43.2.1 : Nat) : Int))
  (T.call 18 [(.slice rows_0_p rows_0_n rows_0_c)] (.one (.atom (.int .i64))) fun (t45 : Int) =>
  T.out [(.bool (t45 == z8.2.1))])
  (T.out [(.bool false)]))
  (T.out [(.bool false)]))
  (T.out [(.bool false)]))
  (T.out [(.bool false)]))
  (T.out [(.bool false)]))
  (T.out [(.bool false)]))
  (T.out [(.bool false)]))
  (T.out [(.bool false)])) fun (z19 : Bool × Unit) =>
  T.ret (.bool z19.1))
theorem tronagelaw15_TablePacks_den (rows_0_p : Option Addr) (rows_0_n rows_0_c : Nat) : denFun Tryd.prog Tryd.f6 [(.slice rows_0_p rows_0_n rows_0_c)] = tronagelaw15_TablePacks_T rows_0_p rows_0_n rows_0_c := by kernel_rfl

/-- tronage/tronagelaw15.TableApart -/
def tronagelaw15_TableApart_T (rows_0_p : Option Addr) (rows_0_n rows_0_c : Nat) : T :=
  T.call 8 [] (.one (.atom .bool)) fun (t1 : Bool) =>
  T.call 9 [(.slice rows_0_p rows_0_n rows_0_c)] (.one (.atom .bool)) fun (t2 : Bool) =>
  cond (!t2)
  (T.ret (.bool t1))
  (T.call 10 [(.slice rows_0_p rows_0_n rows_0_c)] (.tuple [(.atom .slice), (.atom .slice)]) fun (t3 : (Option Addr × Nat × Nat) × (Option Addr × Nat × Nat) × Unit) =>
  T.call 14 [(.slice rows_0_p rows_0_n rows_0_c)] (.one (.agg [.slice, .slice, .slice, .slice])) fun (t4 : (Option Addr × Nat × Nat) × (Option Addr × Nat × Nat) × (Option Addr × Nat × Nat) × (Option Addr × Nat × Nat) × Unit) =>
  T.new (.cells #[(.slice none 0 0), (.slice none 0 0), (.slice none 0 0), (.slice none 0 0)] 34 (0, 0)) fun r5 =>
  T.store ⟨r5, 0, none⟩ (.slice t4.1.1 t4.1.2.1 t4.1.2.2) <|
  T.store ⟨r5, 1, none⟩ (.slice t4.2.1.1 t4.2.1.2.1 t4.2.1.2.2) <|
  T.store ⟨r5, 2, none⟩ (.slice t4.2.2.1.1 t4.2.2.1.2.1 t4.2.2.1.2.2) <|
  T.store ⟨r5, 3, none⟩ (.slice t4.2.2.2.1.1 t4.2.2.2.1.2.1 t4.2.2.2.1.2.2) <|
  T.join [(.atom .bool)]
  (T.load .slice ⟨r5, 2, none⟩ fun (t7 : Option Addr × Nat × Nat) =>
  T.load .slice ⟨r5, 3, none⟩ fun (t8 : Option Addr × Nat × Nat) =>
  cond (((t7.2.1 : Nat) : Int) != ((t8.2.1 : Nat) : Int))
  (T.out [(.bool true)])
  (T.load .slice ⟨r5, 1, none⟩ fun (t9 : Option Addr × Nat × Nat) =>
  T.out [(.bool (((t9.2.1 : Nat) : Int) != ((rows_0_n : Nat) : Int)))])) fun (z6 : Bool × Unit) =>
  cond z6.1
  (T.ret (.bool false))
  (T.block 0 [(.atom (.int .i64)), (.atom (.int .i64)), (.atom .bool)]
  (T.loop [(.atom (.int .i64)), (.atom (.int .i64)), (.atom .bool)] [(.int .i64 (0 : Int)), (.int .i64 (0 : Int)), (.bool false)] fun (z11 : Int × Int × Bool × Unit) =>
  T.load .slice ⟨r5, 3, none⟩ fun (t12 : Option Addr × Nat × Nat) =>
  cond (decide (z11.1 < ((t12.2.1 : Nat) : Int)))
  (T.join [(.atom .bool)]
  (T.load .slice ⟨r5, 3, none⟩ fun (t14 : Option Addr × Nat × Nat) =>
  deref t14.1 fun a15 =>
  chk (0 ≤ z11.1 ∧ z11.1 < (t14.2.1 : Nat)) <|
  T.load (.int .i64) (a15.add (Int.toNat z11.1 * 1)) fun (t16 : Int) =>
  cond (decide (t16 < (0 : Int)))
  (T.out [(.bool true)])
  (T.load .slice ⟨r5, 3, none⟩ fun (t17 : Option Addr × Nat × Nat) =>
  deref t17.1 fun a18 =>
  chk (0 ≤ z11.1 ∧ z11.1 < (t17.2.1 : Nat)) <|
  T.load (.int .i64) (a18.add (Int.toNat z11.1 * 1)) fun (t19 : Int) =>
  cond (decide (t19 > ((t3.2.1.2.1 : Nat) : Int)))
  (T.out [(.bool true)])
  (T.load .slice ⟨r5, 3, none⟩ fun (t20 : Option Addr × Nat × Nat) =>
  deref t20.1 fun a21 =>
  chk (0 ≤ z11.1 ∧ z11.1 < (t20.2.1 : Nat)) <|
  T.load (.int .i64) (a21.add (Int.toNat z11.1 * 1)) fun (t22 : Int) =>
  T.load .slice ⟨r5, 2, none⟩ fun (t23 : Option Addr × Nat × Nat) =>
  deref t23.1 fun a24 =>
  chk (0 ≤ z11.1 ∧ z11.1 < (t23.2.1 : Nat)) <|
  T.load (.int .i64) (a24.add (Int.toNat z11.1 * 1)) fun (t25 : Int) =>
  T.out [(.bool (!((t22 == (0 : Int)) == (t25 == (0 : Int)))))]))) fun (z13 : Bool × Unit) =>
  cond z13.1
  (T.ret (.bool false))
  (T.load .slice ⟨r5, 3, none⟩ fun (t26 : Option Addr × Nat × Nat) =>
  deref t26.1 fun a27 =>
  chk (0 ≤ z11.1 ∧ z11.1 < (t26.2.1 : Nat)) <|
  T.load (.int .i64) (a27.add (Int.toNat z11.1 * 1)) fun (t28 : Int) =>
  T.join [(.atom (.int .i64))]
  (cond (decide (t28 > (0 : Int)))
  (T.out [(.int .i64 (IntKind.wrap .i64 (z11.2.1 + (1 : Int))))])
  (T.out [(.int .i64 z11.2.1)])) fun (z29 : Int × Unit) =>
  T.out [(.int .i64 (IntKind.wrap .i64 (z11.1 + (1 : Int)))), (.int .i64 z29.1), (.bool z11.2.2.1)]))
  (T.brk 0 [(.int .i64 z11.1), (.int .i64 z11.2.1), (.bool z11.2.2.1)])) fun (z10 : Int × Int × Bool × Unit) =>
  T.join [(.atom .bool)]
  (T.load .slice ⟨r5, 2, none⟩ fun (t31 : Option Addr × Nat × Nat) =>
  cond (((t31.2.1 : Nat) : Int) == (0 : Int))
  (T.out [(.bool true)])
  (T.load .slice ⟨r5, 2, none⟩ fun (t32 : Option Addr × Nat × Nat) =>
  T.load .slice ⟨r5, 2, none⟩ fun (t33 : Option Addr × Nat × Nat) =>
  deref t32.1 fun a34 =>
  chk (0 ≤ (IntKind.wrap .i64 (((t33.2.1 : Nat) : Int) - (1 : Int))) ∧ (IntKind.wrap .i64 (((t33.2.1 : Nat) : Int) - (1 : Int))) < (t32.2.1 : Nat)) <|
  T.load (.int .i64) (a34.add (Int.toNat (IntKind.wrap .i64 (((t33.2.1 : Nat) : Int) - (1 : Int))) * 1)) fun (t35 : Int) =>
  T.out [(.bool (t35 != (0 : Int)))])) fun (z30 : Bool × Unit) =>
  T.join [(.atom .bool)]
  (cond t1
  (T.call 18 [(.slice t3.2.1.1 t3.2.1.2.1 t3.2.1.2.2)] (.one (.atom (.int .i64))) fun (t37 : Int) =>
  cond (z10.2.1 == t37)
  (T.load .slice ⟨r5, 0, none⟩ fun (t38 : Option Addr × Nat × Nat) =>
  T.load .slice ⟨r5, 1, none⟩ fun (t39 : Option Addr × Nat × Nat) =>
  T.load .slice ⟨r5, 2, none⟩ fun (t40 : Option Addr × Nat × Nat) =>
  T.load .slice ⟨r5, 3, none⟩ fun (t41 : Option Addr × Nat × Nat) =>
  T.call 15 [(.agg #[(.slice t38.1 t38.2.1 t38.2.2), (.slice t39.1 t39.2.1 t39.2.2), (.slice t40.1 t40.2.1 t40.2.2), (.slice t41.1 t41.2.1 t41.2.2)])] (.one (.atom (.int .i64))) fun (t42 : Int) =>
  cond (decide (t42 ≥ z10.2.1))
  (T.out [(.bool z30.1)])
  (T.out [(.bool false)]))
  (T.out [(.bool false)]))
  (T.out [(.bool false)])) fun (z36 : Bool × Unit) =>
  T.ret (.bool z36.1)))
theorem tronagelaw15_TableApart_den (rows_0_p : Option Addr) (rows_0_n rows_0_c : Nat) : denFun Tryd.prog Tryd.f7 [(.slice rows_0_p rows_0_n rows_0_c)] = tronagelaw15_TableApart_T rows_0_p rows_0_n rows_0_c := by kernel_rfl

/-- tronage/tronagelaw15.awake -/
def tronagelaw15_awake_T  : T :=
  T.new (.cells #[(.int .i64 (0 : Int)), (.int .i64 (1 : Int))] 3 (0, 0)) fun r1 =>
  T.new (.cells #[(.int .i64 (2 : Int)), (.int .i64 (0 : Int)), (.int .i64 (3 : Int))] 3 (0, 0)) fun r2 =>
  T.new (.cells #[(.int .i64 (0 : Int)), (.int .i64 (1 : Int)), (.int .i64 (0 : Int))] 3 (0, 0)) fun r3 =>
  T.new (.cells #[(.slice (some ⟨r1, 0, none⟩) 2 2), (.slice (some ⟨r2, 0, none⟩) 3 3), (.slice (some ⟨r3, 0, none⟩) 3 3)] 26 (0, 0)) fun r4 =>
  T.call 10 [(.slice (some ⟨r4, 0, none⟩) 3 3)] (.tuple [(.atom .slice), (.atom .slice)]) fun (t5 : (Option Addr × Nat × Nat) × (Option Addr × Nat × Nat) × Unit) =>
  T.call 14 [(.slice (some ⟨r4, 0, none⟩) 3 3)] (.one (.agg [.slice, .slice, .slice, .slice])) fun (t6 : (Option Addr × Nat × Nat) × (Option Addr × Nat × Nat) × (Option Addr × Nat × Nat) × (Option Addr × Nat × Nat) × Unit) =>
  T.new (.cells #[(.slice none 0 0), (.slice none 0 0), (.slice none 0 0), (.slice none 0 0)] 34 (0, 0)) fun r7 =>
  T.store ⟨r7, 0, none⟩ (.slice t6.1.1 t6.1.2.1 t6.1.2.2) <|
  T.store ⟨r7, 1, none⟩ (.slice t6.2.1.1 t6.2.1.2.1 t6.2.1.2.2) <|
  T.store ⟨r7, 2, none⟩ (.slice t6.2.2.1.1 t6.2.2.1.2.1 t6.2.2.1.2.2) <|
  T.store ⟨r7, 3, none⟩ (.slice t6.2.2.2.1.1 t6.2.2.2.1.2.1 t6.2.2.2.1.2.2) <|
  T.join [(.atom .bool)]
  (T.new (.cells #[(.int .i64 (0 : Int)), (.int .i64 (1 : Int)), (.int .i64 (0 : Int))] 3 (0, 0)) fun r9 =>
  T.call 11 [(.slice t5.1.1 t5.1.2.1 t5.1.2.2), (.slice (some ⟨r9, 0, none⟩) 3 3)] (.one (.atom .bool)) fun (t10 : Bool) =>
  cond t10
  (cond (((t5.2.1.2.1 : Nat) : Int) == (2 : Int))
  (T.load .slice ⟨r7, 1, none⟩ fun (t11 : Option Addr × Nat × Nat) =>
  T.new (.cells #[(.int .i64 (0 : Int)), (.int .i64 (0 : Int)), (.int .i64 (0 : Int))] 3 (0, 0)) fun r12 =>
  T.call 11 [(.slice t11.1 t11.2.1 t11.2.2), (.slice (some ⟨r12, 0, none⟩) 3 3)] (.one (.atom .bool)) fun (t13 : Bool) =>
  cond t13
  (T.load .slice ⟨r7, 2, none⟩ fun (t14 : Option Addr × Nat × Nat) =>
  T.new (.cells #[(.int .i64 (2 : Int)), (.int .i64 (1 : Int)), (.int .i64 (3 : Int))] 3 (0, 0)) fun r15 =>
  T.call 11 [(.slice t14.1 t14.2.1 t14.2.2), (.slice (some ⟨r15, 0, none⟩) 3 3)] (.one (.atom .bool)) fun (t16 : Bool) =>
  cond t16
  (T.load .slice ⟨r7, 3, none⟩ fun (t17 : Option Addr × Nat × Nat) =>
  T.new (.cells #[(.int .i64 (2 : Int)), (.int .i64 (1 : Int)), (.int .i64 (2 : Int))] 3 (0, 0)) fun r18 =>
  T.call 11 [(.slice t17.1 t17.2.1 t17.2.2), (.slice (some ⟨r18, 0, none⟩) 3 3)] (.one (.atom .bool)) fun (t19 : Bool) =>
  cond t19
  (T.load .slice ⟨r7, 0, none⟩ fun (t20 : Option Addr × Nat × Nat) =>
  T.load .slice ⟨r7, 1, none⟩ fun (t21 : Option Addr × Nat × Nat) =>
  T.load .slice ⟨r7, 2, none⟩ fun (t22 : Option Addr × Nat × Nat) =>
  T.load .slice ⟨r7, 3, none⟩ fun (t23 : Option Addr × Nat × Nat) =>
  T.call 19 [(.agg #[(.slice t20.1 t20.2.1 t20.2.2), (.slice t21.1 t21.2.1 t21.2.2), (.slice t22.1 t22.2.1 t22.2.2), (.slice t23.1 t23.2.1 t23.2.2)]), (.int .i64 (2 : Int)), (.int .i64 (1 : Int))] (.one (.atom (.int .i64))) fun (t24 : Int) =>
  cond (t24 == (1 : Int))
  (T.load .slice ⟨r7, 0, none⟩ fun (t25 : Option Addr × Nat × Nat) =>
  T.load .slice ⟨r7, 1, none⟩ fun (t26 : Option Addr × Nat × Nat) =>
  T.load .slice ⟨r7, 2, none⟩ fun (t27 : Option Addr × Nat × Nat) =>
  T.load .slice ⟨r7, 3, none⟩ fun (t28 : Option Addr × Nat × Nat) =>
  T.call 19 [(.agg #[(.slice t25.1 t25.2.1 t25.2.2), (.slice t26.1 t26.2.1 t26.2.2), (.slice t27.1 t27.2.1 t27.2.2), (.slice t28.1 t28.2.1 t28.2.2)]), (.int .i64 (0 : Int)), (.int .i64 (0 : Int))] (.one (.atom (.int .i64))) fun (t29 : Int) =>
  T.out [(.bool (t29 == (0 : Int)))])
  (T.out [(.bool false)]))
  (T.out [(.bool false)]))
  (T.out [(.bool false)]))
  (T.out [(.bool false)]))
  (T.out [(.bool false)]))
  (T.out [(.bool false)])) fun (z8 : Bool × Unit) =>
  T.ret (.bool z8.1)
theorem tronagelaw15_awake_den  : denFun Tryd.prog Tryd.f8 [] = tronagelaw15_awake_T  := by kernel_rfl

/-- tronage/tronagelaw15.few -/
def tronagelaw15_few_T (rows_0_p : Option Addr) (rows_0_n rows_0_c : Nat) : T :=
  cond (decide (((rows_0_n : Nat) : Int) > (25 : Int)))
  (T.ret (.bool false))
  (T.block 0 [(.atom (.int .i64)), (.atom .bool)]
  (T.loop [(.atom (.int .i64)), (.atom .bool)] [(.int .i64 (0 : Int)), (.bool false)] fun (z2 : Int × Bool × Unit) =>
  cond (decide (z2.1 < ((rows_0_n : Nat) : Int)))
  (deref rows_0_p fun a3 =>
  chk (0 ≤ z2.1 ∧ z2.1 < (rows_0_n : Nat)) <|
  T.load .slice (a3.add (Int.toNat z2.1 * 1)) fun (t4 : Option Addr × Nat × Nat) =>
  cond (decide (((t4.2.1 : Nat) : Int) > (25 : Int)))
  (T.ret (.bool false))
  (T.out [(.int .i64 (IntKind.wrap .i64 (z2.1 + (1 : Int)))), (.bool z2.2.1)]))
  (T.brk 0 [(.int .i64 z2.1), (.bool z2.2.1)])) fun (z1 : Int × Bool × Unit) =>
  T.ret (.bool true))
theorem tronagelaw15_few_den (rows_0_p : Option Addr) (rows_0_n rows_0_c : Nat) : denFun Tryd.prog Tryd.f9 [(.slice rows_0_p rows_0_n rows_0_c)] = tronagelaw15_few_T rows_0_p rows_0_n rows_0_c := by kernel_rfl

/-- tronage/table.Share -/
def table_Share_T (rows_0_p : Option Addr) (rows_0_n rows_0_c : Nat) : T :=
  T.new (.map #[] 0) fun r1 =>
  T.block 0 [(.atom (.int .i64)), (.atom .slice), (.atom .slice)]
  (T.loop [(.atom (.int .i64)), (.atom .slice), (.atom .slice)] [(.int .i64 (0 : Int)), (.slice none 0 0), (.slice none 0 0)] fun (z3 : Int × (Option Addr × Nat × Nat) × (Option Addr × Nat × Nat) × Unit) =>
  cond (decide (z3.1 < ((rows_0_n : Nat) : Int)))
  (deref rows_0_p fun a4 =>
  chk (0 ≤ z3.1 ∧ z3.1 < (rows_0_n : Nat)) <|
  T.load .slice (a4.add (Int.toNat z3.1 * 1)) fun (t5 : Option Addr × Nat × Nat) =>
  T.call 20 [(.slice t5.1 t5.2.1 t5.2.2)] (.one (.atom .slice)) fun (t6 : Option Addr × Nat × Nat) =>
  T.call 21 [(.slice t6.1 t6.2.1 t6.2.2)] (.one (.atom .string)) fun (t7 : ByteArray) =>
  T.sem (Instr.lookup 43 (.map (some r1)) (.string t7) true) (.tuple [(.atom (.int .i64)), (.atom .bool)]) fun (t8 : Int × Bool × Unit) =>
  T.join [(.atom (.int .i64)), (.atom .slice)]
  (cond (!t8.2.1)
  (T.call 21 [(.slice t6.1 t6.2.1 t6.2.2)] (.one (.atom .string)) fun (t10 : ByteArray) =>
  T.sem (Sem.bind (Instr.mapUpdate 43 (.map (some r1)) (.string t10) (.int .i64 ((z3.2.1.2.1 : Nat) : Int))) fun _ => .pure undef) (.tuple []) fun (u11 : Unit) =>
  T.new (.cells #[(.slice t6.1 t6.2.1 t6.2.2)] 26 (0, 0)) fun r12 =>
  T.sem (Builtin.append_ #[22, 22] 22 #[(.slice z3.2.1.1 z3.2.1.2.1 z3.2.1.2.2), (.slice (some ⟨r12, 0, none⟩) 1 1)]) (.one (.atom .slice)) fun (t13 : Option Addr × Nat × Nat) =>
  T.out [(.int .i64 ((z3.2.1.2.1 : Nat) : Int)), (.slice t13.1 t13.2.1 t13.2.2)])
  (T.out [(.int .i64 t8.1), (.slice z3.2.1.1 z3.2.1.2.1 z3.2.1.2.2)])) fun (z9 : Int × (Option Addr × Nat × Nat) × Unit) =>
  T.new (.cells #[(.int .i64 z9.1)] 3 (0, 0)) fun r14 =>
  T.sem (Builtin.append_ #[26, 26] 26 #[(.slice z3.2.2.1.1 z3.2.2.1.2.1 z3.2.2.1.2.2), (.slice (some ⟨r14, 0, none⟩) 1 1)]) (.one (.atom .slice)) fun (t15 : Option Addr × Nat × Nat) =>
  T.out [(.int .i64 (IntKind.wrap .i64 (z3.1 + (1 : Int)))), (.slice z9.2.1.1 z9.2.1.2.1 z9.2.1.2.2), (.slice t15.1 t15.2.1 t15.2.2)])
  (T.brk 0 [(.int .i64 z3.1), (.slice z3.2.1.1 z3.2.1.2.1 z3.2.1.2.2), (.slice z3.2.2.1.1 z3.2.2.1.2.1 z3.2.2.1.2.2)])) fun (z2 : Int × (Option Addr × Nat × Nat) × (Option Addr × Nat × Nat) × Unit) =>
  T.ret (.tuple #[(.slice z2.2.2.1.1 z2.2.2.1.2.1 z2.2.2.1.2.2), (.slice z2.2.1.1 z2.2.1.2.1 z2.2.1.2.2)])
theorem table_Share_den (rows_0_p : Option Addr) (rows_0_n rows_0_c : Nat) : denFun Tryd.prog Tryd.f10 [(.slice rows_0_p rows_0_n rows_0_c)] = table_Share_T rows_0_p rows_0_n rows_0_c := by kernel_rfl

/-- tronage/tronageref01.Ints -/
def tronageref01_Ints_T (a_0_p : Option Addr) (a_0_n a_0_c : Nat) (b_1_p : Option Addr) (b_1_n b_1_c : Nat) : T :=
  cond (((a_0_n : Nat) : Int) != ((b_1_n : Nat) : Int))
  (T.ret (.bool false))
  (T.block 0 [(.atom (.int .i64)), (.atom .bool)]
  (T.loop [(.atom (.int .i64)), (.atom .bool)] [(.int .i64 (0 : Int)), (.bool false)] fun (z2 : Int × Bool × Unit) =>
  cond (decide (z2.1 < ((a_0_n : Nat) : Int)))
  (deref a_0_p fun a3 =>
  chk (0 ≤ z2.1 ∧ z2.1 < (a_0_n : Nat)) <|
  T.load (.int .i64) (a3.add (Int.toNat z2.1 * 1)) fun (t4 : Int) =>
  deref b_1_p fun a5 =>
  chk (0 ≤ z2.1 ∧ z2.1 < (b_1_n : Nat)) <|
  T.load (.int .i64) (a5.add (Int.toNat z2.1 * 1)) fun (t6 : Int) =>
  cond (t4 != t6)
  (T.ret (.bool false))
  (T.out [(.int .i64 (IntKind.wrap .i64 (z2.1 + (1 : Int)))), (.bool z2.2.1)]))
  (T.brk 0 [(.int .i64 z2.1), (.bool z2.2.1)])) fun (z1 : Int × Bool × Unit) =>
  T.ret (.bool true))
theorem tronageref01_Ints_den (a_0_p : Option Addr) (a_0_n a_0_c : Nat) (b_1_p : Option Addr) (b_1_n b_1_c : Nat) : denFun Tryd.prog Tryd.f11 [(.slice a_0_p a_0_n a_0_c), (.slice b_1_p b_1_n b_1_c)] = tronageref01_Ints_T a_0_p a_0_n a_0_c b_1_p b_1_n b_1_c := by kernel_rfl

/-- tronage/tronageref15.Trim -/
def tronageref15_Trim_T (row_0_p : Option Addr) (row_0_n row_0_c : Nat) : T :=
  T.block 0 [(.atom (.int .i64)), (.atom (.int .i64))]
  (T.loop [(.atom (.int .i64)), (.atom (.int .i64))] [(.int .i64 (0 : Int)), (.int .i64 (0 : Int))] fun (z2 : Int × Int × Unit) =>
  cond (decide (z2.1 < ((row_0_n : Nat) : Int)))
  (deref row_0_p fun a3 =>
  chk (0 ≤ z2.1 ∧ z2.1 < (row_0_n : Nat)) <|
  T.load (.int .i64) (a3.add (Int.toNat z2.1 * 1)) fun (t4 : Int) =>
  T.join [(.atom (.int .i64))]
  (cond (t4 != (0 : Int))
  (T.out [(.int .i64 (IntKind.wrap .i64 (z2.1 + (1 : Int))))])
  (T.out [(.int .i64 z2.2.1)])) fun (z5 : Int × Unit) =>
  T.out [(.int .i64 (IntKind.wrap .i64 (z2.1 + (1 : Int)))), (.int .i64 z5.1)])
  (T.brk 0 [(.int .i64 z2.1), (.int .i64 z2.2.1)])) fun (z1 : Int × Int × Unit) =>
  T.new (.cells #[] 3 (0, 0)) fun r6 =>
  chk (0 ≤ (0 : Int) ∧ (0 : Int) ≤ z1.2.1 ∧ z1.2.1 ≤ (row_0_c : Nat)) <|
  T.sem (Builtin.append_ #[26, 26] 26 #[(.slice (some ⟨r6, 0, none⟩) 0 0), (.slice (if row_0_c = Int.toNat (0 : Int) then row_0_p else Option.map (fun x => Addr.add x (Int.toNat (0 : Int) * 1)) row_0_p) (Int.toNat z1.2.1 - Int.toNat (0 : Int)) (row_0_c - Int.toNat (0 : Int)))]) (.one (.atom .slice)) fun (t7 : Option Addr × Nat × Nat) =>
  T.ret (.slice t7.1 t7.2.1 t7.2.2)
theorem tronageref15_Trim_den (row_0_p : Option Addr) (row_0_n row_0_c : Nat) : denFun Tryd.prog Tryd.f12 [(.slice row_0_p row_0_n row_0_c)] = tronageref15_Trim_T row_0_p row_0_n row_0_c := by kernel_rfl

/-- tronage/tronageref01.Lists -/
def tronageref01_Lists_T (a_0_p : Option Addr) (a_0_n a_0_c : Nat) (b_1_p : Option Addr) (b_1_n b_1_c : Nat) : T :=
  cond (((a_0_n : Nat) : Int) != ((b_1_n : Nat) : Int))
  (T.ret (.bool false))
  (T.block 0 [(.atom (.int .i64)), (.atom .bool)]
  (T.loop [(.atom (.int .i64)), (.atom .bool)] [(.int .i64 (0 : Int)), (.bool false)] fun (z2 : Int × Bool × Unit) =>
  cond (decide (z2.1 < ((a_0_n : Nat) : Int)))
  (deref a_0_p fun a3 =>
  chk (0 ≤ z2.1 ∧ z2.1 < (a_0_n : Nat)) <|
  T.load .slice (a3.add (Int.toNat z2.1 * 1)) fun (t4 : Option Addr × Nat × Nat) =>
  deref b_1_p fun a5 =>
  chk (0 ≤ z2.1 ∧ z2.1 < (b_1_n : Nat)) <|
  T.load .slice (a5.add (Int.toNat z2.1 * 1)) fun (t6 : Option Addr × Nat × Nat) =>
  T.call 11 [(.slice t4.1 t4.2.1 t4.2.2), (.slice t6.1 t6.2.1 t6.2.2)] (.one (.atom .bool)) fun (t7 : Bool) =>
  cond (!t7)
  (T.ret (.bool false))
  (T.out [(.int .i64 (IntKind.wrap .i64 (z2.1 + (1 : Int)))), (.bool z2.2.1)]))
  (T.brk 0 [(.int .i64 z2.1), (.bool z2.2.1)])) fun (z1 : Int × Bool × Unit) =>
  T.ret (.bool true))
theorem tronageref01_Lists_den (a_0_p : Option Addr) (a_0_n a_0_c : Nat) (b_1_p : Option Addr) (b_1_n b_1_c : Nat) : denFun Tryd.prog Tryd.f13 [(.slice a_0_p a_0_n a_0_c), (.slice b_1_p b_1_n b_1_c)] = tronageref01_Lists_T a_0_p a_0_n a_0_c b_1_p b_1_n b_1_c := by kernel_rfl

/-- tronage/table.Pack -/
def table_Pack_T (rows_0_p : Option Addr) (rows_0_n rows_0_c : Nat) : T :=
  T.new (.cells #[(.slice none 0 0), (.slice none 0 0), (.slice none 0 0), (.slice none 0 0)] 34 (0, 0)) fun r1 =>
  T.call 10 [(.slice rows_0_p rows_0_n rows_0_c)] (.tuple [(.atom .slice), (.atom .slice)]) fun (t2 : (Option Addr × Nat × Nat) × (Option Addr × Nat × Nat) × Unit) =>
  T.new (.cells #[(.slice none 0 0), (.slice none 0 0), (.slice none 0 0), (.slice none 0 0)] 34 (0, 0)) fun r3 =>
  T.store ⟨r3, 0, none⟩ (.slice t2.1.1 t2.1.2.1 t2.1.2.2) <|
  T.store ⟨r3, 1, none⟩ (.slice none 0 0) <|
  T.store ⟨r3, 2, none⟩ (.slice none 0 0) <|
  T.store ⟨r3, 3, none⟩ (.slice none 0 0) <|
  T.block 0 [(.atom (.int .i64)), (.atom .slice)]
  (T.loop [(.atom (.int .i64)), (.atom .slice)] [(.int .i64 (0 : Int)), (.slice none 0 0)] fun (z5 : Int × (Option Addr × Nat × Nat) × Unit) =>
  cond (decide (z5.1 < ((t2.2.1.2.1 : Nat) : Int)))
  (deref t2.2.1.1 fun a6 =>
  chk (0 ≤ z5.1 ∧ z5.1 < (t2.2.1.2.1 : Nat)) <|
  T.load .slice (a6.add (Int.toNat z5.1 * 1)) fun (t7 : Option Addr × Nat × Nat) =>
  T.call 22 [(.pointer (some ⟨r3, 0, none⟩)), (.slice t7.1 t7.2.1 t7.2.2)] (.one (.atom (.int .i64))) fun (t8 : Int) =>
  T.call 23 [(.pointer (some ⟨r3, 0, none⟩)), (.slice t7.1 t7.2.1 t7.2.2), (.int .i64 t8), (.int .i64 z5.1)] (.tuple []) fun (t9 : Unit) =>
  T.new (.cells #[(.int .i64 t8)] 3 (0, 0)) fun r10 =>
  T.sem (Builtin.append_ #[26, 26] 26 #[(.slice z5.2.1.1 z5.2.1.2.1 z5.2.1.2.2), (.slice (some ⟨r10, 0, none⟩) 1 1)]) (.one (.atom .slice)) fun (t11 : Option Addr × Nat × Nat) =>
  T.out [(.int .i64 (IntKind.wrap .i64 (z5.1 + (1 : Int)))), (.slice t11.1 t11.2.1 t11.2.2)])
  (T.brk 0 [(.int .i64 z5.1), (.slice z5.2.1.1 z5.2.1.2.1 z5.2.1.2.2)])) fun (z4 : Int × (Option Addr × Nat × Nat) × Unit) =>
  T.block 2 [(.atom (.int .i64))]
  (T.loop [(.atom (.int .i64))] [(.int .i64 (0 : Int))] fun (z13 : Int × Unit) =>
  cond (decide (z13.1 < ((t2.1.2.1 : Nat) : Int)))
  (deref t2.1.1 fun a14 =>
  chk (0 ≤ z13.1 ∧ z13.1 < (t2.1.2.1 : Nat)) <|
  T.load (.int .i64) (a14.add (Int.toNat z13.1 * 1)) fun (t15 : Int) =>
  T.load .slice ⟨r3, 1, none⟩ fun (t16 : Option Addr × Nat × Nat) =>
  deref z4.2.1.1 fun a17 =>
  chk (0 ≤ t15 ∧ t15 < (z4.2.1.2.1 : Nat)) <|
  T.load (.int .i64) (a17.add (Int.toNat t15 * 1)) fun (t18 : Int) =>
  T.new (.cells #[(.int .i64 t18)] 3 (0, 0)) fun r19 =>
  T.still ⟨r3, 1, none⟩ (.slice t16.1 t16.2.1 t16.2.2) <|
  T.sem (Builtin.append_ #[26, 26] 26 #[(.slice t16.1 t16.2.1 t16.2.2), (.slice (some ⟨r19, 0, none⟩) 1 1)]) (.one (.atom .slice)) fun (t20 : Option Addr × Nat × Nat) =>
  T.store ⟨r3, 1, none⟩ (.slice t20.1 t20.2.1 t20.2.2) <|
  T.out [(.int .i64 (IntKind.wrap .i64 (z13.1 + (1 : Int))))])
  (T.brk 2 [(.int .i64 z13.1)])) fun (z12 : Int × Unit) =>
  T.load .slice ⟨r3, 0, none⟩ fun (t21 : Option Addr × Nat × Nat) =>
  T.load .slice ⟨r3, 1, none⟩ fun (t22 : Option Addr × Nat × Nat) =>
  T.load .slice ⟨r3, 2, none⟩ fun (t23 : Option Addr × Nat × Nat) =>
  T.load .slice ⟨r3, 3, none⟩ fun (t24 : Option Addr × Nat × Nat) =>
  T.store ⟨r1, 0, none⟩ (.slice t21.1 t21.2.1 t21.2.2) <|
  T.store ⟨r1, 1, none⟩ (.slice t22.1 t22.2.1 t22.2.2) <|
  T.store ⟨r1, 2, none⟩ (.slice t23.1 t23.2.1 t23.2.2) <|
  T.store ⟨r1, 3, none⟩ (.slice t24.1 t24.2.1 t24.2.2) <|
  T.load .slice ⟨r1, 0, none⟩ fun (res25 : Option Addr × Nat × Nat) =>
  T.load .slice ⟨r1, 1, none⟩ fun (res26 : Option Addr × Nat × Nat) =>
  T.load .slice ⟨r1, 2, none⟩ fun (res27 : Option Addr × Nat × Nat) =>
  T.load .slice ⟨r1, 3, none⟩ fun (res28 : Option Addr × Nat × Nat) =>
  T.ret (.agg #[(.slice res25.1 res25.2.1 res25.2.2), (.slice res26.1 res26.2.1 res26.2.2), (.slice res27.1 res27.2.1 res27.2.2), (.slice res28.1 res28.2.1 res28.2.2)])
theorem table_Pack_den (rows_0_p : Option Addr) (rows_0_n rows_0_c : Nat) : denFun Tryd.prog Tryd.f14 [(.slice rows_0_p rows_0_n rows_0_c)] = table_Pack_T rows_0_p rows_0_n rows_0_c := by kernel_rfl

/-- (tronage/table.Packed).Cells -/
def table_Packed_Cells_T (p_0 : (Option Addr × Nat × Nat) × (Option Addr × Nat × Nat) × (Option Addr × Nat × Nat) × (Option Addr × Nat × Nat) × Unit) : T :=
  T.new (.cells #[(.slice p_0.1.1 p_0.1.2.1 p_0.1.2.2), (.slice p_0.2.1.1 p_0.2.1.2.1 p_0.2.1.2.2), (.slice p_0.2.2.1.1 p_0.2.2.1.2.1 p_0.2.2.1.2.2), (.slice p_0.2.2.2.1.1 p_0.2.2.2.1.2.1 p_0.2.2.2.1.2.2)] 34 (0, 0)) fun r1 =>
  T.load .slice ⟨r1, 2, none⟩ fun (t2 : Option Addr × Nat × Nat) =>
  T.ret (.int .i64 ((t2.2.1 : Nat) : Int))
theorem table_Packed_Cells_den (p_0 : (Option Addr × Nat × Nat) × (Option Addr × Nat × Nat) × (Option Addr × Nat × Nat) × (Option Addr × Nat × Nat) × Unit) : denFun Tryd.prog Tryd.f15 [(.agg #[(.slice p_0.1.1 p_0.1.2.1 p_0.1.2.2), (.slice p_0.2.1.1 p_0.2.1.2.1 p_0.2.1.2.2), (.slice p_0.2.2.1.1 p_0.2.2.1.2.1 p_0.2.2.1.2.2), (.slice p_0.2.2.2.1.1 p_0.2.2.2.1.2.1 p_0.2.2.2.1.2.2)])] = table_Packed_Cells_T p_0 := by kernel_rfl

/-- tronage/tronageref15.Share -/
def tronageref15_Share_T (rows_0_p : Option Addr) (rows_0_n rows_0_c : Nat) : T :=
  T.block 0 [(.atom (.int .i64)), (.atom .slice), (.atom .slice)]
  (T.loop [(.atom (.int .i64)), (.atom .slice), (.atom .slice)] [(.int .i64 (0 : Int)), (.slice none 0 0), (.slice none 0 0)] fun (z2 : Int × (Option Addr × Nat × Nat) × (Option Addr × Nat × Nat) × Unit) =>
  cond (decide (z2.1 < ((rows_0_n : Nat) : Int)))
  (deref rows_0_p fun a3 =>
  chk (0 ≤ z2.1 ∧ z2.1 < (rows_0_n : Nat)) <|
  T.load .slice (a3.add (Int.toNat z2.1 * 1)) fun (t4 : Option Addr × Nat × Nat) =>
  T.call 12 [(.slice t4.1 t4.2.1 t4.2.2)] (.one (.atom .slice)) fun (t5 : Option Addr × Nat × Nat) =>
  T.block 2 [(.atom (.int .i64))]
  (T.loop [(.atom (.int .i64))] [(.int .i64 (0 : Int))] fun (z7 : Int × Unit) =>
  T.join [(.atom .bool)]
  (cond (decide (z7.1 < ((z2.2.1.2.1 : Nat) : Int)))
  (deref z2.2.1.1 fun a9 =>
  chk (0 ≤ z7.1 ∧ z7.1 < (z2.2.1.2.1 : Nat)) <|
  T.load .slice (a9.add (Int.toNat z7.1 * 1)) fun (t10 : Option Addr × Nat × Nat) =>
  T.call 11 [(.slice t10.1 t10.2.1 t10.2.2), (.slice t5.1 t5.2.1 t5.2.2)] (.one (.atom .bool)) fun (t11 : Bool) =>
  T.out [(.bool (!t11))])
  (T.out [(.bool false)])) fun (z8 : Bool × Unit) =>
  cond z8.1
  (T.out [(.int .i64 (IntKind.wrap .i64 (z7.1 + (1 : Int))))])
  (T.brk 2 [(.int .i64 z7.1)])) fun (z6 : Int × Unit) =>
  T.join [(.atom .slice)]
  (cond (z6.1 == ((z2.2.1.2.1 : Nat) : Int))
  (T.new (.cells #[(.slice t5.1 t5.2.1 t5.2.2)] 26 (0, 0)) fun r13 =>
  T.sem (Builtin.append_ #[22, 22] 22 #[(.slice z2.2.1.1 z2.2.1.2.1 z2.2.1.2.2), (.slice (some ⟨r13, 0, none⟩) 1 1)]) (.one (.atom .slice)) fun (t14 : Option Addr × Nat × Nat) =>
  T.out [(.slice t14.1 t14.2.1 t14.2.2)])
  (T.out [(.slice z2.2.1.1 z2.2.1.2.1 z2.2.1.2.2)])) fun (z12 : (Option Addr × Nat × Nat) × Unit) =>
  T.new (.cells #[(.int .i64 z6.1)] 3 (0, 0)) fun r15 =>
  T.sem (Builtin.append_ #[26, 26] 26 #[(.slice z2.2.2.1.1 z2.2.2.1.2.1 z2.2.2.1.2.2), (.slice (some ⟨r15, 0, none⟩) 1 1)]) (.one (.atom .slice)) fun (t16 : Option Addr × Nat × Nat) =>
  T.out [(.int .i64 (IntKind.wrap .i64 (z2.1 + (1 : Int)))), (.slice z12.1.1 z12.1.2.1 z12.1.2.2), (.slice t16.1 t16.2.1 t16.2.2)])
  (T.brk 0 [(.int .i64 z2.1), (.slice z2.2.1.1 z2.2.1.2.1 z2.2.1.2.2), (.slice z2.2.2.1.1 z2.2.2.1.2.1 z2.2.2.1.2.2)])) fun (z1 : Int × (Option Addr × Nat × Nat) × (Option Addr × Nat × Nat) × Unit) =>
  T.ret (.tuple #[(.slice z1.2.2.1.1 z1.2.2.1.2.1 z1.2.2.1.2.2), (.slice z1.2.1.1 z1.2.1.2.1 z1.2.1.2.2)])
theorem tronageref15_Share_den (rows_0_p : Option Addr) (rows_0_n rows_0_c : Nat) : denFun Tryd.prog Tryd.f16 [(.slice rows_0_p rows_0_n rows_0_c)] = tronageref15_Share_T rows_0_p rows_0_n rows_0_c := by kernel_rfl

/-- tronage/tronageref15.Pack -/
def tronageref15_Pack_T (rows_0_p : Option Addr) (rows_0_n rows_0_c : Nat) : T :=
  T.call 16 [(.slice rows_0_p rows_0_n rows_0_c)] (.tuple [(.atom .slice), (.atom .slice)]) fun (t1 : (Option Addr × Nat × Nat) × (Option Addr × Nat × Nat) × Unit) =>
  T.new (.cells #[(.slice t1.1.1 t1.1.2.1 t1.1.2.2), (.slice none 0 0), (.slice none 0 0), (.slice none 0 0)] 40 (0, 0)) fun r2 =>
  T.block 0 [(.atom (.int .i64)), (.atom .slice)]
  (T.loop [(.atom (.int .i64)), (.atom .slice)] [(.int .i64 (0 : Int)), (.slice none 0 0)] fun (z4 : Int × (Option Addr × Nat × Nat) × Unit) =>
  cond (decide (z4.1 < ((t1.2.1.2.1 : Nat) : Int)))
  (T.block 2 [(.atom (.int .i64))]
  (T.loop [(.atom (.int .i64))] [(.int .i64 (0 : Int))] fun (z6 : Int × Unit) =>
  deref t1.2.1.1 fun a7 =>
  chk (0 ≤ z4.1 ∧ z4.1 < (t1.2.1.2.1 : Nat)) <|
  T.load .slice (a7.add (Int.toNat z4.1 * 1)) fun (t8 : Option Addr × Nat × Nat) =>
  T.call 24 [(.pointer (some ⟨r2, 0, none⟩)), (.slice t8.1 t8.2.1 t8.2.2), (.int .i64 z6.1)] (.one (.atom .bool)) fun (t9 : Bool) =>
  cond (!t9)
  (T.out [(.int .i64 (IntKind.wrap .i64 (z6.1 + (1 : Int))))])
  (T.brk 2 [(.int .i64 z6.1)])) fun (z5 : Int × Unit) =>
  T.new (.cells #[(.int .i64 z5.1)] 3 (0, 0)) fun r10 =>
  T.sem (Builtin.append_ #[26, 26] 26 #[(.slice z4.2.1.1 z4.2.1.2.1 z4.2.1.2.2), (.slice (some ⟨r10, 0, none⟩) 1 1)]) (.one (.atom .slice)) fun (t11 : Option Addr × Nat × Nat) =>
  T.block 4 [(.atom (.int .i64))]
  (T.loop [(.atom (.int .i64))] [(.int .i64 (0 : Int))] fun (z13 : Int × Unit) =>
  deref t1.2.1.1 fun a14 =>
  chk (0 ≤ z4.1 ∧ z4.1 < (t1.2.1.2.1 : Nat)) <|
  T.load .slice (a14.add (Int.toNat z4.1 * 1)) fun (t15 : Option Addr × Nat × Nat) =>
  cond (decide (z13.1 < ((t15.2.1 : Nat) : Int)))
  (T.block 6 []
  (T.loop [] [] fun (z17 : Unit) =>
  T.join [(.atom .bool)]
  (deref t1.2.1.1 fun a19 =>
  chk (0 ≤ z4.1 ∧ z4.1 < (t1.2.1.2.1 : Nat)) <|
  T.load .slice (a19.add (Int.toNat z4.1 * 1)) fun (t20 : Option Addr × Nat × Nat) =>
  deref t20.1 fun a21 =>
  chk (0 ≤ z13.1 ∧ z13.1 < (t20.2.1 : Nat)) <|
  T.load (.int .i64) (a21.add (Int.toNat z13.1 * 1)) fun (t22 : Int) =>
  cond (t22 != (0 : Int))
  (T.load .slice ⟨r2, 2, none⟩ fun (t23 : Option Addr × Nat × Nat) =>
  T.out [(.bool (decide (((t23.2.1 : Nat) : Int) ≤ (IntKind.wrap .i64 (z5.1 + z13.1)))))])
  (T.out [(.bool false)])) fun (z18 : Bool × Unit) =>
  cond z18.1
  (T.load .slice ⟨r2, 2, none⟩ fun (t24 : Option Addr × Nat × Nat) =>
  T.new (.cells #[(.int .i64 (0 : Int))] 3 (0, 0)) fun r25 =>
  T.sem (Builtin.append_ #[26, 26] 26 #[(.slice t24.1 t24.2.1 t24.2.2), (.slice (some ⟨r25, 0, none⟩) 1 1)]) (.one (.atom .slice)) fun (t26 : Option Addr × Nat × Nat) =>
  T.store ⟨r2, 2, none⟩ (.slice t26.1 t26.2.1 t26.2.2) <|
  T.load .slice ⟨r2, 3, none⟩ fun (t27 : Option Addr × Nat × Nat) =>
  T.new (.cells #[(.int .i64 (0 : Int))] 3 (0, 0)) fun r28 =>
  T.sem (Builtin.append_ #[26, 26] 26 #[(.slice t27.1 t27.2.1 t27.2.2), (.slice (some ⟨r28, 0, none⟩) 1 1)]) (.one (.atom .slice)) fun (t29 : Option Addr × Nat × Nat) =>
  T.store ⟨r2, 3, none⟩ (.slice t29.1 t29.2.1 t29.2.2) <|
  T.out [])
  (T.brk 6 [])) fun (z16 : Unit) =>
  deref t1.2.1.1 fun a30 =>
  chk (0 ≤ z4.1 ∧ z4.1 < (t1.2.1.2.1 : Nat)) <|
  T.load .slice (a30.add (Int.toNat z4.1 * 1)) fun (t31 : Option Addr × Nat × Nat) =>
  deref t31.1 fun a32 =>
  chk (0 ≤ z13.1 ∧ z13.1 < (t31.2.1 : Nat)) <|
  T.load (.int .i64) (a32.add (Int.toNat z13.1 * 1)) fun (t33 : Int) =>
  T.join []
  (cond (t33 != (0 : Int))
  (T.load .slice ⟨r2, 2, none⟩ fun (t35 : Option Addr × Nat × Nat) =>
  deref t1.2.1.1 fun a36 =>
  chk (0 ≤ z4.1 ∧ z4.1 < (t1.2.1.2.1 : Nat)) <|
  T.load .slice (a36.add (Int.toNat z4.1 * 1)) fun (t37 : Option Addr × Nat × Nat) =>
  deref t37.1 fun a38 =>
  chk (0 ≤ z13.1 ∧ z13.1 < (t37.2.1 : Nat)) <|
  T.load (.int .i64) (a38.add (Int.toNat z13.1 * 1)) fun (t39 : Int) =>
  deref t35.1 fun a40 =>
  chk (0 ≤ (IntKind.wrap .i64 (z5.1 + z13.1)) ∧ (IntKind.wrap .i64 (z5.1 + z13.1)) < (t35.2.1 : Nat)) <|
  T.store (a40.add (Int.toNat (IntKind.wrap .i64 (z5.1 + z13.1)) * 1)) (.int .i64 t39) <|
  T.load .slice ⟨r2, 3, none⟩ fun (t41 : Option Addr × Nat × Nat) =>
  deref t41.1 fun a42 =>
  chk (0 ≤ (IntKind.wrap .i64 (z5.1 + z13.1)) ∧ (IntKind.wrap .i64 (z5.1 + z13.1)) < (t41.2.1 : Nat)) <|
  T.store (a42.add (Int.toNat (IntKind.wrap .i64 (z5.1 + z13.1)) * 1)) (.int .i64 (IntKind.wrap .i64 (z4.1 + (1 : Int)))) <|
  T.out [])
  (T.out [])) fun (z34 : Unit) =>
  T.out [(.int .i64 (IntKind.wrap .i64 (z13.1 + (1 : Int))))])
  (T.brk 4 [(.int .i64 z13.1)])) fun (z12 : Int × Unit) =>
  T.out [(.int .i64 (IntKind.wrap .i64 (z4.1 + (1 : Int)))), (.slice t11.1 t11.2.1 t11.2.2)])
  (T.brk 0 [(.int .i64 z4.1), (.slice z4.2.1.1 z4.2.1.2.1 z4.2.1.2.2)])) fun (z3 : Int × (Option Addr × Nat × Nat) × Unit) =>
  T.block 8 [(.atom (.int .i64))]
  (T.loop [(.atom (.int .i64))] [(.int .i64 (0 : Int))] fun (z44 : Int × Unit) =>
  cond (decide (z44.1 < ((t1.1.2.1 : Nat) : Int)))
  (T.load .slice ⟨r2, 1, none⟩ fun (t45 : Option Addr × Nat × Nat) =>
  deref t1.1.1 fun a46 =>
  chk (0 ≤ z44.1 ∧ z44.1 < (t1.1.2.1 : Nat)) <|
  T.load (.int .i64) (a46.add (Int.toNat z44.1 * 1)) fun (t47 : Int) =>
  deref z3.2.1.1 fun a48 =>
  chk (0 ≤ t47 ∧ t47 < (z3.2.1.2.1 : Nat)) <|
  T.load (.int .i64) (a48.add (Int.toNat t47 * 1)) fun (t49 : Int) =>
  T.new (.cells #[(.int .i64 t49)] 3 (0, 0)) fun r50 =>
  T.still ⟨r2, 1, none⟩ (.slice t45.1 t45.2.1 t45.2.2) <|
  T.sem (Builtin.append_ #[26, 26] 26 #[(.slice t45.1 t45.2.1 t45.2.2), (.slice (some ⟨r50, 0, none⟩) 1 1)]) (.one (.atom .slice)) fun (t51 : Option Addr × Nat × Nat) =>
  T.store ⟨r2, 1, none⟩ (.slice t51.1 t51.2.1 t51.2.2) <|
  T.out [(.int .i64 (IntKind.wrap .i64 (z44.1 + (1 : Int))))])
  (T.brk 8 [(.int .i64 z44.1)])) fun (z43 : Int × Unit) =>
  T.ret (.pointer (some ⟨r2, 0, none⟩))
theorem tronageref15_Pack_den (rows_0_p : Option Addr) (rows_0_n rows_0_c : Nat) : denFun Tryd.prog Tryd.f17 [(.slice rows_0_p rows_0_n rows_0_c)] = tronageref15_Pack_T rows_0_p rows_0_n rows_0_c := by kernel_rfl

/-- tronage/table.Dense -/
def table_Dense_T (rows_0_p : Option Addr) (rows_0_n rows_0_c : Nat) : T :=
  T.block 0 [(.atom (.int .i64)), (.atom (.int .i64))]
  (T.loop [(.atom (.int .i64)), (.atom (.int .i64))] [(.int .i64 (0 : Int)), (.int .i64 (0 : Int))] fun (z2 : Int × Int × Unit) =>
  cond (decide (z2.1 < ((rows_0_n : Nat) : Int)))
  (deref rows_0_p fun a3 =>
  chk (0 ≤ z2.1 ∧ z2.1 < (rows_0_n : Nat)) <|
  T.load .slice (a3.add (Int.toNat z2.1 * 1)) fun (t4 : Option Addr × Nat × Nat) =>
  T.block 2 [(.atom (.int .i64)), (.atom (.int .i64))]
  (T.loop [(.atom (.int .i64)), (.atom (.int .i64))] [(.int .i64 (0 : Int)), (.int .i64 z2.2.1)] fun (z6 : Int × Int × Unit) =>
  cond (decide (z6.1 < ((t4.2.1 : Nat) : Int)))
  (deref t4.1 fun a7 =>
  chk (0 ≤ z6.1 ∧ z6.1 < (t4.2.1 : Nat)) <|
  T.load (.int .i64) (a7.add (Int.toNat z6.1 * 1)) fun (t8 : Int) =>
  T.join [(.atom (.int .i64))]
  (cond (t8 != (0 : Int))
  (T.out [(.int .i64 (IntKind.wrap .i64 (z6.2.1 + (1 : Int))))])
  (T.out [(.int .i64 z6.2.1)])) fun (z9 : Int × Unit) =>
  T.out [(.int .i64 (IntKind.wrap .i64 (z6.1 + (1 : Int)))), (.int .i64 z9.1)])
  (T.brk 2 [(.int .i64 z6.1), (.int .i64 z6.2.1)])) fun (z5 : Int × Int × Unit) =>
  T.out [(.int .i64 (IntKind.wrap .i64 (z2.1 + (1 : Int)))), (.int .i64 z5.2.1)])
  (T.brk 0 [(.int .i64 z2.1), (.int .i64 z2.2.1)])) fun (z1 : Int × Int × Unit) =>
  T.ret (.int .i64 z1.2.1)
theorem table_Dense_den (rows_0_p : Option Addr) (rows_0_n rows_0_c : Nat) : denFun Tryd.prog Tryd.f18 [(.slice rows_0_p rows_0_n rows_0_c)] = table_Dense_T rows_0_p rows_0_n rows_0_c := by kernel_rfl

/-- (tronage/table.Packed).At -/
def table_Packed_At_T (p_0 : (Option Addr × Nat × Nat) × (Option Addr × Nat × Nat) × (Option Addr × Nat × Nat) × (Option Addr × Nat × Nat) × Unit) (row_1 : Int) (col_2 : Int) : T :=
  T.new (.cells #[(.slice p_0.1.1 p_0.1.2.1 p_0.1.2.2), (.slice p_0.2.1.1 p_0.2.1.2.1 p_0.2.1.2.2), (.slice p_0.2.2.1.1 p_0.2.2.1.2.1 p_0.2.2.1.2.2), (.slice p_0.2.2.2.1.1 p_0.2.2.2.1.2.1 p_0.2.2.2.1.2.2)] 34 (0, 0)) fun r1 =>
  T.join [(.atom .bool)]
  (cond (decide (row_1 < (0 : Int)))
  (T.out [(.bool true)])
  (T.load .slice ⟨r1, 1, none⟩ fun (t3 : Option Addr × Nat × Nat) =>
  cond (decide (row_1 ≥ ((t3.2.1 : Nat) : Int)))
  (T.out [(.bool true)])
  (cond (decide (col_2 < (0 : Int)))
  (T.out [(.bool true)])
  (T.load .slice ⟨r1, 2, none⟩ fun (t4 : Option Addr × Nat × Nat) =>
  T.load .slice ⟨r1, 1, none⟩ fun (t5 : Option Addr × Nat × Nat) =>
  deref t5.1 fun a6 =>
  chk (0 ≤ row_1 ∧ row_1 < (t5.2.1 : Nat)) <|
  T.load (.int .i64) (a6.add (Int.toNat row_1 * 1)) fun (t7 : Int) =>
  T.out [(.bool (decide (col_2 ≥ (IntKind.wrap .i64 (((t4.2.1 : Nat) : Int) - t7)))))])))) fun (z2 : Bool × Unit) =>
  cond z2.1
  (T.ret (.int .i64 (0 : Int)))
  (T.load .slice ⟨r1, 1, none⟩ fun (t8 : Option Addr × Nat × Nat) =>
  deref t8.1 fun a9 =>
  chk (0 ≤ row_1 ∧ row_1 < (t8.2.1 : Nat)) <|
  T.load (.int .i64) (a9.add (Int.toNat row_1 * 1)) fun (t10 : Int) =>
  T.load .slice ⟨r1, 3, none⟩ fun (t11 : Option Addr × Nat × Nat) =>
  deref t11.1 fun a12 =>
  chk (0 ≤ (IntKind.wrap .i64 (t10 + col_2)) ∧ (IntKind.wrap .i64 (t10 + col_2)) < (t11.2.1 : Nat)) <|
  T.load (.int .i64) (a12.add (Int.toNat (IntKind.wrap .i64 (t10 + col_2)) * 1)) fun (t13 : Int) =>
  T.load .slice ⟨r1, 0, none⟩ fun (t14 : Option Addr × Nat × Nat) =>
  deref t14.1 fun a15 =>
  chk (0 ≤ row_1 ∧ row_1 < (t14.2.1 : Nat)) <|
  T.load (.int .i64) (a15.add (Int.toNat row_1 * 1)) fun (t16 : Int) =>
  cond (t13 != (IntKind.wrap .i64 (t16 + (1 : Int))))
  (T.ret (.int .i64 (0 : Int)))
  (T.load .slice ⟨r1, 2, none⟩ fun (t17 : Option Addr × Nat × Nat) =>
  deref t17.1 fun a18 =>
  chk (0 ≤ (IntKind.wrap .i64 (t10 + col_2)) ∧ (IntKind.wrap .i64 (t10 + col_2)) < (t17.2.1 : Nat)) <|
  T.load (.int .i64) (a18.add (Int.toNat (IntKind.wrap .i64 (t10 + col_2)) * 1)) fun (t19 : Int) =>
  T.ret (.int .i64 t19)))
theorem table_Packed_At_den (p_0 : (Option Addr × Nat × Nat) × (Option Addr × Nat × Nat) × (Option Addr × Nat × Nat) × (Option Addr × Nat × Nat) × Unit) (row_1 : Int) (col_2 : Int) : denFun Tryd.prog Tryd.f19 [(.agg #[(.slice p_0.1.1 p_0.1.2.1 p_0.1.2.2), (.slice p_0.2.1.1 p_0.2.1.2.1 p_0.2.1.2.2), (.slice p_0.2.2.1.1 p_0.2.2.1.2.1 p_0.2.2.1.2.2), (.slice p_0.2.2.2.1.1 p_0.2.2.2.1.2.1 p_0.2.2.2.1.2.2)]), (.int .i64 row_1), (.int .i64 col_2)] = table_Packed_At_T p_0 row_1 col_2 := by kernel_rfl

/-- tronage/table.trim -/
def table_trim_T (row_0_p : Option Addr) (row_0_n row_0_c : Nat) : T :=
  T.block 0 [(.atom (.int .i64))]
  (T.loop [(.atom (.int .i64))] [(.int .i64 ((row_0_n : Nat) : Int))] fun (z2 : Int × Unit) =>
  T.join [(.atom .bool)]
  (cond (decide (z2.1 > (0 : Int)))
  (deref row_0_p fun a4 =>
  chk (0 ≤ (IntKind.wrap .i64 (z2.1 - (1 : Int))) ∧ (IntKind.wrap .i64 (z2.1 - (1 : Int))) < (row_0_n : Nat)) <|
  T.load (.int .i64) (a4.add (Int.toNat (IntKind.wrap .i64 (z2.1 - (1 : Int))) * 1)) fun (t5 : Int) =>
  T.out [(.bool (t5 == (0 : Int)))])
  (T.out [(.bool false)])) fun (z3 : Bool × Unit) =>
  cond z3.1
  (T.out [(.int .i64 (IntKind.wrap .i64 (z2.1 - (1 : Int))))])
  (T.brk 0 [(.int .i64 z2.1)])) fun (z1 : Int × Unit) =>
  T.new (.cells #[] 3 (0, 0)) fun r6 =>
  chk (0 ≤ (0 : Int) ∧ (0 : Int) ≤ z1.1 ∧ z1.1 ≤ (row_0_c : Nat)) <|
  T.sem (Builtin.append_ #[26, 26] 26 #[(.slice (some ⟨r6, 0, none⟩) 0 0), (.slice (if row_0_c = Int.toNat (0 : Int) then row_0_p else Option.map (fun x => Addr.add x (Int.toNat (0 : Int) * 1)) row_0_p) (Int.toNat z1.1 - Int.toNat (0 : Int)) (row_0_c - Int.toNat (0 : Int)))]) (.one (.atom .slice)) fun (t7 : Option Addr × Nat × Nat) =>
  T.ret (.slice t7.1 t7.2.1 t7.2.2)
theorem table_trim_den (row_0_p : Option Addr) (row_0_n row_0_c : Nat) : denFun Tryd.prog Tryd.f20 [(.slice row_0_p row_0_n row_0_c)] = table_trim_T row_0_p row_0_n row_0_c := by kernel_rfl

/-- tronage/table.key -/
def table_key_T (row_0_p : Option Addr) (row_0_n row_0_c : Nat) : T :=
  T.block 0 [(.atom (.int .i64)), (.atom .slice)]
  (T.loop [(.atom (.int .i64)), (.atom .slice)] [(.int .i64 (0 : Int)), (.slice none 0 0)] fun (z2 : Int × (Option Addr × Nat × Nat) × Unit) =>
  cond (decide (z2.1 < ((row_0_n : Nat) : Int)))
  (deref row_0_p fun a3 =>
  chk (0 ≤ z2.1 ∧ z2.1 < (row_0_n : Nat)) <|
  T.load (.int .i64) (a3.add (Int.toNat z2.1 * 1)) fun (t4 : Int) =>
  T.call 25 [(.slice z2.2.1.1 z2.2.1.2.1 z2.2.1.2.2), (.int .i64 t4), (.int .i64 (10 : Int))] (.one (.atom .slice)) fun (t5 : Option Addr × Nat × Nat) =>
  T.new (.cells #[(.int .u8 (32 : Int))] 5 (0, 0)) fun r6 =>
  T.sem (Builtin.append_ #[23, 23] 23 #[(.slice t5.1 t5.2.1 t5.2.2), (.slice (some ⟨r6, 0, none⟩) 1 1)]) (.one (.atom .slice)) fun (t7 : Option Addr × Nat × Nat) =>
  T.out [(.int .i64 (IntKind.wrap .i64 (z2.1 + (1 : Int)))), (.slice t7.1 t7.2.1 t7.2.2)])
  (T.brk 0 [(.int .i64 z2.1), (.slice z2.2.1.1 z2.2.1.2.1 z2.2.1.2.2)])) fun (z1 : Int × (Option Addr × Nat × Nat) × Unit) =>
  T.sem (convert 23 9 (.slice z1.2.1.1 z1.2.1.2.1 z1.2.1.2.2)) (.one (.atom .string)) fun (t8 : ByteArray) =>
  T.ret (.string t8)
theorem table_key_den (row_0_p : Option Addr) (row_0_n row_0_c : Nat) : denFun Tryd.prog Tryd.f21 [(.slice row_0_p row_0_n row_0_c)] = table_key_T row_0_p row_0_n row_0_c := by kernel_rfl

/-- (*tronage/table.Packed).fit -/
def table_Packed_fit_T (p_0 : Option Addr) (row_1_p : Option Addr) (row_1_n row_1_c : Nat) : T :=
  T.loop [(.atom (.int .i64)), (.atom (.int .i64))] [(.int .i64 (0 : Int)), (.int .i64 (0 : Int))] fun (z1 : Int × Int × Unit) =>
  T.block 1 [(.atom (.int .i64))]
  (T.block 2 [(.atom (.int .i64))]
  (T.loop [(.atom (.int .i64))] [(.int .i64 (0 : Int))] fun (z4 : Int × Unit) =>
  cond (decide (z4.1 < ((row_1_n : Nat) : Int)))
  (deref row_1_p fun a5 =>
  chk (0 ≤ z4.1 ∧ z4.1 < (row_1_n : Nat)) <|
  T.load (.int .i64) (a5.add (Int.toNat z4.1 * 1)) fun (t6 : Int) =>
  T.join [(.atom .bool)]
  (cond (t6 != (0 : Int))
  (T.call 26 [(.pointer p_0), (.int .i64 (IntKind.wrap .i64 (z1.1 + z4.1)))] (.one (.atom (.int .i64))) fun (t8 : Int) =>
  T.out [(.bool (t8 != (0 : Int)))])
  (T.out [(.bool false)])) fun (z7 : Bool × Unit) =>
  cond z7.1
  (T.brk 1 [(.int .i64 z1.2.1)])
  (T.out [(.int .i64 (IntKind.wrap .i64 (z4.1 + (1 : Int))))]))
  (T.brk 2 [(.int .i64 z4.1)])) fun (z3 : Int × Unit) =>
  T.ret (.int .i64 z1.1)) fun (z2 : Int × Unit) =>
  T.out [(.int .i64 (IntKind.wrap .i64 (z1.1 + (1 : Int)))), (.int .i64 z2.1)]
theorem table_Packed_fit_den (p_0 : Option Addr) (row_1_p : Option Addr) (row_1_n row_1_c : Nat) : denFun Tryd.prog Tryd.f22 [(.pointer p_0), (.slice row_1_p row_1_n row_1_c)] = table_Packed_fit_T p_0 row_1_p row_1_n row_1_c := by kernel_rfl

/-- (*tronage/table.Packed).lay -/
def table_Packed_lay_T (p_0 : Option Addr) (row_1_p : Option Addr) (row_1_n row_1_c : Nat) (at_2 : Int) (id_3 : Int) : T :=
  T.block 0 [(.atom (.int .i64))]
  (T.loop [(.atom (.int .i64))] [(.int .i64 (0 : Int))] fun (z2 : Int × Unit) =>
  cond (decide (z2.1 < ((row_1_n : Nat) : Int)))
  (T.block 1 []
  (deref row_1_p fun a4 =>
  chk (0 ≤ z2.1 ∧ z2.1 < (row_1_n : Nat)) <|
  T.load (.int .i64) (a4.add (Int.toNat z2.1 * 1)) fun (t5 : Int) =>
  cond (t5 == (0 : Int))
  (T.brk 1 [])
  (T.block 2 []
  (T.loop [] [] fun (z7 : Unit) =>
  deref p_0 fun a8 =>
  T.load .slice (a8.add 2) fun (t9 : Option Addr × Nat × Nat) =>
  cond (decide (((t9.2.1 : Nat) : Int) ≤ (IntKind.wrap .i64 (at_2 + z2.1))))
  (deref p_0 fun a10 =>
  T.load .slice (a10.add 2) fun (t11 : Option Addr × Nat × Nat) =>
  deref p_0 fun a12 =>
  T.load .slice (a12.add 3) fun (t13 : Option Addr × Nat × Nat) =>
  T.both
  (T.new (.cells #[(.int .i64 (0 : Int))] 3 (0, 0)) fun r14 =>
  T.still (a12.add 3) (.slice t13.1 t13.2.1 t13.2.2) <|
  T.still (a10.add 2) (.slice t11.1 t11.2.1 t11.2.2) <|
  T.both
  (T.sem (Builtin.append_ #[26, 26] 26 #[(.slice t11.1 t11.2.1 t11.2.2), (.slice (some ⟨r14, 0, none⟩) 1 1)]) (.one (.atom .slice)) fun (t15 : Option Addr × Nat × Nat) =>
  T.still (a12.add 3) (.slice t13.1 t13.2.1 t13.2.2) <|
  T.new (.cells #[(.int .i64 (0 : Int))] 3 (0, 0)) fun r16 =>
  T.still (a12.add 3) (.slice t13.1 t13.2.1 t13.2.2) <|
  T.sem (Builtin.append_ #[26, 26] 26 #[(.slice t13.1 t13.2.1 t13.2.2), (.slice (some ⟨r16, 0, none⟩) 1 1)]) (.one (.atom .slice)) fun (t17 : Option Addr × Nat × Nat) =>
  deref p_0 fun a18 =>
  T.store (a18.add 2) (.slice t15.1 t15.2.1 t15.2.2) <|
  deref p_0 fun a19 =>
  T.store (a19.add 3) (.slice t17.1 t17.2.1 t17.2.2) <|
  T.out [])
  (T.new (.cells #[(.int .i64 (0 : Int))] 3 (0, 0)) fun r20 =>
  T.still (a12.add 3) (.slice t13.1 t13.2.1 t13.2.2) <|
  T.still (a10.add 2) (.slice t11.1 t11.2.1 t11.2.2) <|
  T.sem (Builtin.append_ #[26, 26] 26 #[(.slice t11.1 t11.2.1 t11.2.2), (.slice (some ⟨r14, 0, none⟩) 1 1)]) (.one (.atom .slice)) fun (t21 : Option Addr × Nat × Nat) =>
  T.still (a12.add 3) (.slice t13.1 t13.2.1 t13.2.2) <|
  T.sem (Builtin.append_ #[26, 26] 26 #[(.slice t13.1 t13.2.1 t13.2.2), (.slice (some ⟨r20, 0, none⟩) 1 1)]) (.one (.atom .slice)) fun (t22 : Option Addr × Nat × Nat) =>
  deref p_0 fun a23 =>
  T.store (a23.add 2) (.slice t21.1 t21.2.1 t21.2.2) <|
  deref p_0 fun a24 =>
  T.store (a24.add 3) (.slice t22.1 t22.2.1 t22.2.2) <|
  T.out []))
  (T.new (.cells #[(.int .i64 (0 : Int))] 3 (0, 0)) fun r25 =>
  T.still (a12.add 3) (.slice t13.1 t13.2.1 t13.2.2) <|
  T.still (a10.add 2) (.slice t11.1 t11.2.1 t11.2.2) <|
  T.new (.cells #[(.int .i64 (0 : Int))] 3 (0, 0)) fun r26 =>
  T.still (a12.add 3) (.slice t13.1 t13.2.1 t13.2.2) <|
  T.still (a10.add 2) (.slice t11.1 t11.2.1 t11.2.2) <|
  T.sem (Builtin.append_ #[26, 26] 26 #[(.slice t11.1 t11.2.1 t11.2.2), (.slice (some ⟨r26, 0, none⟩) 1 1)]) (.one (.atom .slice)) fun (t27 : Option Addr × Nat × Nat) =>
  T.still (a12.add 3) (.slice t13.1 t13.2.1 t13.2.2) <|
  T.sem (Builtin.append_ #[26, 26] 26 #[(.slice t13.1 t13.2.1 t13.2.2), (.slice (some ⟨r25, 0, none⟩) 1 1)]) (.one (.atom .slice)) fun (t28 : Option Addr × Nat × Nat) =>
  deref p_0 fun a29 =>
  T.store (a29.add 2) (.slice t27.1 t27.2.1 t27.2.2) <|
  deref p_0 fun a30 =>
  T.store (a30.add 3) (.slice t28.1 t28.2.1 t28.2.2) <|
  T.out []))
  (T.brk 2 [])) fun (z6 : Unit) =>
  deref p_0 fun a31 =>
  T.load .slice (a31.add 2) fun (t32 : Option Addr × Nat × Nat) =>
  deref p_0 fun a33 =>
  T.load .slice (a33.add 3) fun (t34 : Option Addr × Nat × Nat) =>
  deref t32.1 fun a35 =>
  chk (0 ≤ (IntKind.wrap .i64 (at_2 + z2.1)) ∧ (IntKind.wrap .i64 (at_2 + z2.1)) < (t32.2.1 : Nat)) <|
  T.store (a35.add (Int.toNat (IntKind.wrap .i64 (at_2 + z2.1)) * 1)) (.int .i64 t5) <|
  deref t34.1 fun a36 =>
  chk (0 ≤ (IntKind.wrap .i64 (at_2 + z2.1)) ∧ (IntKind.wrap .i64 (at_2 + z2.1)) < (t34.2.1 : Nat)) <|
  T.store (a36.add (Int.toNat (IntKind.wrap .i64 (at_2 + z2.1)) * 1)) (.int .i64 (IntKind.wrap .i64 (id_3 + (1 : Int)))) <|
  T.out [])) fun (z3 : Unit) =>
  T.out [(.int .i64 (IntKind.wrap .i64 (z2.1 + (1 : Int))))])
  (T.brk 0 [(.int .i64 z2.1)])) fun (z1 : Int × Unit) =>
  T.ret (.tuple #[])
theorem table_Packed_lay_den (p_0 : Option Addr) (row_1_p : Option Addr) (row_1_n row_1_c : Nat) (at_2 : Int) (id_3 : Int) : denFun Tryd.prog Tryd.f23 [(.pointer p_0), (.slice row_1_p row_1_n row_1_c), (.int .i64 at_2), (.int .i64 id_3)] = table_Packed_lay_T p_0 row_1_p row_1_n row_1_c at_2 id_3 := by kernel_rfl

/-- (*tronage/tronageref15.Packed).free -/
def tronageref15_Packed_free_T (p_0 : Option Addr) (row_1_p : Option Addr) (row_1_n row_1_c : Nat) (at_2 : Int) : T :=
  T.block 0 [(.atom (.int .i64)), (.atom .bool)]
  (T.loop [(.atom (.int .i64)), (.atom .bool)] [(.int .i64 (0 : Int)), (.bool false)] fun (z2 : Int × Bool × Unit) =>
  cond (decide (z2.1 < ((row_1_n : Nat) : Int)))
  (T.join [(.atom .bool)]
  (deref row_1_p fun a4 =>
  chk (0 ≤ z2.1 ∧ z2.1 < (row_1_n : Nat)) <|
  T.load (.int .i64) (a4.add (Int.toNat z2.1 * 1)) fun (t5 : Int) =>
  cond (t5 != (0 : Int))
  (deref p_0 fun a6 =>
  T.load .slice (a6.add 3) fun (t7 : Option Addr × Nat × Nat) =>
  cond (decide ((IntKind.wrap .i64 (at_2 + z2.1)) < ((t7.2.1 : Nat) : Int)))
  (deref p_0 fun a8 =>
  T.load .slice (a8.add 3) fun (t9 : Option Addr × Nat × Nat) =>
  deref t9.1 fun a10 =>
  chk (0 ≤ (IntKind.wrap .i64 (at_2 + z2.1)) ∧ (IntKind.wrap .i64 (at_2 + z2.1)) < (t9.2.1 : Nat)) <|
  T.load (.int .i64) (a10.add (Int.toNat (IntKind.wrap .i64 (at_2 + z2.1)) * 1)) fun (t11 : Int) =>
  T.out [(.bool (t11 != (0 : Int)))])
  (T.out [(.bool false)]))
  (T.out [(.bool false)])) fun (z3 : Bool × Unit) =>
  cond z3.1
  (T.ret (.bool false))
  (T.out [(.int .i64 (IntKind.wrap .i64 (z2.1 + (1 : Int)))), (.bool z2.2.1)]))
  (T.brk 0 [(.int .i64 z2.1), (.bool z2.2.1)])) fun (z1 : Int × Bool × Unit) =>
  T.ret (.bool true)
theorem tronageref15_Packed_free_den (p_0 : Option Addr) (row_1_p : Option Addr) (row_1_n row_1_c : Nat) (at_2 : Int) : denFun Tryd.prog Tryd.f24 [(.pointer p_0), (.slice row_1_p row_1_n row_1_c), (.int .i64 at_2)] = tronageref15_Packed_free_T p_0 row_1_p row_1_n row_1_c at_2 := by kernel_rfl

/-- (*tronage/table.Packed).owner -/
def table_Packed_owner_T (p_0 : Option Addr) (at_1 : Int) : T :=
  deref p_0 fun a1 =>
  T.load .slice (a1.add 3) fun (t2 : Option Addr × Nat × Nat) =>
  cond (decide (at_1 ≥ ((t2.2.1 : Nat) : Int)))
  (T.ret (.int .i64 (0 : Int)))
  (deref p_0 fun a3 =>
  T.load .slice (a3.add 3) fun (t4 : Option Addr × Nat × Nat) =>
  deref t4.1 fun a5 =>
  chk (0 ≤ at_1 ∧ at_1 < (t4.2.1 : Nat)) <|
  T.load (.int .i64) (a5.add (Int.toNat at_1 * 1)) fun (t6 : Int) =>
  T.ret (.int .i64 t6))
theorem table_Packed_owner_den (p_0 : Option Addr) (at_1 : Int) : denFun Tryd.prog Tryd.f26 [(.pointer p_0), (.int .i64 at_1)] = table_Packed_owner_T p_0 at_1 := by kernel_rfl

end Go.Proofs.YtklamaeccniblaaDoor
