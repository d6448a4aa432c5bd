/-
  Sim0, Clone, Sim1, Bits, Sets, Low, Tz, EngR, EngQ, Each, Collect, Den2, List, Apart, Union, SetsB, Objs, TarjanB, Lays, Sorts, Heads, PartsD, TarjanC, put together.
  Conditions: none; each part tells its own.
-/
import Derived.Test.YtbpbfoemghcfaaaDoorK2
import Derived.KernelRfl
import Derived.Lib.TrailingZeros
import Derived.Test.YtbpbfoemghcfaaaDoorK1
import Derived.WalkKit
import Derived.ProofKit
import Derived.OpenShut
import Derived.ShutString
import Derived.ChangeOld
import Derived.Below
import Derived.RangeFuncNested
import Derived.RangeFuncBound
import Derived.RangeFuncCalls
import Derived.RangeFuncLeaves
import Derived.Shelf.Abstract
import Derived.Shelf.RegionOpen
import Derived.OwnWalkIn
import Derived.TacticsInMore
import Derived.LoopNIn
import Derived.LoopIn
import Derived.RangeFuncBox
import Derived.Maps.AppendAt
import Derived.Test.YtbpbfoemghcfaaaDoorProg
import Derived.Shelf.Sort.Plain
import Derived.Shelf.SlSortCmp.NoneTotal
import Derived.Shelf.Slices.In.SortNone
namespace Go.Proofs.YtbpbfoemghcfaaaDoor
open Go Go.Eng
set_option linter.unusedVariables false
set_option maxRecDepth 100000


theorem appT_22_22 : AppT Tryd.prog 22 22 28 1 := ⟨Tryd.underlying22, .inl Tryd.underlying22, ⟨Tryd.t28, by kernel_rfl, rfl, ⟨_, rfl, rfl⟩, by decide, by decide⟩, by decide⟩
theorem appT_28_28 : AppT Tryd.prog 28 28 3 1 := ⟨Tryd.underlying28, .inl Tryd.underlying28, ⟨Tryd.t3, by kernel_rfl, rfl, ⟨_, rfl, rfl⟩, by decide, by decide⟩, by decide⟩
theorem appT_49_49 : AppT Tryd.prog 49 49 42 1 := ⟨Tryd.underlying49, .inl Tryd.underlying49, ⟨Tryd.t42, by kernel_rfl, rfl, ⟨_, rfl, rfl⟩, by decide, by decide⟩, by decide⟩
theorem makeT_42 : MakeT Tryd.prog 42 4 (.bool false) := ⟨Tryd.underlying42, ⟨Tryd.t4, by kernel_rfl, rfl, ⟨_, rfl, rfl⟩, by decide⟩⟩
noncomputable def slices_Index_int_int_D (s_0 : List Int) (v_1 : Int) : Option Int :=
  (forN (σ := Unit) (β := Int) (0 : Int) (((List.length s_0) : Nat) : Int) () fun i_z2 z2 =>
    (idx s_0 i_z2).bind fun e23 =>
    cond (v_1 == e23)
    (some (Step.done i_z2))
    (some (Step.next ()))).bind fun e_z1 => match e_z1 with
  | .next z1 =>
    some (-1 : Int)
  | .done q36 => some q36
theorem slices_Index_int_int_sim {φ : Snap} {h : Heap} {F : List Chk} {s_0 : Slc} {d_s_0 : List Int} {v_1 : Int} (k1_ : Ro.SliceIs (Ro.int .i64) φ s_0 d_s_0) (s0 : St φ (F) h) {r : Int} (hd : slices_Index_int_int_D d_s_0 v_1 = some r) :
    CallsH Tryd.prog 50 [(.slice s_0.1 s_0.2.1 s_0.2.2), (.int .i64 v_1)] h (Back fun v h' => ∃ ψ : Snap, ∃ y : Int, Sub φ ψ ∧ v = ((.one (.atom (.int .i64))) : Sh).val y ∧ y = r ∧ St ψ (F) h') := by
  refine calls_of mixed Tryd.func50 ?_
  rw [slices_Index_int_int_den]
  unfold slices_Index_int_int_T
  unfold slices_Index_int_int_D at hd
  have n2_ : s_0.2.1 = List.length d_s_0 := k1_.length
  obtain ⟨g3_, hx4_, hd⟩ := Option.bind_eq_some_iff.1 hd
  refine s_block (fun (y : Int × Int × Unit) w_ g => ∃ ψ : Snap, Sub φ ψ ∧ Step.next () = g ∧ St ψ (F) w_) (g := g3_) ?_ ?_
  · refine s_forN hx4_ (fun i5_ (y : Int × Int × Unit) w_ g => ∃ ψ : Snap, Sub φ ψ ∧ y.1 = i5_ ∧ () = g ∧ St ψ (F) w_) ((0 : Int), (0 : Int), ()) rfl ⟨φ, (Sub.refl _), rfl, rfl, s0⟩ ?_ ?_
    · rintro _ z2 h11_ _ _ ⟨f8_, le9_, rfl, rfl, s10_⟩ he6_ h113_ h214_ hw12_ hb7_
      try dsimp only at he6_ h113_ h214_ hw12_
      refine t_true (by rw [n2_]; exact decide_eq_true h214_) ?_
      obtain ⟨x15_, hx16_, he6_⟩ := Option.bind_eq_some_iff.1 he6_
      obtain ⟨a17_, cs18_, ea19_, hi20_, q21_, cl22_⟩ := (k1_.mono le9_).get hx16_
      refine t_deref _ ea19_ (t_chk hi20_ ?_)
      obtain rfl := q21_
      refine s_load (x := x15_) (cellS_heap (Sub.trans (Sub.refl _) s10_.sub) (cl22_ 0 _ rfl)) rfl ?_
      refine s_cond he6_ rfl (fun hb24_ he6_ => ?_) (fun hb24_ he6_ => ?_)
      · obtain rfl := Option.some.inj he6_
        obtain rfl := hb7_ _ rfl
        try dsimp only at hd
        obtain rfl := Option.some.inj hd
        exact around_ret (meetB_ret (finOf_back ⟨f8_, z2.1, le9_, rfl, rfl, s10_⟩))
      · obtain rfl := Option.some.inj he6_
        exact s_next ((IntKind.wrap .i64 (z2.1 + (1 : Int))), z2.2.1, ()) _ rfl rfl ⟨f8_, le9_, hw12_, rfl, s10_⟩
    · rintro _ z2 h28_ _ ⟨f25_, le26_, rfl, rfl, s27_⟩ hge29_ hr30_
      subst hr30_
      refine t_false (by rw [n2_]; exact decide_eq_false (Int.not_lt.2 hge29_)) ?_
      exact around_brk (meetB_brk (z2.1, z2.2.1, ()) rfl ⟨f25_, le26_, rfl, s27_⟩)
  · rintro z1 h31_ ⟨f32_, le33_, rfl, s34_⟩
    try dsimp only at hd
    obtain rfl := Option.some.inj hd
    exact finOf_back ⟨f32_, (-1 : Int), le33_, rfl, rfl, s34_⟩

noncomputable def slices_Contains_int_int_D (s_0 : List Int) (v_1 : Int) : Option Bool :=
  (slices_Index_int_int_D s_0 v_1).bind fun t1 =>
  some (decide (t1 ≥ (0 : Int)))
theorem slices_Contains_int_int_sim {φ : Snap} {h : Heap} {F : List Chk} {s_0 : Slc} {d_s_0 : List Int} {v_1 : Int} (k1_ : Ro.SliceIs (Ro.int .i64) φ s_0 d_s_0) (s0 : St φ (F) h) {r : Bool} (hd : slices_Contains_int_int_D d_s_0 v_1 = some r) :
    CallsH Tryd.prog 34 [(.slice s_0.1 s_0.2.1 s_0.2.2), (.int .i64 v_1)] h (Back fun v h' => ∃ ψ : Snap, ∃ y : Bool, Sub φ ψ ∧ v = ((.one (.atom .bool)) : Sh).val y ∧ y = r ∧ St ψ (F) h') := by
  refine calls_of mixed Tryd.func34 ?_
  rw [slices_Contains_int_int_den]
  unfold slices_Contains_int_int_T
  unfold slices_Contains_int_int_D at hd
  have n2_ : s_0.2.1 = List.length d_s_0 := k1_.length
  obtain ⟨r3_, hr4_, hd⟩ := Option.bind_eq_some_iff.1 hd
  refine s_call (slices_Index_int_int_sim k1_ s0 hr4_) ?_
  rintro _ h5_ ⟨f6_, t1, le8_, rfl, rfl, s7_⟩
  refine ⟨t1, rfl, ?_⟩
  obtain rfl := Option.some.inj hd
  exact finOf_back ⟨f6_, (decide (t1 ≥ (0 : Int))), le8_, rfl, rfl, s7_⟩

noncomputable def tronageref01_Ints_D (a_0 : List Int) (b_1 : List Int) : Option Bool :=
  cond ((((List.length a_0) : Nat) : Int) != (((List.length b_1) : Nat) : Int))
  (some false)
  ((forN (σ := Unit) (β := Bool) (0 : Int) (((List.length a_0) : Nat) : Int) () fun i_z2 z2 =>
      (idx a_0 i_z2).bind fun e25 =>
      (idx b_1 i_z2).bind fun e34 =>
      cond (e25 != e34)
      (some (Step.done false))
      (some (Step.next ()))).bind fun e_z1 => match e_z1 with
    | .next z1 =>
      some true
    | .done q47 => some q47)
theorem tronageref01_Ints_sim {φ : Snap} {h : Heap} {F : List Chk} {a_0 : Slc} {d_a_0 : List Int} {b_1 : Slc} {d_b_1 : List Int} (k1_ : Ro.SliceIs (Ro.int .i64) φ a_0 d_a_0) (k3_ : Ro.SliceIs (Ro.int .i64) φ b_1 d_b_1) (s0 : St φ (F) h) {r : Bool} (hd : tronageref01_Ints_D d_a_0 d_b_1 = some r) :
    CallsH Tryd.prog 12 [(.slice a_0.1 a_0.2.1 a_0.2.2), (.slice b_1.1 b_1.2.1 b_1.2.2)] h (Back fun v h' => ∃ ψ : Snap, ∃ y : Bool, Sub φ ψ ∧ v = ((.one (.atom .bool)) : Sh).val y ∧ y = r ∧ St ψ (F) h') := by
  refine calls_of mixed Tryd.func12 ?_
  rw [tronageref01_Ints_den]
  unfold tronageref01_Ints_T
  unfold tronageref01_Ints_D at hd
  have n2_ : a_0.2.1 = List.length d_a_0 := k1_.length
  have n4_ : b_1.2.1 = List.length d_b_1 := k3_.length
  refine s_cond hd (by rw [n2_, n4_] <;> rfl) (fun hb48_ hd => ?_) (fun hb48_ hd => ?_)
  · obtain rfl := Option.some.inj hd
    exact finOf_back ⟨φ, false, (Sub.refl _), rfl, rfl, s0⟩
  · obtain ⟨g5_, hx6_, hd⟩ := Option.bind_eq_some_iff.1 hd
    refine s_block (fun (y : Int × Bool × Unit) w_ g => ∃ ψ : Snap, Sub φ ψ ∧ Step.next () = g ∧ St ψ (F) w_) (g := g5_) ?_ ?_
    · refine s_forN hx6_ (fun i7_ (y : Int × Bool × Unit) w_ g => ∃ ψ : Snap, Sub φ ψ ∧ y.1 = i7_ ∧ () = g ∧ St ψ (F) w_) ((0 : Int), false, ()) rfl ⟨φ, (Sub.refl _), rfl, rfl, s0⟩ ?_ ?_
      · rintro _ z2 h13_ _ _ ⟨f10_, le11_, rfl, rfl, s12_⟩ he8_ h115_ h216_ hw14_ hb9_
        try dsimp only at he8_ h115_ h216_ hw14_
        refine t_true (by rw [n2_]; exact decide_eq_true h216_) ?_
        obtain ⟨x17_, hx18_, he8_⟩ := Option.bind_eq_some_iff.1 he8_
        obtain ⟨a19_, cs20_, ea21_, hi22_, q23_, cl24_⟩ := (k1_.mono le11_).get hx18_
        refine t_deref _ ea21_ (t_chk hi22_ ?_)
        obtain rfl := q23_
        refine s_load (x := x17_) (cellS_heap (Sub.trans (Sub.refl _) s12_.sub) (cl24_ 0 _ rfl)) rfl ?_
        obtain ⟨x26_, hx27_, he8_⟩ := Option.bind_eq_some_iff.1 he8_
        obtain ⟨a28_, cs29_, ea30_, hi31_, q32_, cl33_⟩ := (k3_.mono le11_).get hx27_
        refine t_deref _ ea30_ (t_chk hi31_ ?_)
        obtain rfl := q32_
        refine s_load (x := x26_) (cellS_heap (Sub.trans (Sub.refl _) s12_.sub) (cl33_ 0 _ rfl)) rfl ?_
        refine s_cond he8_ rfl (fun hb35_ he8_ => ?_) (fun hb35_ he8_ => ?_)
        · obtain rfl := Option.some.inj he8_
          obtain rfl := hb9_ _ rfl
          try dsimp only at hd
          obtain rfl := Option.some.inj hd
          exact around_ret (meetB_ret (finOf_back ⟨f10_, false, le11_, rfl, rfl, s12_⟩))
        · obtain rfl := Option.some.inj he8_
          exact s_next ((IntKind.wrap .i64 (z2.1 + (1 : Int))), z2.2.1, ()) _ rfl rfl ⟨f10_, le11_, hw14_, rfl, s12_⟩
      · rintro _ z2 h39_ _ ⟨f36_, le37_, rfl, rfl, s38_⟩ hge40_ hr41_
        subst hr41_
        refine t_false (by rw [n2_]; exact decide_eq_false (Int.not_lt.2 hge40_)) ?_
        exact around_brk (meetB_brk (z2.1, z2.2.1, ()) rfl ⟨f36_, le37_, rfl, s38_⟩)
    · rintro z1 h42_ ⟨f43_, le44_, rfl, s45_⟩
      try dsimp only at hd
      obtain rfl := Option.some.inj hd
      exact finOf_back ⟨f43_, true, le44_, rfl, rfl, s45_⟩

noncomputable def tronageref01_Lists_D (a_0 : List (List Int)) (b_1 : List (List Int)) : Option Bool :=
  cond ((((List.length a_0) : Nat) : Int) != (((List.length b_1) : Nat) : Int))
  (some false)
  ((forN (σ := Unit) (β := Bool) (0 : Int) (((List.length a_0) : Nat) : Int) () fun i_z2 z2 =>
      (idx a_0 i_z2).bind fun e25 =>
      (idx b_1 i_z2).bind fun e37 =>
      (tronageref01_Ints_D e25 e37).bind fun t7 =>
      cond (!t7)
      (some (Step.done false))
      (some (Step.next ()))).bind fun e_z1 => match e_z1 with
    | .next z1 =>
      some true
    | .done q59 => some q59)
theorem tronageref01_Lists_sim {φ : Snap} {h : Heap} {F : List Chk} {a_0 : Slc} {d_a_0 : List (List Int)} {b_1 : Slc} {d_b_1 : List (List Int)} (k1_ : Ro.SliceIs (Ro.list (Ro.int .i64)) φ a_0 d_a_0) (k3_ : Ro.SliceIs (Ro.list (Ro.int .i64)) φ b_1 d_b_1) (s0 : St φ (F) h) {r : Bool} (hd : tronageref01_Lists_D d_a_0 d_b_1 = some r) :
    CallsH Tryd.prog 16 [(.slice a_0.1 a_0.2.1 a_0.2.2), (.slice b_1.1 b_1.2.1 b_1.2.2)] h (Back fun v h' => ∃ ψ : Snap, ∃ y : Bool, Sub φ ψ ∧ v = ((.one (.atom .bool)) : Sh).val y ∧ y = r ∧ St ψ (F) h') := by
  refine calls_of mixed Tryd.func16 ?_
  rw [tronageref01_Lists_den]
  unfold tronageref01_Lists_T
  unfold tronageref01_Lists_D at hd
  have n2_ : a_0.2.1 = List.length d_a_0 := k1_.length
  have n4_ : b_1.2.1 = List.length d_b_1 := k3_.length
  refine s_cond hd (by rw [n2_, n4_] <;> rfl) (fun hb60_ hd => ?_) (fun hb60_ hd => ?_)
  · obtain rfl := Option.some.inj hd
    exact finOf_back ⟨φ, false, (Sub.refl _), rfl, rfl, s0⟩
  · obtain ⟨g5_, hx6_, hd⟩ := Option.bind_eq_some_iff.1 hd
    refine s_block (fun (y : Int × Bool × Unit) w_ g => ∃ ψ : Snap, Sub φ ψ ∧ Step.next () = g ∧ St ψ (F) w_) (g := g5_) ?_ ?_
    · refine s_forN hx6_ (fun i7_ (y : Int × Bool × Unit) w_ g => ∃ ψ : Snap, Sub φ ψ ∧ y.1 = i7_ ∧ () = g ∧ St ψ (F) w_) ((0 : Int), false, ()) rfl ⟨φ, (Sub.refl _), rfl, rfl, s0⟩ ?_ ?_
      · rintro _ z2 h13_ _ _ ⟨f10_, le11_, rfl, rfl, s12_⟩ he8_ h115_ h216_ hw14_ hb9_
        try dsimp only at he8_ h115_ h216_ hw14_
        refine t_true (by rw [n2_]; exact decide_eq_true h216_) ?_
        obtain ⟨x17_, hx18_, he8_⟩ := Option.bind_eq_some_iff.1 he8_
        obtain ⟨a19_, cs20_, ea21_, hi22_, q23_, cl24_⟩ := (k1_.mono le11_).get hx18_
        refine t_deref _ ea21_ (t_chk hi22_ ?_)
        obtain ⟨t26_, rfl, k27_⟩ := q23_
        have n28_ := k27_.length
        refine s_load (x := t26_) (cellS_heap (Sub.trans (Sub.refl _) s12_.sub) (cl24_ 0 _ rfl)) rfl ?_
        obtain ⟨x29_, hx30_, he8_⟩ := Option.bind_eq_some_iff.1 he8_
        obtain ⟨a31_, cs32_, ea33_, hi34_, q35_, cl36_⟩ := (k3_.mono le11_).get hx30_
        refine t_deref _ ea33_ (t_chk hi34_ ?_)
        obtain ⟨t38_, rfl, k39_⟩ := q35_
        have n40_ := k39_.length
        refine s_load (x := t38_) (cellS_heap (Sub.trans (Sub.refl _) s12_.sub) (cl36_ 0 _ rfl)) rfl ?_
        obtain ⟨r41_, hr42_, he8_⟩ := Option.bind_eq_some_iff.1 he8_
        refine s_call (tronageref01_Ints_sim k27_ k39_ s12_ hr42_) ?_
        rintro _ h43_ ⟨f44_, t7, le46_, rfl, rfl, s45_⟩
        refine ⟨t7, rfl, ?_⟩
        refine s_cond he8_ rfl (fun hb47_ he8_ => ?_) (fun hb47_ he8_ => ?_)
        · obtain rfl := Option.some.inj he8_
          obtain rfl := hb9_ _ rfl
          try dsimp only at hd
          obtain rfl := Option.some.inj hd
          exact around_ret (meetB_ret (finOf_back ⟨f44_, false, (le11_.trans le46_), rfl, rfl, s45_⟩))
        · obtain rfl := Option.some.inj he8_
          exact s_next ((IntKind.wrap .i64 (z2.1 + (1 : Int))), z2.2.1, ()) _ rfl rfl ⟨f44_, (le11_.trans le46_), hw14_, rfl, s45_⟩
      · rintro _ z2 h51_ _ ⟨f48_, le49_, rfl, rfl, s50_⟩ hge52_ hr53_
        subst hr53_
        refine t_false (by rw [n2_]; exact decide_eq_false (Int.not_lt.2 hge52_)) ?_
        exact around_brk (meetB_brk (z2.1, z2.2.1, ()) rfl ⟨f48_, le49_, rfl, s50_⟩)
    · rintro z1 h54_ ⟨f55_, le56_, rfl, s57_⟩
      try dsimp only at hd
      obtain rfl := Option.some.inj hd
      exact finOf_back ⟨f55_, true, le56_, rfl, rfl, s57_⟩

noncomputable def tronageref01_In_D (l_0 : List Int) (x_1 : Int) : Option Bool :=
  (forN (σ := Unit) (β := Bool) (0 : Int) (((List.length l_0) : Nat) : Int) () fun i_z2 z2 =>
    (idx l_0 i_z2).bind fun e23 =>
    cond (e23 == x_1)
    (some (Step.done true))
    (some (Step.next ()))).bind fun e_z1 => match e_z1 with
  | .next z1 =>
    some false
  | .done q36 => some q36
theorem tronageref01_In_sim {φ : Snap} {h : Heap} {F : List Chk} {l_0 : Slc} {d_l_0 : List Int} {x_1 : Int} (k1_ : Ro.SliceIs (Ro.int .i64) φ l_0 d_l_0) (s0 : St φ (F) h) {r : Bool} (hd : tronageref01_In_D d_l_0 x_1 = some r) :
    CallsH Tryd.prog 19 [(.slice l_0.1 l_0.2.1 l_0.2.2), (.int .i64 x_1)] h (Back fun v h' => ∃ ψ : Snap, ∃ y : Bool, Sub φ ψ ∧ v = ((.one (.atom .bool)) : Sh).val y ∧ y = r ∧ St ψ (F) h') := by
  refine calls_of mixed Tryd.func19 ?_
  rw [tronageref01_In_den]
  unfold tronageref01_In_T
  unfold tronageref01_In_D at hd
  have n2_ : l_0.2.1 = List.length d_l_0 := k1_.length
  obtain ⟨g3_, hx4_, hd⟩ := Option.bind_eq_some_iff.1 hd
  refine s_block (fun (y : Int × Bool × Unit) w_ g => ∃ ψ : Snap, Sub φ ψ ∧ Step.next () = g ∧ St ψ (F) w_) (g := g3_) ?_ ?_
  · refine s_forN hx4_ (fun i5_ (y : Int × Bool × Unit) w_ g => ∃ ψ : Snap, Sub φ ψ ∧ y.1 = i5_ ∧ () = g ∧ St ψ (F) w_) ((0 : Int), false, ()) rfl ⟨φ, (Sub.refl _), rfl, rfl, s0⟩ ?_ ?_
    · rintro _ z2 h11_ _ _ ⟨f8_, le9_, rfl, rfl, s10_⟩ he6_ h113_ h214_ hw12_ hb7_
      try dsimp only at he6_ h113_ h214_ hw12_
      refine t_true (by rw [n2_]; exact decide_eq_true h214_) ?_
      obtain ⟨x15_, hx16_, he6_⟩ := Option.bind_eq_some_iff.1 he6_
      obtain ⟨a17_, cs18_, ea19_, hi20_, q21_, cl22_⟩ := (k1_.mono le9_).get hx16_
      refine t_deref _ ea19_ (t_chk hi20_ ?_)
      obtain rfl := q21_
      refine s_load (x := x15_) (cellS_heap (Sub.trans (Sub.refl _) s10_.sub) (cl22_ 0 _ rfl)) rfl ?_
      refine s_cond he6_ rfl (fun hb24_ he6_ => ?_) (fun hb24_ he6_ => ?_)
      · obtain rfl := Option.some.inj he6_
        obtain rfl := hb7_ _ rfl
        try dsimp only at hd
        obtain rfl := Option.some.inj hd
        exact around_ret (meetB_ret (finOf_back ⟨f8_, true, le9_, rfl, rfl, s10_⟩))
      · obtain rfl := Option.some.inj he6_
        exact s_next ((IntKind.wrap .i64 (z2.1 + (1 : Int))), z2.2.1, ()) _ rfl rfl ⟨f8_, le9_, hw12_, rfl, s10_⟩
    · rintro _ z2 h28_ _ ⟨f25_, le26_, rfl, rfl, s27_⟩ hge29_ hr30_
      subst hr30_
      refine t_false (by rw [n2_]; exact decide_eq_false (Int.not_lt.2 hge29_)) ?_
      exact around_brk (meetB_brk (z2.1, z2.2.1, ()) rfl ⟨f25_, le26_, rfl, s27_⟩)
  · rintro z1 h31_ ⟨f32_, le33_, rfl, s34_⟩
    try dsimp only at hd
    obtain rfl := Option.some.inj hd
    exact finOf_back ⟨f32_, false, le33_, rfl, rfl, s34_⟩

noncomputable def tronagelaw12_subset_D (a_0 : List Int) (b_1 : List Int) : Option Bool :=
  (forN (σ := Unit) (β := Bool) (0 : Int) (((List.length a_0) : Nat) : Int) () fun i_z2 z2 =>
    (idx a_0 i_z2).bind fun e25 =>
    (tronageref01_In_D b_1 e25).bind fun t5 =>
    cond (!t5)
    (some (Step.done false))
    (some (Step.next ()))).bind fun e_z1 => match e_z1 with
  | .next z1 =>
    some true
  | .done q44 => some q44
theorem tronagelaw12_subset_sim {φ : Snap} {h : Heap} {F : List Chk} {a_0 : Slc} {d_a_0 : List Int} {b_1 : Slc} {d_b_1 : List Int} (k1_ : Ro.SliceIs (Ro.int .i64) φ a_0 d_a_0) (k3_ : Ro.SliceIs (Ro.int .i64) φ b_1 d_b_1) (s0 : St φ (F) h) {r : Bool} (hd : tronagelaw12_subset_D d_a_0 d_b_1 = some r) :
    CallsH Tryd.prog 20 [(.slice a_0.1 a_0.2.1 a_0.2.2), (.slice b_1.1 b_1.2.1 b_1.2.2)] h (Back fun v h' => ∃ ψ : Snap, ∃ y : Bool, Sub φ ψ ∧ v = ((.one (.atom .bool)) : Sh).val y ∧ y = r ∧ St ψ (F) h') := by
  refine calls_of mixed Tryd.func20 ?_
  rw [tronagelaw12_subset_den]
  unfold tronagelaw12_subset_T
  unfold tronagelaw12_subset_D at hd
  have n2_ : a_0.2.1 = List.length d_a_0 := k1_.length
  have n4_ : b_1.2.1 = List.length d_b_1 := k3_.length
  obtain ⟨g5_, hx6_, hd⟩ := Option.bind_eq_some_iff.1 hd
  refine s_block (fun (y : Int × Bool × Unit) w_ g => ∃ ψ : Snap, Sub φ ψ ∧ Step.next () = g ∧ St ψ (F) w_) (g := g5_) ?_ ?_
  · refine s_forN hx6_ (fun i7_ (y : Int × Bool × Unit) w_ g => ∃ ψ : Snap, Sub φ ψ ∧ y.1 = i7_ ∧ () = g ∧ St ψ (F) w_) ((0 : Int), false, ()) rfl ⟨φ, (Sub.refl _), rfl, rfl, s0⟩ ?_ ?_
    · rintro _ z2 h13_ _ _ ⟨f10_, le11_, rfl, rfl, s12_⟩ he8_ h115_ h216_ hw14_ hb9_
      try dsimp only at he8_ h115_ h216_ hw14_
      refine t_true (by rw [n2_]; exact decide_eq_true h216_) ?_
      obtain ⟨x17_, hx18_, he8_⟩ := Option.bind_eq_some_iff.1 he8_
      obtain ⟨a19_, cs20_, ea21_, hi22_, q23_, cl24_⟩ := (k1_.mono le11_).get hx18_
      refine t_deref _ ea21_ (t_chk hi22_ ?_)
      obtain rfl := q23_
      refine s_load (x := x17_) (cellS_heap (Sub.trans (Sub.refl _) s12_.sub) (cl24_ 0 _ rfl)) rfl ?_
      obtain ⟨r26_, hr27_, he8_⟩ := Option.bind_eq_some_iff.1 he8_
      refine s_call (tronageref01_In_sim (k3_.mono le11_) s12_ hr27_) ?_
      rintro _ h28_ ⟨f29_, t5, le31_, rfl, rfl, s30_⟩
      refine ⟨t5, rfl, ?_⟩
      refine s_cond he8_ rfl (fun hb32_ he8_ => ?_) (fun hb32_ he8_ => ?_)
      · obtain rfl := Option.some.inj he8_
        obtain rfl := hb9_ _ rfl
        try dsimp only at hd
        obtain rfl := Option.some.inj hd
        exact around_ret (meetB_ret (finOf_back ⟨f29_, false, (le11_.trans le31_), rfl, rfl, s30_⟩))
      · obtain rfl := Option.some.inj he8_
        exact s_next ((IntKind.wrap .i64 (z2.1 + (1 : Int))), z2.2.1, ()) _ rfl rfl ⟨f29_, (le11_.trans le31_), hw14_, rfl, s30_⟩
    · rintro _ z2 h36_ _ ⟨f33_, le34_, rfl, rfl, s35_⟩ hge37_ hr38_
      subst hr38_
      refine t_false (by rw [n2_]; exact decide_eq_false (Int.not_lt.2 hge37_)) ?_
      exact around_brk (meetB_brk (z2.1, z2.2.1, ()) rfl ⟨f33_, le34_, rfl, s35_⟩)
  · rintro z1 h39_ ⟨f40_, le41_, rfl, s42_⟩
    try dsimp only at hd
    obtain rfl := Option.some.inj hd
    exact finOf_back ⟨f40_, true, le41_, rfl, rfl, s42_⟩

noncomputable def tronagelaw12_few_D (edges_0 : List (List Int)) (base_1 : List (List Int)) : Option Bool :=
  (cond (decide ((((List.length edges_0) : Nat) : Int) > (25 : Int)))
  (some true)
  (some (decide ((((List.length base_1) : Nat) : Int) > (25 : Int))))).bind fun z1 =>
  cond z1
  (some false)
  ((forN (σ := Unit) (β := Bool) (0 : Int) (((List.length edges_0) : Nat) : Int) () fun i_z3 z3 =>
      (idx edges_0 i_z3).bind fun e32 =>
      cond (decide ((((List.length e32) : Nat) : Int) > (10 : Int)))
      (some (Step.done false))
      (some (Step.next ()))).bind fun e_z2 => match e_z2 with
    | .next z2 =>
      (forN (σ := Unit) (β := Bool) (0 : Int) (((List.length base_1) : Nat) : Int) () fun i_z7 z7 =>
        (idx base_1 i_z7).bind fun e68 =>
        cond (decide ((((List.length e68) : Nat) : Int) > (10 : Int)))
        (some (Step.done false))
        (some (Step.next ()))).bind fun e_z6 => match e_z6 with
      | .next z6 =>
        some true
      | .done q84 => some q84
    | .done q85 => some q85)
theorem tronagelaw12_few_sim {φ : Snap} {h : Heap} {F : List Chk} {edges_0 : Slc} {d_edges_0 : List (List Int)} {base_1 : Slc} {d_base_1 : List (List Int)} (k1_ : Ro.SliceIs (Ro.list (Ro.int .i64)) φ edges_0 d_edges_0) (k3_ : Ro.SliceIs (Ro.list (Ro.int .i64)) φ base_1 d_base_1) (s0 : St φ (F) h) {r : Bool} (hd : tronagelaw12_few_D d_edges_0 d_base_1 = some r) :
    CallsH Tryd.prog 10 [(.slice edges_0.1 edges_0.2.1 edges_0.2.2), (.slice base_1.1 base_1.2.1 base_1.2.2)] h (Back fun v h' => ∃ ψ : Snap, ∃ y : Bool, Sub φ ψ ∧ v = ((.one (.atom .bool)) : Sh).val y ∧ y = r ∧ St ψ (F) h') := by
  refine calls_of mixed Tryd.func10 ?_
  rw [tronagelaw12_few_den]
  unfold tronagelaw12_few_T
  unfold tronagelaw12_few_D at hd
  have n2_ : edges_0.2.1 = List.length d_edges_0 := k1_.length
  have n4_ : base_1.2.1 = List.length d_base_1 := k3_.length
  obtain ⟨g5_, hx6_, hd⟩ := Option.bind_eq_some_iff.1 hd
  refine s_join (fun (y : Bool × Unit) w_ g => ∃ ψ : Snap, Sub φ ψ ∧ y.1 = g ∧ St ψ (F) w_) (g := g5_) ?_ ?_
  · refine s_cond hx6_ (by rw [n2_] <;> rfl) (fun hb7_ hx6_ => ?_) (fun hb7_ hx6_ => ?_)
    · obtain rfl := Option.some.inj hx6_
      exact s_out (true, ()) rfl ⟨φ, (Sub.refl _), rfl, s0⟩
    · obtain rfl := Option.some.inj hx6_
      exact s_out ((decide (((base_1.2.1 : Nat) : Int) > (25 : Int))), ()) rfl ⟨φ, (Sub.refl _), (by rw [n4_]), s0⟩
  · rintro z1 h8_ ⟨f9_, le10_, rfl, s11_⟩
    try dsimp only at hd
    refine s_cond hd rfl (fun hb86_ hd => ?_) (fun hb86_ hd => ?_)
    · obtain rfl := Option.some.inj hd
      exact finOf_back ⟨f9_, false, le10_, rfl, rfl, s11_⟩
    · obtain ⟨g12_, hx13_, hd⟩ := Option.bind_eq_some_iff.1 hd
      refine s_block (fun (y : Int × Bool × Unit) w_ g => ∃ ψ : Snap, Sub f9_ ψ ∧ Step.next () = g ∧ St ψ (F) w_) (g := g12_) ?_ ?_
      · refine s_forN hx13_ (fun i14_ (y : Int × Bool × Unit) w_ g => ∃ ψ : Snap, Sub f9_ ψ ∧ y.1 = i14_ ∧ () = g ∧ St ψ (F) w_) ((0 : Int), false, ()) rfl ⟨f9_, (Sub.refl _), rfl, rfl, s11_⟩ ?_ ?_
        · rintro _ z3 h20_ _ _ ⟨f17_, le18_, rfl, rfl, s19_⟩ he15_ h122_ h223_ hw21_ hb16_
          try dsimp only at he15_ h122_ h223_ hw21_
          refine t_true (by rw [n2_]; exact decide_eq_true h223_) ?_
          obtain ⟨x24_, hx25_, he15_⟩ := Option.bind_eq_some_iff.1 he15_
          obtain ⟨a26_, cs27_, ea28_, hi29_, q30_, cl31_⟩ := (k1_.mono (le10_.trans le18_)).get hx25_
          refine t_deref _ ea28_ (t_chk hi29_ ?_)
          obtain ⟨t33_, rfl, k34_⟩ := q30_
          have n35_ := k34_.length
          refine s_load (x := t33_) (cellS_heap (Sub.trans (Sub.refl _) s19_.sub) (cl31_ 0 _ rfl)) rfl ?_
          refine s_cond he15_ (by rw [n35_] <;> rfl) (fun hb36_ he15_ => ?_) (fun hb36_ he15_ => ?_)
          · obtain rfl := Option.some.inj he15_
            obtain rfl := hb16_ _ rfl
            try dsimp only at hd
            obtain rfl := Option.some.inj hd
            exact around_ret (meetB_ret (finOf_back ⟨f17_, false, (le10_.trans le18_), rfl, rfl, s19_⟩))
          · obtain rfl := Option.some.inj he15_
            exact s_next ((IntKind.wrap .i64 (z3.1 + (1 : Int))), z3.2.1, ()) _ rfl rfl ⟨f17_, le18_, hw21_, rfl, s19_⟩
        · rintro _ z3 h40_ _ ⟨f37_, le38_, rfl, rfl, s39_⟩ hge41_ hr42_
          subst hr42_
          refine t_false (by rw [n2_]; exact decide_eq_false (Int.not_lt.2 hge41_)) ?_
          exact around_brk (meetB_brk (z3.1, z3.2.1, ()) rfl ⟨f37_, le38_, rfl, s39_⟩)
      · rintro z2 h43_ ⟨f44_, le45_, rfl, s46_⟩
        try dsimp only at hd
        obtain ⟨g48_, hx49_, hd⟩ := Option.bind_eq_some_iff.1 hd
        refine s_block (fun (y : Int × Bool × Unit) w_ g => ∃ ψ : Snap, Sub f44_ ψ ∧ Step.next () = g ∧ St ψ (F) w_) (g := g48_) ?_ ?_
        · refine s_forN hx49_ (fun i50_ (y : Int × Bool × Unit) w_ g => ∃ ψ : Snap, Sub f44_ ψ ∧ y.1 = i50_ ∧ () = g ∧ St ψ (F) w_) ((0 : Int), z2.2.1, ()) rfl ⟨f44_, (Sub.refl _), rfl, rfl, s46_⟩ ?_ ?_
          · rintro _ z7 h56_ _ _ ⟨f53_, le54_, rfl, rfl, s55_⟩ he51_ h158_ h259_ hw57_ hb52_
            try dsimp only at he51_ h158_ h259_ hw57_
            refine t_true (by rw [n4_]; exact decide_eq_true h259_) ?_
            obtain ⟨x60_, hx61_, he51_⟩ := Option.bind_eq_some_iff.1 he51_
            obtain ⟨a62_, cs63_, ea64_, hi65_, q66_, cl67_⟩ := (k3_.mono ((le10_.trans le45_).trans le54_)).get hx61_
            refine t_deref _ ea64_ (t_chk hi65_ ?_)
            obtain ⟨t69_, rfl, k70_⟩ := q66_
            have n71_ := k70_.length
            refine s_load (x := t69_) (cellS_heap (Sub.trans (Sub.refl _) s55_.sub) (cl67_ 0 _ rfl)) rfl ?_
            refine s_cond he51_ (by rw [n71_] <;> rfl) (fun hb72_ he51_ => ?_) (fun hb72_ he51_ => ?_)
            · obtain rfl := Option.some.inj he51_
              obtain rfl := hb52_ _ rfl
              try dsimp only at hd
              obtain rfl := Option.some.inj hd
              exact around_ret (meetB_ret (finOf_back ⟨f53_, false, ((le10_.trans le45_).trans le54_), rfl, rfl, s55_⟩))
            · obtain rfl := Option.some.inj he51_
              exact s_next ((IntKind.wrap .i64 (z7.1 + (1 : Int))), z7.2.1, ()) _ rfl rfl ⟨f53_, le54_, hw57_, rfl, s55_⟩
          · rintro _ z7 h76_ _ ⟨f73_, le74_, rfl, rfl, s75_⟩ hge77_ hr78_
            subst hr78_
            refine t_false (by rw [n4_]; exact decide_eq_false (Int.not_lt.2 hge77_)) ?_
            exact around_brk (meetB_brk (z7.1, z7.2.1, ()) rfl ⟨f73_, le74_, rfl, s75_⟩)
        · rintro z6 h79_ ⟨f80_, le81_, rfl, s82_⟩
          try dsimp only at hd
          obtain rfl := Option.some.inj hd
          exact finOf_back ⟨f80_, true, ((le10_.trans le45_).trans le81_), rfl, rfl, s82_⟩

noncomputable def tronageref12_Reach_D (edges_0 : List (List Int)) (n_1 : Int) (at_2 : Int) : Option (List Bool) :=
  (mkRow n_1 false).bind fun t1 =>
  (setI t1 at_2 true).bind fun m21 =>
  (loop (σ := (Bool × List Bool)) (β := List Bool) (true, m21) fun z4 =>
    cond z4.1
    ((loop (σ := (Int × Bool × List Bool)) (β := (Bool × List Bool)) ((0 : Int), false, z4.2) fun z6 =>
        (cond (decide (z6.1 < n_1))
        (some (decide (z6.1 < (((List.length edges_0) : Nat) : Int))))
        (some false)).bind fun z7 =>
        cond z7
        ((loop (σ := (Int × Bool × List Bool)) (β := (Bool × List Bool)) ((0 : Int), z6.2.1, z6.2.2) fun z9 =>
            (idx edges_0 z6.1).bind fun e74 =>
            cond (decide (z9.1 < (((List.length e74) : Nat) : Int)))
            ((idx edges_0 z6.1).bind fun e86 =>
              (idx e86 z9.1).bind fun e98 =>
              ((idx z9.2.2 z6.1).bind fun e109 =>
              cond e109
              (cond (decide (e98 ≥ (0 : Int)))
                (cond (decide (e98 < n_1))
                  ((idx z9.2.2 e98).bind fun e118 =>
                    some (!e118))
                  (some false))
                (some false))
              (some false)).bind fun z16 =>
              (cond z16
              ((setI z9.2.2 e98 true).bind fun m141 =>
                some (true, m141))
              (some (z9.2.1, z9.2.2))).bind fun z21 =>
              some (Step.next ((IntKind.wrap .i64 (z9.1 + (1 : Int))), z21.1, z21.2)))
            (some (Step.done (z9.2.1, z9.2.2)))).bind fun z8 =>
          some (Step.next ((IntKind.wrap .i64 (z6.1 + (1 : Int))), z8.1, z8.2)))
        (some (Step.done (z6.2.1, z6.2.2)))).bind fun z5 =>
      some (Step.next (z5.1, z5.2)))
    (some (Step.done z4.2))).bind fun z3 =>
  some z3
theorem tronageref12_Reach_sim {φ : Snap} {h : Heap} {F : List Chk} {edges_0 : Slc} {d_edges_0 : List (List Int)} {n_1 : Int} {at_2 : Int} (k1_ : Ro.SliceIs (Ro.list (Ro.int .i64)) φ edges_0 d_edges_0) (s0 : St φ (F) h) {r : (List Bool)} (hd : tronageref12_Reach_D d_edges_0 n_1 at_2 = some r) :
    CallsH Tryd.prog 27 [(.slice edges_0.1 edges_0.2.1 edges_0.2.2), (.int .i64 n_1), (.int .i64 at_2)] h (Back fun v h' => ∃ ψ : Snap, ∃ y : Option Addr × Nat × Nat, ∃ l3_ : List Bool, Sub φ ψ ∧ v = ((.one (.atom .slice)) : Sh).val y ∧ l3_ = r ∧ Ro.SliceIs Ro.bool ψ y l3_ ∧ St ψ (F) h') := by
  refine calls_of mixed Tryd.func27 ?_
  rw [tronageref12_Reach_den]
  unfold tronageref12_Reach_T
  unfold tronageref12_Reach_D at hd
  have n2_ : edges_0.2.1 = List.length d_edges_0 := k1_.length
  obtain ⟨y4_, hy5_, hd⟩ := Option.bind_eq_some_iff.1 hd
  refine s_make (r := Ro.bool) (x := false) makeT_42 s0 rfl rfl hy5_ ?_
  intro t1 h6_ s7_
  have n8_ := s7_.rowLen
  obtain ⟨y11_, hy12_, hd⟩ := Option.bind_eq_some_iff.1 hd
  obtain ⟨a16_, ea18_, q17_⟩ := s7_.there hy12_
  refine t_deref _ ea18_ (t_chk q17_ (s_set s7_ hy12_ rfl ea18_ ?_))
  intro h20_ s19_
  have n22_ := s19_.rowLen
  obtain ⟨g23_, hx24_, hd⟩ := Option.bind_eq_some_iff.1 hd
  refine s_block (fun (y : Bool × Unit) w_ g => ∃ ψ : Snap, ∃ l25_ : List Bool, Sub φ ψ ∧ l25_ = g ∧ St ψ (⟨Rep.row 4 Ro.bool, [.slice t1.1 t1.2.1 t1.2.2], l25_⟩ :: F) w_) (g := g23_) ?_ ?_
  · refine s_loop hx24_ (fun (y : Bool × Unit) w_ g => ∃ ψ : Snap, ∃ l26_ : List Bool, Sub φ ψ ∧ (y.1, l26_) = g ∧ St ψ (⟨Rep.row 4 Ro.bool, [.slice t1.1 t1.2.1 t1.2.2], l26_⟩ :: F) w_) (true, ()) rfl ⟨φ, y11_, (Sub.refl _), rfl, s19_⟩ ?_
    · rintro z4 h32_ _ _ ⟨f29_, d33_, le30_, rfl, s31_⟩ he27_ hb28_
      try dsimp only at he27_
      have n34_ := s31_.rowLen
      refine s_cond he27_ rfl (fun hb166_ he27_ => ?_) (fun hb166_ he27_ => ?_)
      · obtain ⟨g35_, hx36_, he27_⟩ := Option.bind_eq_some_iff.1 he27_
        refine s_block (fun (y : Int × Bool × Unit) w_ g => ∃ ψ : Snap, ∃ l37_ : List Bool, Sub f29_ ψ ∧ (y.2.1, l37_) = g ∧ St ψ (⟨Rep.row 4 Ro.bool, [.slice t1.1 t1.2.1 t1.2.2], l37_⟩ :: F) w_) (g := g35_) ?_ ?_
        · refine s_loop hx36_ (fun (y : Int × Bool × Unit) w_ g => ∃ ψ : Snap, ∃ l38_ : List Bool, Sub f29_ ψ ∧ (y.1, y.2.1, l38_) = g ∧ St ψ (⟨Rep.row 4 Ro.bool, [.slice t1.1 t1.2.1 t1.2.2], l38_⟩ :: F) w_) ((0 : Int), false, ()) rfl ⟨f29_, d33_, (Sub.refl _), rfl, s31_⟩ ?_
          · rintro z6 h44_ _ _ ⟨f41_, d45_, le42_, rfl, s43_⟩ he39_ hb40_
            try dsimp only at he39_
            have n46_ := s43_.rowLen
            obtain ⟨g47_, hx48_, he39_⟩ := Option.bind_eq_some_iff.1 he39_
            refine s_join (fun (y : Bool × Unit) w_ g => ∃ ψ : Snap, Sub f41_ ψ ∧ y.1 = g ∧ St ψ (⟨Rep.row 4 Ro.bool, [.slice t1.1 t1.2.1 t1.2.2], d45_⟩ :: F) w_) (g := g47_) ?_ ?_
            · refine s_cond hx48_ rfl (fun hb49_ hx48_ => ?_) (fun hb49_ hx48_ => ?_)
              · obtain rfl := Option.some.inj hx48_
                exact s_out ((decide (z6.1 < ((edges_0.2.1 : Nat) : Int))), ()) rfl ⟨f41_, (Sub.refl _), (by rw [n2_]), s43_⟩
              · obtain rfl := Option.some.inj hx48_
                exact s_out (false, ()) rfl ⟨f41_, (Sub.refl _), rfl, s43_⟩
            · rintro z7 h50_ ⟨f51_, le52_, rfl, s53_⟩
              try dsimp only at he39_
              refine s_cond he39_ rfl (fun hb158_ he39_ => ?_) (fun hb158_ he39_ => ?_)
              · obtain ⟨g54_, hx55_, he39_⟩ := Option.bind_eq_some_iff.1 he39_
                refine s_block (fun (y : Int × Bool × Unit) w_ g => ∃ ψ : Snap, ∃ l56_ : List Bool, Sub f51_ ψ ∧ (y.2.1, l56_) = g ∧ St ψ (⟨Rep.row 4 Ro.bool, [.slice t1.1 t1.2.1 t1.2.2], l56_⟩ :: F) w_) (g := g54_) ?_ ?_
                · refine s_loop hx55_ (fun (y : Int × Bool × Unit) w_ g => ∃ ψ : Snap, ∃ l57_ : List Bool, Sub f51_ ψ ∧ (y.1, y.2.1, l57_) = g ∧ St ψ (⟨Rep.row 4 Ro.bool, [.slice t1.1 t1.2.1 t1.2.2], l57_⟩ :: F) w_) ((0 : Int), z6.2.1, ()) rfl ⟨f51_, d45_, (Sub.refl _), rfl, s53_⟩ ?_
                  · rintro z9 h63_ _ _ ⟨f60_, d64_, le61_, rfl, s62_⟩ he58_ hb59_
                    try dsimp only at he58_
                    have n65_ := s62_.rowLen
                    obtain ⟨x66_, hx67_, he58_⟩ := Option.bind_eq_some_iff.1 he58_
                    obtain ⟨a68_, cs69_, ea70_, hi71_, q72_, cl73_⟩ := (k1_.mono (((le30_.trans le42_).trans le52_).trans le61_)).get hx67_
                    refine t_deref _ ea70_ (t_chk hi71_ ?_)
                    obtain ⟨t75_, rfl, k76_⟩ := q72_
                    have n77_ := k76_.length
                    refine s_load (x := t75_) (cellS_heap (Sub.trans (Sub.refl _) s62_.sub) (cl73_ 0 _ rfl)) rfl ?_
                    refine s_cond he58_ (by rw [n77_] <;> rfl) (fun hb150_ he58_ => ?_) (fun hb150_ he58_ => ?_)
                    · obtain ⟨x78_, hx79_, he58_⟩ := Option.bind_eq_some_iff.1 he58_
                      obtain ⟨a80_, cs81_, ea82_, hi83_, q84_, cl85_⟩ := (k1_.mono (((le30_.trans le42_).trans le52_).trans le61_)).get hx79_
                      refine t_deref _ ea82_ (t_chk hi83_ ?_)
                      obtain ⟨t87_, rfl, k88_⟩ := q84_
                      have n89_ := k88_.length
                      refine s_load (x := t87_) (cellS_heap (Sub.trans (Sub.refl _) s62_.sub) (cl85_ 0 _ rfl)) rfl ?_
                      obtain ⟨x90_, hx91_, he58_⟩ := Option.bind_eq_some_iff.1 he58_
                      obtain ⟨a92_, cs93_, ea94_, hi95_, q96_, cl97_⟩ := k88_.get hx91_
                      refine t_deref _ ea94_ (t_chk hi95_ ?_)
                      obtain rfl := q96_
                      refine s_load (x := x90_) (cellS_heap (Sub.trans (Sub.refl _) s62_.sub) (cl97_ 0 _ rfl)) rfl ?_
                      obtain ⟨g99_, hx100_, he58_⟩ := Option.bind_eq_some_iff.1 he58_
                      refine s_join (fun (y : Bool × Unit) w_ g => ∃ ψ : Snap, Sub f60_ ψ ∧ y.1 = g ∧ St ψ (⟨Rep.row 4 Ro.bool, [.slice t1.1 t1.2.1 t1.2.2], d64_⟩ :: F) w_) (g := g99_) ?_ ?_
                      · obtain ⟨x101_, hx102_, hx100_⟩ := Option.bind_eq_some_iff.1 hx100_
                        obtain ⟨a103_, cs104_, ea105_, hi106_, q107_, cl108_⟩ := (s62_).get hx102_
                        refine t_deref _ ea105_ (t_chk hi106_ ?_)
                        obtain rfl := q107_
                        refine s_load (x := x101_) (cl108_ 0 _ rfl) rfl ?_
                        refine s_cond hx100_ rfl (fun hb121_ hx100_ => ?_) (fun hb121_ hx100_ => ?_)
                        · refine s_cond hx100_ rfl (fun hb120_ hx100_ => ?_) (fun hb120_ hx100_ => ?_)
                          · refine s_cond hx100_ rfl (fun hb119_ hx100_ => ?_) (fun hb119_ hx100_ => ?_)
                            · obtain ⟨x110_, hx111_, hx100_⟩ := Option.bind_eq_some_iff.1 hx100_
                              obtain ⟨a112_, cs113_, ea114_, hi115_, q116_, cl117_⟩ := (s62_).get hx111_
                              refine t_deref _ ea114_ (t_chk hi115_ ?_)
                              obtain rfl := q116_
                              refine s_load (x := x110_) (cl117_ 0 _ rfl) rfl ?_
                              obtain rfl := Option.some.inj hx100_
                              exact s_out ((!x110_), ()) rfl ⟨f60_, (Sub.refl _), rfl, s62_⟩
                            · obtain rfl := Option.some.inj hx100_
                              exact s_out (false, ()) rfl ⟨f60_, (Sub.refl _), rfl, s62_⟩
                          · obtain rfl := Option.some.inj hx100_
                            exact s_out (false, ()) rfl ⟨f60_, (Sub.refl _), rfl, s62_⟩
                        · obtain rfl := Option.some.inj hx100_
                          exact s_out (false, ()) rfl ⟨f60_, (Sub.refl _), rfl, s62_⟩
                      · rintro z16 h122_ ⟨f123_, le124_, rfl, s125_⟩
                        try dsimp only at he58_
                        obtain ⟨g126_, hx127_, he58_⟩ := Option.bind_eq_some_iff.1 he58_
                        refine s_join (fun (y : Bool × Unit) w_ g => ∃ ψ : Snap, ∃ l128_ : List Bool, Sub f123_ ψ ∧ (y.1, l128_) = g ∧ St ψ (⟨Rep.row 4 Ro.bool, [.slice t1.1 t1.2.1 t1.2.2], l128_⟩ :: F) w_) (g := g126_) ?_ ?_
                        · refine s_cond hx127_ rfl (fun hb143_ hx127_ => ?_) (fun hb143_ hx127_ => ?_)
                          · obtain ⟨y131_, hy132_, hx127_⟩ := Option.bind_eq_some_iff.1 hx127_
                            obtain ⟨a136_, ea138_, q137_⟩ := s125_.there hy132_
                            refine t_deref _ ea138_ (t_chk q137_ (s_set s125_ hy132_ rfl ea138_ ?_))
                            intro h140_ s139_
                            have n142_ := s139_.rowLen
                            obtain rfl := Option.some.inj hx127_
                            exact s_out (true, ()) rfl ⟨f123_, y131_, (Sub.refl _), rfl, s139_⟩
                          · obtain rfl := Option.some.inj hx127_
                            exact s_out (z9.2.1, ()) rfl ⟨f123_, d64_, (Sub.refl _), rfl, s125_⟩
                        · rintro z21 h144_ ⟨f145_, d148_, le146_, rfl, s147_⟩
                          try dsimp only at he58_
                          have n149_ := s147_.rowLen
                          obtain rfl := Option.some.inj he58_
                          exact s_next ((IntKind.wrap .i64 (z9.1 + (1 : Int))), z21.1, ()) _ rfl rfl ⟨f145_, d148_, ((le61_.trans le124_).trans le146_), rfl, s147_⟩
                    · obtain rfl := Option.some.inj he58_
                      obtain rfl := hb59_ _ rfl
                      exact around_brk (meetB_brk (z9.1, z9.2.1, ()) rfl ⟨f60_, d64_, le61_, rfl, s62_⟩)
                · rintro z8 h151_ ⟨f152_, d155_, le153_, rfl, s154_⟩
                  try dsimp only at he39_
                  have n156_ := s154_.rowLen
                  obtain rfl := Option.some.inj he39_
                  exact s_next ((IntKind.wrap .i64 (z6.1 + (1 : Int))), z8.2.1, ()) _ rfl rfl ⟨f152_, d155_, ((le42_.trans le52_).trans le153_), rfl, s154_⟩
              · obtain rfl := Option.some.inj he39_
                obtain rfl := hb40_ _ rfl
                exact around_brk (meetB_brk (z6.1, z6.2.1, ()) rfl ⟨f51_, d45_, (le42_.trans le52_), rfl, s53_⟩)
        · rintro z5 h159_ ⟨f160_, d163_, le161_, rfl, s162_⟩
          try dsimp only at he27_
          have n164_ := s162_.rowLen
          obtain rfl := Option.some.inj he27_
          exact s_next (z5.2.1, ()) _ rfl rfl ⟨f160_, d163_, (le30_.trans le161_), rfl, s162_⟩
      · obtain rfl := Option.some.inj he27_
        obtain rfl := hb28_ _ rfl
        exact around_brk (meetB_brk (z4.1, ()) rfl ⟨f29_, d33_, le30_, rfl, s31_⟩)
  · rintro z3 h167_ ⟨f168_, d171_, le169_, rfl, s170_⟩
    try dsimp only at hd
    have n172_ := s170_.rowLen
    obtain ⟨f175_, le176_, k177_, s178_⟩ := St.freezeRow (t := t1) s170_
    obtain rfl := Option.some.inj hd
    exact finOf_back ⟨f175_, t1, d171_, (le169_.trans le176_), rfl, rfl, k177_, s178_⟩

noncomputable def tronageref12_Solve_D (edges_0 : List (List Int)) (base_1 : List (List Int)) (at_2 : Int) (wide_3 : Int) : Option (List Int) :=
  (tronageref12_Reach_D edges_0 (((List.length base_1) : Nat) : Int) at_2).bind fun t1 =>
  (mkRow (if wide_3 > (0 : Int) then wide_3 else (0 : Int)) false).bind fun t2 =>
  (forS (σ := List Bool) (0 : Int) (((List.length base_1) : Nat) : Int) t2 fun i_z4 z4 =>
    (loop (σ := (Int × List Bool)) (β := List Bool) ((0 : Int), z4) fun z6 =>
      (idx base_1 i_z4).bind fun e56 =>
      cond (decide (z6.1 < (((List.length e56) : Nat) : Int)))
      (((idx t1 i_z4).bind fun e70 =>
        cond e70
        ((idx base_1 i_z4).bind fun e79 =>
          (idx e79 z6.1).bind fun e91 =>
          cond (decide (e91 ≥ (0 : Int)))
          ((idx base_1 i_z4).bind fun e100 =>
            (idx e100 z6.1).bind fun e112 =>
            some (decide (e112 < wide_3)))
          (some false))
        (some false)).bind fun z9 =>
        (cond z9
        ((idx base_1 i_z4).bind fun e130 =>
          (idx e130 z6.1).bind fun e142 =>
          (setI z6.2 e142 true).bind fun m155 =>
          some m155)
        (some z6.2)).bind fun z20 =>
        some (Step.next ((IntKind.wrap .i64 (z6.1 + (1 : Int))), z20)))
      (some (Step.done z6.2))).bind fun z5 =>
    some z5).bind fun z3 =>
  (forS (σ := List Int) (0 : Int) wide_3 ([] : List Int) fun i_z27 z27 =>
    (idx z3 i_z27).bind fun e214 =>
    (cond e214
    ((app z27 ([i_z27] : List Int)).bind fun t32 =>
      some t32)
    (some z27)).bind fun z30 =>
    some z30).bind fun z26 =>
  some z26
theorem tronageref12_Solve_sim {φ : Snap} {h : Heap} {F : List Chk} {edges_0 : Slc} {d_edges_0 : List (List Int)} {base_1 : Slc} {d_base_1 : List (List Int)} {at_2 : Int} {wide_3 : Int} (k1_ : Ro.SliceIs (Ro.list (Ro.int .i64)) φ edges_0 d_edges_0) (k3_ : Ro.SliceIs (Ro.list (Ro.int .i64)) φ base_1 d_base_1) (s0 : St φ (F) h) {r : (List Int)} (hd : tronageref12_Solve_D d_edges_0 d_base_1 at_2 wide_3 = some r) :
    CallsH Tryd.prog 13 [(.slice edges_0.1 edges_0.2.1 edges_0.2.2), (.slice base_1.1 base_1.2.1 base_1.2.2), (.int .i64 at_2), (.int .i64 wide_3)] h (Back fun v h' => ∃ ψ : Snap, ∃ y : Option Addr × Nat × Nat, ∃ l5_ : List Int, Sub φ ψ ∧ v = ((.one (.atom .slice)) : Sh).val y ∧ l5_ = r ∧ Ro.SliceIs (Ro.int .i64) ψ y l5_ ∧ St ψ (F) h') := by
  refine calls_of mixed Tryd.func13 ?_
  rw [tronageref12_Solve_den]
  unfold tronageref12_Solve_T
  unfold tronageref12_Solve_D at hd
  have n2_ : edges_0.2.1 = List.length d_edges_0 := k1_.length
  have n4_ : base_1.2.1 = List.length d_base_1 := k3_.length
  obtain ⟨r6_, hr7_, hd⟩ := Option.bind_eq_some_iff.1 hd
  rw [← n4_] at hr7_
  refine s_call (tronageref12_Reach_sim k1_ s0 hr7_) ?_
  rintro _ h8_ ⟨f9_, t1, d12_, le11_, rfl, rfl, k14_, s10_⟩
  refine ⟨t1, rfl, ?_⟩
  have n13_ := k14_.length
  obtain ⟨y15_, hy16_, hd⟩ := Option.bind_eq_some_iff.1 hd
  refine s_make (r := Ro.bool) (x := false) makeT_42 s10_ rfl rfl hy16_ ?_
  intro t2 h17_ s18_
  have n19_ := s18_.rowLen
  obtain ⟨g20_, hx21_, hd⟩ := Option.bind_eq_some_iff.1 hd
  refine s_block (fun (y : Int × Unit) w_ g => ∃ ψ : Snap, ∃ l22_ : List Bool, Sub f9_ ψ ∧ l22_ = g ∧ St ψ (⟨Rep.row 4 Ro.bool, [.slice t2.1 t2.2.1 t2.2.2], l22_⟩ :: F) w_) (g := g20_) ?_ ?_
  · refine s_forS hx21_ (fun i24_ (y : Int × Unit) w_ g => ∃ ψ : Snap, ∃ l23_ : List Bool, Sub f9_ ψ ∧ y.1 = i24_ ∧ l23_ = g ∧ St ψ (⟨Rep.row 4 Ro.bool, [.slice t2.1 t2.2.1 t2.2.2], l23_⟩ :: F) w_) ((0 : Int), ()) rfl ⟨f9_, y15_, (Sub.refl _), rfl, rfl, s18_⟩ ?_ ?_
    · rintro _ z4 h30_ _ _ ⟨f27_, d31_, le28_, rfl, rfl, s29_⟩ he25_ h134_ h235_ hw33_
      try dsimp only at he25_ h134_ h235_ hw33_
      have n32_ := s29_.rowLen
      refine t_true (by rw [n4_]; exact decide_eq_true h235_) ?_
      obtain ⟨g36_, hx37_, he25_⟩ := Option.bind_eq_some_iff.1 he25_
      refine s_block (fun (y : Int × Unit) w_ g => ∃ ψ : Snap, ∃ l38_ : List Bool, Sub f27_ ψ ∧ l38_ = g ∧ St ψ (⟨Rep.row 4 Ro.bool, [.slice t2.1 t2.2.1 t2.2.2], l38_⟩ :: F) w_) (g := g36_) ?_ ?_
      · refine s_loop hx37_ (fun (y : Int × Unit) w_ g => ∃ ψ : Snap, ∃ l39_ : List Bool, Sub f27_ ψ ∧ (y.1, l39_) = g ∧ St ψ (⟨Rep.row 4 Ro.bool, [.slice t2.1 t2.2.1 t2.2.2], l39_⟩ :: F) w_) ((0 : Int), ()) rfl ⟨f27_, d31_, (Sub.refl _), rfl, s29_⟩ ?_
        · rintro z6 h45_ _ _ ⟨f42_, d46_, le43_, rfl, s44_⟩ he40_ hb41_
          try dsimp only at he40_
          have n47_ := s44_.rowLen
          obtain ⟨x48_, hx49_, he40_⟩ := Option.bind_eq_some_iff.1 he40_
          obtain ⟨a50_, cs51_, ea52_, hi53_, q54_, cl55_⟩ := (k3_.mono ((le11_.trans le28_).trans le43_)).get hx49_
          refine t_deref _ ea52_ (t_chk hi53_ ?_)
          obtain ⟨t57_, rfl, k58_⟩ := q54_
          have n59_ := k58_.length
          refine s_load (x := t57_) (cellS_heap (Sub.trans (Sub.refl _) s44_.sub) (cl55_ 0 _ rfl)) rfl ?_
          refine s_cond he40_ (by rw [n59_] <;> rfl) (fun hb164_ he40_ => ?_) (fun hb164_ he40_ => ?_)
          · obtain ⟨g60_, hx61_, he40_⟩ := Option.bind_eq_some_iff.1 he40_
            refine s_join (fun (y : Bool × Unit) w_ g => ∃ ψ : Snap, Sub f42_ ψ ∧ y.1 = g ∧ St ψ (⟨Rep.row 4 Ro.bool, [.slice t2.1 t2.2.1 t2.2.2], d46_⟩ :: F) w_) (g := g60_) ?_ ?_
            · obtain ⟨x62_, hx63_, hx61_⟩ := Option.bind_eq_some_iff.1 hx61_
              obtain ⟨a64_, cs65_, ea66_, hi67_, q68_, cl69_⟩ := (k14_.mono (le28_.trans le43_)).get hx63_
              refine t_deref _ ea66_ (t_chk hi67_ ?_)
              obtain rfl := q68_
              refine s_load (x := x62_) (cellS_heap (Sub.trans (Sub.refl _) s44_.sub) (cl69_ 0 _ rfl)) rfl ?_
              refine s_cond hx61_ rfl (fun hb114_ hx61_ => ?_) (fun hb114_ hx61_ => ?_)
              · obtain ⟨x71_, hx72_, hx61_⟩ := Option.bind_eq_some_iff.1 hx61_
                obtain ⟨a73_, cs74_, ea75_, hi76_, q77_, cl78_⟩ := (k3_.mono ((le11_.trans le28_).trans le43_)).get hx72_
                refine t_deref _ ea75_ (t_chk hi76_ ?_)
                obtain ⟨t80_, rfl, k81_⟩ := q77_
                have n82_ := k81_.length
                refine s_load (x := t80_) (cellS_heap (Sub.trans (Sub.refl _) s44_.sub) (cl78_ 0 _ rfl)) rfl ?_
                obtain ⟨x83_, hx84_, hx61_⟩ := Option.bind_eq_some_iff.1 hx61_
                obtain ⟨a85_, cs86_, ea87_, hi88_, q89_, cl90_⟩ := k81_.get hx84_
                refine t_deref _ ea87_ (t_chk hi88_ ?_)
                obtain rfl := q89_
                refine s_load (x := x83_) (cellS_heap (Sub.trans (Sub.refl _) s44_.sub) (cl90_ 0 _ rfl)) rfl ?_
                refine s_cond hx61_ rfl (fun hb113_ hx61_ => ?_) (fun hb113_ hx61_ => ?_)
                · obtain ⟨x92_, hx93_, hx61_⟩ := Option.bind_eq_some_iff.1 hx61_
                  obtain ⟨a94_, cs95_, ea96_, hi97_, q98_, cl99_⟩ := (k3_.mono ((le11_.trans le28_).trans le43_)).get hx93_
                  refine t_deref _ ea96_ (t_chk hi97_ ?_)
                  obtain ⟨t101_, rfl, k102_⟩ := q98_
                  have n103_ := k102_.length
                  refine s_load (x := t101_) (cellS_heap (Sub.trans (Sub.refl _) s44_.sub) (cl99_ 0 _ rfl)) rfl ?_
                  obtain ⟨x104_, hx105_, hx61_⟩ := Option.bind_eq_some_iff.1 hx61_
                  obtain ⟨a106_, cs107_, ea108_, hi109_, q110_, cl111_⟩ := k102_.get hx105_
                  refine t_deref _ ea108_ (t_chk hi109_ ?_)
                  obtain rfl := q110_
                  refine s_load (x := x104_) (cellS_heap (Sub.trans (Sub.refl _) s44_.sub) (cl111_ 0 _ rfl)) rfl ?_
                  obtain rfl := Option.some.inj hx61_
                  exact s_out ((decide (x104_ < wide_3)), ()) rfl ⟨f42_, (Sub.refl _), rfl, s44_⟩
                · obtain rfl := Option.some.inj hx61_
                  exact s_out (false, ()) rfl ⟨f42_, (Sub.refl _), rfl, s44_⟩
              · obtain rfl := Option.some.inj hx61_
                exact s_out (false, ()) rfl ⟨f42_, (Sub.refl _), rfl, s44_⟩
            · rintro z9 h115_ ⟨f116_, le117_, rfl, s118_⟩
              try dsimp only at he40_
              obtain ⟨g119_, hx120_, he40_⟩ := Option.bind_eq_some_iff.1 he40_
              refine s_join (fun (y : Unit) w_ g => ∃ ψ : Snap, ∃ l121_ : List Bool, Sub f116_ ψ ∧ l121_ = g ∧ St ψ (⟨Rep.row 4 Ro.bool, [.slice t2.1 t2.2.1 t2.2.2], l121_⟩ :: F) w_) (g := g119_) ?_ ?_
              · refine s_cond hx120_ rfl (fun hb157_ hx120_ => ?_) (fun hb157_ hx120_ => ?_)
                · obtain ⟨x122_, hx123_, hx120_⟩ := Option.bind_eq_some_iff.1 hx120_
                  obtain ⟨a124_, cs125_, ea126_, hi127_, q128_, cl129_⟩ := (k3_.mono (((le11_.trans le28_).trans le43_).trans le117_)).get hx123_
                  refine t_deref _ ea126_ (t_chk hi127_ ?_)
                  obtain ⟨t131_, rfl, k132_⟩ := q128_
                  have n133_ := k132_.length
                  refine s_load (x := t131_) (cellS_heap (Sub.trans (Sub.refl _) s118_.sub) (cl129_ 0 _ rfl)) rfl ?_
                  obtain ⟨x134_, hx135_, hx120_⟩ := Option.bind_eq_some_iff.1 hx120_
                  obtain ⟨a136_, cs137_, ea138_, hi139_, q140_, cl141_⟩ := k132_.get hx135_
                  refine t_deref _ ea138_ (t_chk hi139_ ?_)
                  obtain rfl := q140_
                  refine s_load (x := x134_) (cellS_heap (Sub.trans (Sub.refl _) s118_.sub) (cl141_ 0 _ rfl)) rfl ?_
                  obtain ⟨y145_, hy146_, hx120_⟩ := Option.bind_eq_some_iff.1 hx120_
                  obtain ⟨a150_, ea152_, q151_⟩ := s118_.there hy146_
                  refine t_deref _ ea152_ (t_chk q151_ (s_set s118_ hy146_ rfl ea152_ ?_))
                  intro h154_ s153_
                  have n156_ := s153_.rowLen
                  obtain rfl := Option.some.inj hx120_
                  exact s_out (()) rfl ⟨f116_, y145_, (Sub.refl _), rfl, s153_⟩
                · obtain rfl := Option.some.inj hx120_
                  exact s_out (()) rfl ⟨f116_, d46_, (Sub.refl _), rfl, s118_⟩
              · rintro z20 h158_ ⟨f159_, d162_, le160_, rfl, s161_⟩
                try dsimp only at he40_
                have n163_ := s161_.rowLen
                obtain rfl := Option.some.inj he40_
                exact s_next ((IntKind.wrap .i64 (z6.1 + (1 : Int))), ()) _ rfl rfl ⟨f159_, d162_, ((le43_.trans le117_).trans le160_), rfl, s161_⟩
          · obtain rfl := Option.some.inj he40_
            obtain rfl := hb41_ _ rfl
            exact around_brk (meetB_brk (z6.1, ()) rfl ⟨f42_, d46_, le43_, rfl, s44_⟩)
      · rintro z5 h165_ ⟨f166_, d169_, le167_, rfl, s168_⟩
        try dsimp only at he25_
        have n170_ := s168_.rowLen
        obtain rfl := Option.some.inj he25_
        exact s_next ((IntKind.wrap .i64 (z4.1 + (1 : Int))), ()) _ rfl rfl ⟨f166_, d169_, (le28_.trans le167_), hw33_, rfl, s168_⟩
    · rintro _ z4 h175_ ⟨f172_, d176_, le173_, rfl, rfl, s174_⟩ hge178_
      have n177_ := s174_.rowLen
      refine t_false (by rw [n4_]; exact decide_eq_false (Int.not_lt.2 hge178_)) ?_
      exact around_brk (meetB_brk (z4.1, ()) rfl ⟨f172_, d176_, le173_, rfl, s174_⟩)
  · rintro z3 h180_ ⟨f181_, d184_, le182_, rfl, s183_⟩
    try dsimp only at hd
    have n185_ := s183_.rowLen
    have s189_ := s183_.nil 3 (Ro.int .i64)
    have s190_ := s189_.at1
    have s191_ := s190_.at1
    obtain ⟨g187_, hx188_, hd⟩ := Option.bind_eq_some_iff.1 hd
    refine s_block (fun (y : Int × (Option Addr × Nat × Nat) × Unit) w_ g => ∃ ψ : Snap, ∃ l192_ : List Int, Sub f181_ ψ ∧ l192_ = g ∧ St ψ (⟨Rep.row 3 (Ro.int .i64), [.slice y.2.1.1 y.2.1.2.1 y.2.1.2.2], l192_⟩ :: ⟨Rep.row 4 Ro.bool, [.slice t2.1 t2.2.1 t2.2.2], d184_⟩ :: F) w_) (g := g187_) ?_ ?_
    · refine s_forS hx188_ (fun i194_ (y : Int × (Option Addr × Nat × Nat) × Unit) w_ g => ∃ ψ : Snap, ∃ l193_ : List Int, Sub f181_ ψ ∧ y.1 = i194_ ∧ l193_ = g ∧ St ψ (⟨Rep.row 3 (Ro.int .i64), [.slice y.2.1.1 y.2.1.2.1 y.2.1.2.2], l193_⟩ :: ⟨Rep.row 4 Ro.bool, [.slice t2.1 t2.2.1 t2.2.2], d184_⟩ :: F) w_) ((0 : Int), ((none, 0, 0) : Slc), ()) rfl ⟨f181_, ([] : List Int), (Sub.refl _), rfl, rfl, s191_⟩ ?_ ?_
      · rintro _ z27 h200_ _ _ ⟨f197_, d201_, le198_, rfl, rfl, s199_⟩ he195_ h1204_ h2205_ hw203_
        try dsimp only at he195_ h1204_ h2205_ hw203_
        have n202_ := s199_.rowLen
        refine t_true (by exact decide_eq_true h2205_) ?_
        obtain ⟨x206_, hx207_, he195_⟩ := Option.bind_eq_some_iff.1 he195_
        obtain ⟨a208_, cs209_, ea210_, hi211_, q212_, cl213_⟩ := (s199_.at1).get hx207_
        refine t_deref _ ea210_ (t_chk hi211_ ?_)
        obtain rfl := q212_
        refine s_load (x := x206_) (cl213_ 0 _ rfl) rfl ?_
        obtain ⟨g215_, hx216_, he195_⟩ := Option.bind_eq_some_iff.1 he195_
        refine s_join (fun (y : (Option Addr × Nat × Nat) × Unit) w_ g => ∃ ψ : Snap, ∃ l217_ : List Int, Sub f197_ ψ ∧ l217_ = g ∧ St ψ (⟨Rep.row 3 (Ro.int .i64), [.slice y.1.1 y.1.2.1 y.1.2.2], l217_⟩ :: ⟨Rep.row 4 Ro.bool, [.slice t2.1 t2.2.1 t2.2.2], d184_⟩ :: F) w_) (g := g215_) ?_ ?_
        · refine s_cond hx216_ rfl (fun hb235_ hx216_ => ?_) (fun hb235_ hx216_ => ?_)
          · refine s_new (vs := [.int .i64 z27.1]) s199_ ?_
            intro r31 h219_ s218_
            have cw220_ := St.cells s218_
            have s222_ := s218_.tail
            obtain ⟨y224_, hy225_, hx216_⟩ := Option.bind_eq_some_iff.1 hx216_
            refine s_append (r := (Ro.int .i64)) (ms := ([z27.1] : List Int)) appT_28_28 s222_ rfl cw220_ (.cons (a := [_]) rfl .nil) rfl hy225_ ?_
            intro t32 h226_ s227_
            have n228_ := s227_.rowLen
            have s230_ := s227_.at1
            have s231_ := s230_.at1
            obtain rfl := Option.some.inj hx216_
            exact s_out (t32, ()) rfl ⟨f197_, y224_, (Sub.refl _), rfl, s231_⟩
          · have s233_ := s199_.at1
            have s234_ := s233_.at1
            obtain rfl := Option.some.inj hx216_
            exact s_out (z27.2.1, ()) rfl ⟨f197_, d201_, (Sub.refl _), rfl, s234_⟩
        · rintro z30 h236_ ⟨f237_, d240_, le238_, rfl, s239_⟩
          try dsimp only at he195_
          have n241_ := s239_.rowLen
          have s243_ := s239_.at1
          have s244_ := s243_.at1
          obtain rfl := Option.some.inj he195_
          exact s_next ((IntKind.wrap .i64 (z27.1 + (1 : Int))), z30.1, ()) _ rfl rfl ⟨f237_, d240_, (le198_.trans le238_), hw203_, rfl, s244_⟩
      · rintro _ z27 h248_ ⟨f245_, d249_, le246_, rfl, rfl, s247_⟩ hge251_
        have n250_ := s247_.rowLen
        refine t_false (by exact decide_eq_false (Int.not_lt.2 hge251_)) ?_
        have s254_ := s247_.at1
        have s255_ := s254_.at1
        exact around_brk (meetB_brk (z27.1, z27.2.1, ()) rfl ⟨f245_, d249_, le246_, rfl, s255_⟩)
    · rintro z26 h256_ ⟨f257_, d260_, le258_, rfl, s259_⟩
      try dsimp only at hd
      have n261_ := s259_.rowLen
      obtain ⟨f264_, le265_, k266_, s267_⟩ := St.freezeRow (t := z26.2.1) s259_
      obtain rfl := Option.some.inj hd
      have s268_ := s267_.tail
      exact finOf_back ⟨f264_, z26.2.1, d260_, (((le11_.trans le182_).trans le258_).trans le265_), rfl, rfl, k266_, s268_⟩

noncomputable def tronageref12_Parts_D (edges_0 : List (List Int)) : Option (List (List Int)) :=
  (forS (σ := List (List Bool)) (0 : Int) (((List.length edges_0) : Nat) : Int) ([] : List (List Bool)) fun i_z2 z2 =>
    (tronageref12_Reach_D edges_0 (((List.length edges_0) : Nat) : Int) i_z2).bind fun t3 =>
    (app z2 ([t3] : List (List Bool))).bind fun t5 =>
    some t5).bind fun z1 =>
  (mkRow (((List.length edges_0) : Nat) : Int) false).bind fun t6 =>
  (forS (σ := (List (List Int) × List Bool)) (0 : Int) (((List.length edges_0) : Nat) : Int) (([] : List (List Int)), t6) fun i_z8 z8 =>
    ((idx z8.2 i_z8).bind fun e99 =>
    cond e99
    (some (z8.1, z8.2))
    ((forS (σ := (List Int × List Bool)) (0 : Int) (((List.length edges_0) : Nat) : Int) (([] : List Int), z8.2) fun i_z13 z13 =>
        ((idx z1 i_z8).bind fun e139 =>
        (idx e139 i_z13).bind fun e151 =>
        cond e151
        ((idx z1 i_z13).bind fun e160 =>
          (idx e160 i_z8).bind fun e172 =>
          some e172)
        (some false)).bind fun z14 =>
        (cond z14
        ((app z13.1 ([i_z13] : List Int)).bind fun t25 =>
          (setI z13.2 i_z13 true).bind fun m213 =>
          some (t25, m213))
        (some (z13.1, z13.2))).bind fun z23 =>
        some (z23.1, z23.2)).bind fun z12 =>
      (app z8.1 ([z12.1] : List (List Int))).bind fun t28 =>
      some (t28, z12.2))).bind fun z9 =>
    some (z9.1, z9.2)).bind fun z7 =>
  some z7.1
theorem tronageref12_Parts_sim {φ : Snap} {h : Heap} {F : List Chk} {edges_0 : Slc} {d_edges_0 : List (List Int)} (k1_ : Ro.SliceIs (Ro.list (Ro.int .i64)) φ edges_0 d_edges_0) (s0 : St φ (F) h) {r : (List (List Int))} (hd : tronageref12_Parts_D d_edges_0 = some r) :
    CallsH Tryd.prog 17 [(.slice edges_0.1 edges_0.2.1 edges_0.2.2)] h (Back fun v h' => ∃ ψ : Snap, ∃ y : Option Addr × Nat × Nat, ∃ l3_ : List (List Int), Sub φ ψ ∧ v = ((.one (.atom .slice)) : Sh).val y ∧ l3_ = r ∧ Ro.SliceIs (Ro.list (Ro.int .i64)) ψ y l3_ ∧ St ψ (F) h') := by
  refine calls_of mixed Tryd.func17 ?_
  rw [tronageref12_Parts_den]
  unfold tronageref12_Parts_T
  unfold tronageref12_Parts_D at hd
  have n2_ : edges_0.2.1 = List.length d_edges_0 := k1_.length
  have s6_ := s0.nil 42 (Ro.list Ro.bool)
  obtain ⟨g4_, hx5_, hd⟩ := Option.bind_eq_some_iff.1 hd
  refine s_block (fun (y : Int × (Option Addr × Nat × Nat) × Unit) w_ g => ∃ ψ : Snap, ∃ l7_ : List (List Bool), Sub φ ψ ∧ l7_ = g ∧ St ψ (⟨Rep.row 42 (Ro.list Ro.bool), [.slice y.2.1.1 y.2.1.2.1 y.2.1.2.2], l7_⟩ :: F) w_) (g := g4_) ?_ ?_
  · refine s_forS hx5_ (fun i9_ (y : Int × (Option Addr × Nat × Nat) × Unit) w_ g => ∃ ψ : Snap, ∃ l8_ : List (List Bool), Sub φ ψ ∧ y.1 = i9_ ∧ l8_ = g ∧ St ψ (⟨Rep.row 42 (Ro.list Ro.bool), [.slice y.2.1.1 y.2.1.2.1 y.2.1.2.2], l8_⟩ :: F) w_) ((0 : Int), ((none, 0, 0) : Slc), ()) rfl ⟨φ, ([] : List (List Bool)), (Sub.refl _), rfl, rfl, s6_⟩ ?_ ?_
    · rintro _ z2 h15_ _ _ ⟨f12_, d16_, le13_, rfl, rfl, s14_⟩ he10_ h119_ h220_ hw18_
      try dsimp only at he10_ h119_ h220_ hw18_
      have n17_ := s14_.rowLen
      refine t_true (by rw [n2_]; exact decide_eq_true h220_) ?_
      obtain ⟨r21_, hr22_, he10_⟩ := Option.bind_eq_some_iff.1 he10_
      rw [← n2_] at hr22_
      refine s_call (tronageref12_Reach_sim (k1_.mono le13_) s14_ hr22_) ?_
      rintro _ h23_ ⟨f24_, t3, d27_, le26_, rfl, rfl, k29_, s25_⟩
      refine ⟨t3, rfl, ?_⟩
      have n28_ := k29_.length
      refine s_new (vs := [.slice t3.1 t3.2.1 t3.2.2]) s25_ ?_
      intro r4 h31_ s30_
      have cw32_ := St.cells s30_
      have s34_ := s30_.tail
      obtain ⟨y36_, hy37_, he10_⟩ := Option.bind_eq_some_iff.1 he10_
      refine s_append (r := (Ro.list Ro.bool)) (ms := ([d27_] : List (List Bool))) appT_49_49 s34_ rfl cw32_ (.cons (a := [_]) ⟨t3, rfl, k29_⟩ .nil) rfl hy37_ ?_
      intro t5 h38_ s39_
      have n40_ := s39_.rowLen
      obtain rfl := Option.some.inj he10_
      exact s_next ((IntKind.wrap .i64 (z2.1 + (1 : Int))), t5, ()) _ rfl rfl ⟨f24_, y36_, (le13_.trans le26_), hw18_, rfl, s39_⟩
    · rintro _ z2 h45_ ⟨f42_, d46_, le43_, rfl, rfl, s44_⟩ hge48_
      have n47_ := s44_.rowLen
      refine t_false (by rw [n2_]; exact decide_eq_false (Int.not_lt.2 hge48_)) ?_
      exact around_brk (meetB_brk (z2.1, z2.2.1, ()) rfl ⟨f42_, d46_, le43_, rfl, s44_⟩)
  · rintro z1 h51_ ⟨f52_, d55_, le53_, rfl, s54_⟩
    try dsimp only at hd
    have n56_ := s54_.rowLen
    obtain ⟨y58_, hy59_, hd⟩ := Option.bind_eq_some_iff.1 hd
    refine s_make (r := Ro.bool) (x := false) makeT_42 s54_ rfl (by rw [n2_]) hy59_ ?_
    intro t6 h60_ s61_
    have n62_ := s61_.rowLen
    have s65_ := s61_.nil 28 (Ro.list (Ro.int .i64))
    have s66_ := s65_.at2
    have s67_ := s66_.at2
    have s68_ := s67_.at2
    obtain ⟨g63_, hx64_, hd⟩ := Option.bind_eq_some_iff.1 hd
    refine s_block (fun (y : Int × (Option Addr × Nat × Nat) × Unit) w_ g => ∃ ψ : Snap, ∃ l69_ : List (List Int), ∃ l70_ : List Bool, Sub f52_ ψ ∧ (l69_, l70_) = g ∧ St ψ (⟨Rep.row 28 (Ro.list (Ro.int .i64)), [.slice y.2.1.1 y.2.1.2.1 y.2.1.2.2], l69_⟩ :: ⟨Rep.row 4 Ro.bool, [.slice t6.1 t6.2.1 t6.2.2], l70_⟩ :: ⟨Rep.row 42 (Ro.list Ro.bool), [.slice z1.2.1.1 z1.2.1.2.1 z1.2.1.2.2], d55_⟩ :: F) w_) (g := g63_) ?_ ?_
    · refine s_forS hx64_ (fun i73_ (y : Int × (Option Addr × Nat × Nat) × Unit) w_ g => ∃ ψ : Snap, ∃ l71_ : List (List Int), ∃ l72_ : List Bool, Sub f52_ ψ ∧ y.1 = i73_ ∧ (l71_, l72_) = g ∧ St ψ (⟨Rep.row 28 (Ro.list (Ro.int .i64)), [.slice y.2.1.1 y.2.1.2.1 y.2.1.2.2], l71_⟩ :: ⟨Rep.row 4 Ro.bool, [.slice t6.1 t6.2.1 t6.2.2], l72_⟩ :: ⟨Rep.row 42 (Ro.list Ro.bool), [.slice z1.2.1.1 z1.2.1.2.1 z1.2.1.2.2], d55_⟩ :: F) w_) ((0 : Int), ((none, 0, 0) : Slc), ()) rfl ⟨f52_, ([] : List (List Int)), y58_, (Sub.refl _), rfl, rfl, s68_⟩ ?_ ?_
      · rintro _ z8 h79_ _ _ ⟨f76_, d80_, d82_, le77_, rfl, rfl, s78_⟩ he74_ h185_ h286_ hw84_
        try dsimp only at he74_ h185_ h286_ hw84_
        have n81_ := s78_.rowLen
        have n83_ := s78_.at1.rowLen
        refine t_true (by rw [n2_]; exact decide_eq_true h286_) ?_
        obtain ⟨g87_, hx88_, he74_⟩ := Option.bind_eq_some_iff.1 he74_
        refine s_block (fun (y : (Option Addr × Nat × Nat) × Unit) w_ g => ∃ ψ : Snap, ∃ l89_ : List (List Int), ∃ l90_ : List Bool, Sub f76_ ψ ∧ (l89_, l90_) = g ∧ St ψ (⟨Rep.row 28 (Ro.list (Ro.int .i64)), [.slice y.1.1 y.1.2.1 y.1.2.2], l89_⟩ :: ⟨Rep.row 4 Ro.bool, [.slice t6.1 t6.2.1 t6.2.2], l90_⟩ :: ⟨Rep.row 42 (Ro.list Ro.bool), [.slice z1.2.1.1 z1.2.1.2.1 z1.2.1.2.2], d55_⟩ :: F) w_) (g := g87_) ?_ ?_
        · obtain ⟨x91_, hx92_, hx88_⟩ := Option.bind_eq_some_iff.1 hx88_
          obtain ⟨a93_, cs94_, ea95_, hi96_, q97_, cl98_⟩ := (s78_.at1).get hx92_
          refine t_deref _ ea95_ (t_chk hi96_ ?_)
          obtain rfl := q97_
          refine s_load (x := x91_) (cl98_ 0 _ rfl) rfl ?_
          refine s_cond hx88_ rfl (fun hb283_ hx88_ => ?_) (fun hb283_ hx88_ => ?_)
          · have s101_ := s78_.at2
            have s102_ := s101_.at2
            have s103_ := s102_.at2
            obtain rfl := Option.some.inj hx88_
            exact meetB_brk (z8.2.1, ()) rfl ⟨f76_, d80_, d82_, (Sub.refl _), rfl, s103_⟩
          · have s106_ := s78_.nil 3 (Ro.int .i64)
            have s107_ := s106_.at3
            have s108_ := s107_.at2
            have s109_ := s108_.at3
            have s110_ := s109_.at3
            obtain ⟨g104_, hx105_, hx88_⟩ := Option.bind_eq_some_iff.1 hx88_
            refine s_block (fun (y : Int × (Option Addr × Nat × Nat) × Unit) w_ g => ∃ ψ : Snap, ∃ l111_ : List Int, ∃ l112_ : List Bool, Sub f76_ ψ ∧ (l111_, l112_) = g ∧ St ψ (⟨Rep.row 3 (Ro.int .i64), [.slice y.2.1.1 y.2.1.2.1 y.2.1.2.2], l111_⟩ :: ⟨Rep.row 4 Ro.bool, [.slice t6.1 t6.2.1 t6.2.2], l112_⟩ :: ⟨Rep.row 28 (Ro.list (Ro.int .i64)), [.slice z8.2.1.1 z8.2.1.2.1 z8.2.1.2.2], d80_⟩ :: ⟨Rep.row 42 (Ro.list Ro.bool), [.slice z1.2.1.1 z1.2.1.2.1 z1.2.1.2.2], d55_⟩ :: F) w_) (g := g104_) ?_ ?_
            · refine s_forS hx105_ (fun i115_ (y : Int × (Option Addr × Nat × Nat) × Unit) w_ g => ∃ ψ : Snap, ∃ l113_ : List Int, ∃ l114_ : List Bool, Sub f76_ ψ ∧ y.1 = i115_ ∧ (l113_, l114_) = g ∧ St ψ (⟨Rep.row 3 (Ro.int .i64), [.slice y.2.1.1 y.2.1.2.1 y.2.1.2.2], l113_⟩ :: ⟨Rep.row 4 Ro.bool, [.slice t6.1 t6.2.1 t6.2.2], l114_⟩ :: ⟨Rep.row 28 (Ro.list (Ro.int .i64)), [.slice z8.2.1.1 z8.2.1.2.1 z8.2.1.2.2], d80_⟩ :: ⟨Rep.row 42 (Ro.list Ro.bool), [.slice z1.2.1.1 z1.2.1.2.1 z1.2.1.2.2], d55_⟩ :: F) w_) ((0 : Int), ((none, 0, 0) : Slc), ()) rfl ⟨f76_, ([] : List Int), d82_, (Sub.refl _), rfl, rfl, s110_⟩ ?_ ?_
              · rintro _ z13 h121_ _ _ ⟨f118_, d122_, d124_, le119_, rfl, rfl, s120_⟩ he116_ h1127_ h2128_ hw126_
                try dsimp only at he116_ h1127_ h2128_ hw126_
                have n123_ := s120_.rowLen
                have n125_ := s120_.at1.rowLen
                refine t_true (by rw [n2_]; exact decide_eq_true h2128_) ?_
                obtain ⟨g129_, hx130_, he116_⟩ := Option.bind_eq_some_iff.1 he116_
                refine s_join (fun (y : Bool × Unit) w_ g => ∃ ψ : Snap, Sub f118_ ψ ∧ y.1 = g ∧ St ψ (⟨Rep.row 3 (Ro.int .i64), [.slice z13.2.1.1 z13.2.1.2.1 z13.2.1.2.2], d122_⟩ :: ⟨Rep.row 4 Ro.bool, [.slice t6.1 t6.2.1 t6.2.2], d124_⟩ :: ⟨Rep.row 28 (Ro.list (Ro.int .i64)), [.slice z8.2.1.1 z8.2.1.2.1 z8.2.1.2.2], d80_⟩ :: ⟨Rep.row 42 (Ro.list Ro.bool), [.slice z1.2.1.1 z1.2.1.2.1 z1.2.1.2.2], d55_⟩ :: F) w_) (g := g129_) ?_ ?_
                · obtain ⟨x131_, hx132_, hx130_⟩ := Option.bind_eq_some_iff.1 hx130_
                  obtain ⟨a133_, cs134_, ea135_, hi136_, q137_, cl138_⟩ := (s120_.at3).get hx132_
                  refine t_deref _ ea135_ (t_chk hi136_ ?_)
                  obtain ⟨t140_, rfl, k141_⟩ := q137_
                  have n142_ := k141_.length
                  refine s_load (x := t140_) (cl138_ 0 _ rfl) rfl ?_
                  obtain ⟨x143_, hx144_, hx130_⟩ := Option.bind_eq_some_iff.1 hx130_
                  obtain ⟨a145_, cs146_, ea147_, hi148_, q149_, cl150_⟩ := k141_.get hx144_
                  refine t_deref _ ea147_ (t_chk hi148_ ?_)
                  obtain rfl := q149_
                  refine s_load (x := x143_) (cellS_heap (Sub.trans (Sub.refl _) s120_.sub) (cl150_ 0 _ rfl)) rfl ?_
                  refine s_cond hx130_ rfl (fun hb181_ hx130_ => ?_) (fun hb181_ hx130_ => ?_)
                  · obtain ⟨x152_, hx153_, hx130_⟩ := Option.bind_eq_some_iff.1 hx130_
                    obtain ⟨a154_, cs155_, ea156_, hi157_, q158_, cl159_⟩ := (s120_.at3).get hx153_
                    refine t_deref _ ea156_ (t_chk hi157_ ?_)
                    obtain ⟨t161_, rfl, k162_⟩ := q158_
                    have n163_ := k162_.length
                    refine s_load (x := t161_) (cl159_ 0 _ rfl) rfl ?_
                    obtain ⟨x164_, hx165_, hx130_⟩ := Option.bind_eq_some_iff.1 hx130_
                    obtain ⟨a166_, cs167_, ea168_, hi169_, q170_, cl171_⟩ := k162_.get hx165_
                    refine t_deref _ ea168_ (t_chk hi169_ ?_)
                    obtain rfl := q170_
                    refine s_load (x := x164_) (cellS_heap (Sub.trans (Sub.refl _) s120_.sub) (cl171_ 0 _ rfl)) rfl ?_
                    have s173_ := s120_.at3
                    have s174_ := s173_.at3
                    have s175_ := s174_.at3
                    have s176_ := s175_.at3
                    obtain rfl := Option.some.inj hx130_
                    exact s_out (x164_, ()) rfl ⟨f118_, (Sub.refl _), rfl, s176_⟩
                  · have s177_ := s120_.at3
                    have s178_ := s177_.at3
                    have s179_ := s178_.at3
                    have s180_ := s179_.at3
                    obtain rfl := Option.some.inj hx130_
                    exact s_out (false, ()) rfl ⟨f118_, (Sub.refl _), rfl, s180_⟩
                · rintro z14 h182_ ⟨f183_, le184_, rfl, s185_⟩
                  try dsimp only at he116_
                  obtain ⟨g186_, hx187_, he116_⟩ := Option.bind_eq_some_iff.1 he116_
                  refine s_join (fun (y : (Option Addr × Nat × Nat) × Unit) w_ g => ∃ ψ : Snap, ∃ l188_ : List Int, ∃ l189_ : List Bool, Sub f183_ ψ ∧ (l188_, l189_) = g ∧ St ψ (⟨Rep.row 3 (Ro.int .i64), [.slice y.1.1 y.1.2.1 y.1.2.2], l188_⟩ :: ⟨Rep.row 4 Ro.bool, [.slice t6.1 t6.2.1 t6.2.2], l189_⟩ :: ⟨Rep.row 28 (Ro.list (Ro.int .i64)), [.slice z8.2.1.1 z8.2.1.2.1 z8.2.1.2.2], d80_⟩ :: ⟨Rep.row 42 (Ro.list Ro.bool), [.slice z1.2.1.1 z1.2.1.2.1 z1.2.1.2.2], d55_⟩ :: F) w_) (g := g186_) ?_ ?_
                  · refine s_cond hx187_ rfl (fun hb225_ hx187_ => ?_) (fun hb225_ hx187_ => ?_)
                    · refine s_new (vs := [.int .i64 z13.1]) s185_ ?_
                      intro r24 h191_ s190_
                      have cw192_ := St.cells s190_
                      have s194_ := s190_.tail
                      obtain ⟨y196_, hy197_, hx187_⟩ := Option.bind_eq_some_iff.1 hx187_
                      refine s_append (r := (Ro.int .i64)) (ms := ([z13.1] : List Int)) appT_28_28 s194_ rfl cw192_ (.cons (a := [_]) rfl .nil) rfl hy197_ ?_
                      intro t25 h198_ s199_
                      have n200_ := s199_.rowLen
                      obtain ⟨y203_, hy204_, hx187_⟩ := Option.bind_eq_some_iff.1 hx187_
                      obtain ⟨a208_, ea210_, q209_⟩ := s199_.at1.there hy204_
                      refine t_deref _ ea210_ (t_chk q209_ (s_set s199_.at1 hy204_ rfl ea210_ ?_))
                      intro h212_ s211_
                      have n214_ := s211_.rowLen
                      have s215_ := s211_.at1
                      have s216_ := s215_.at3
                      have s217_ := s216_.at3
                      have s218_ := s217_.at3
                      have s219_ := s218_.at3
                      obtain rfl := Option.some.inj hx187_
                      exact s_out (t25, ()) rfl ⟨f183_, y196_, y203_, (Sub.refl _), rfl, s219_⟩
                    · have s221_ := s185_.at3
                      have s222_ := s221_.at3
                      have s223_ := s222_.at3
                      have s224_ := s223_.at3
                      obtain rfl := Option.some.inj hx187_
                      exact s_out (z13.2.1, ()) rfl ⟨f183_, d122_, d124_, (Sub.refl _), rfl, s224_⟩
                  · rintro z23 h226_ ⟨f227_, d230_, d232_, le228_, rfl, s229_⟩
                    try dsimp only at he116_
                    have n231_ := s229_.rowLen
                    have n233_ := s229_.at1.rowLen
                    have s235_ := s229_.at3
                    have s236_ := s235_.at3
                    have s237_ := s236_.at3
                    have s238_ := s237_.at3
                    obtain rfl := Option.some.inj he116_
                    exact s_next ((IntKind.wrap .i64 (z13.1 + (1 : Int))), z23.1, ()) _ rfl rfl ⟨f227_, d230_, d232_, ((le119_.trans le184_).trans le228_), hw126_, rfl, s238_⟩
              · rintro _ z13 h242_ ⟨f239_, d243_, d245_, le240_, rfl, rfl, s241_⟩ hge247_
                have n244_ := s241_.rowLen
                have n246_ := s241_.at1.rowLen
                refine t_false (by rw [n2_]; exact decide_eq_false (Int.not_lt.2 hge247_)) ?_
                have s250_ := s241_.at3
                have s251_ := s250_.at3
                have s252_ := s251_.at3
                have s253_ := s252_.at3
                exact around_brk (meetB_brk (z13.1, z13.2.1, ()) rfl ⟨f239_, d243_, d245_, le240_, rfl, s253_⟩)
            · rintro z12 h254_ ⟨f255_, d258_, d260_, le256_, rfl, s257_⟩
              try dsimp only at hx88_
              have n259_ := s257_.rowLen
              have n261_ := s257_.at1.rowLen
              refine s_new (vs := [.slice z12.2.1.1 z12.2.1.2.1 z12.2.1.2.2]) s257_ ?_
              intro r27 h264_ s263_
              have s267_ := s263_.at1
              obtain ⟨f268_, le269_, k270_, s271_⟩ := St.freezeRow (t := z12.2.1) s267_
              have cw265_ := St.cells s271_
              have s272_ := s271_.tail
              have s273_ := s272_.at1
              obtain ⟨y274_, hy275_, hx88_⟩ := Option.bind_eq_some_iff.1 hx88_
              refine s_append (r := (Ro.list (Ro.int .i64))) (ms := ([d258_] : List (List Int))) appT_22_22 s273_ rfl cw265_ (.cons (a := [_]) ⟨z12.2.1, rfl, k270_⟩ .nil) rfl hy275_ ?_
              intro t28 h276_ s277_
              have n278_ := s277_.rowLen
              have s280_ := s277_.at2
              have s281_ := s280_.at2
              have s282_ := s281_.at2
              obtain rfl := Option.some.inj hx88_
              exact s_bout (t28, ()) rfl ⟨f268_, y274_, d260_, (le256_.trans le269_), rfl, s282_⟩
        · rintro z9 h284_ ⟨f285_, d288_, d290_, le286_, rfl, s287_⟩
          try dsimp only at he74_
          have n289_ := s287_.rowLen
          have n291_ := s287_.at1.rowLen
          have s293_ := s287_.at2
          have s294_ := s293_.at2
          have s295_ := s294_.at2
          obtain rfl := Option.some.inj he74_
          exact s_next ((IntKind.wrap .i64 (z8.1 + (1 : Int))), z9.1, ()) _ rfl rfl ⟨f285_, d288_, d290_, (le77_.trans le286_), hw84_, rfl, s295_⟩
      · rintro _ z8 h299_ ⟨f296_, d300_, d302_, le297_, rfl, rfl, s298_⟩ hge304_
        have n301_ := s298_.rowLen
        have n303_ := s298_.at1.rowLen
        refine t_false (by rw [n2_]; exact decide_eq_false (Int.not_lt.2 hge304_)) ?_
        have s307_ := s298_.at2
        have s308_ := s307_.at2
        have s309_ := s308_.at2
        exact around_brk (meetB_brk (z8.1, z8.2.1, ()) rfl ⟨f296_, d300_, d302_, le297_, rfl, s309_⟩)
    · rintro z7 h310_ ⟨f311_, d314_, d316_, le312_, rfl, s313_⟩
      try dsimp only at hd
      have n315_ := s313_.rowLen
      have n317_ := s313_.at1.rowLen
      obtain ⟨f320_, le321_, k322_, s323_⟩ := St.freezeRow (t := z7.2.1) s313_
      obtain rfl := Option.some.inj hd
      have s324_ := s323_.tail
      have s325_ := s324_.tail
      exact finOf_back ⟨f320_, z7.2.1, d314_, ((le53_.trans le312_).trans le321_), rfl, rfl, k322_, s325_⟩

noncomputable def tronageref12_Loops_D (edges_0 : List (List Int)) : Option (List Int) :=
  (forS (σ := List Int) (0 : Int) (((List.length edges_0) : Nat) : Int) ([] : List Int) fun i_z2 z2 =>
    (loop (σ := (Int × Bool)) (β := Bool) ((0 : Int), false) fun z4 =>
      (idx edges_0 i_z2).bind fun e37 =>
      cond (decide (z4.1 < (((List.length e37) : Nat) : Int)))
      ((idx edges_0 i_z2).bind fun e49 =>
        (idx e49 z4.1).bind fun e61 =>
        (cond (decide (e61 ≥ (0 : Int)))
        (some (decide (e61 < (((List.length edges_0) : Nat) : Int))))
        (some false)).bind fun z11 =>
        (cond z11
        ((tronageref12_Reach_D edges_0 (((List.length edges_0) : Nat) : Int) e61).bind fun t13 =>
          (cond z4.2
          (some true)
          ((idx t13 i_z2).bind fun e90 =>
            some e90)).bind fun z14 =>
          some z14)
        (some z4.2)).bind fun z12 =>
        some (Step.next ((IntKind.wrap .i64 (z4.1 + (1 : Int))), z12)))
      (some (Step.done z4.2))).bind fun z3 =>
    (cond z3
    ((app z2 ([i_z2] : List Int)).bind fun t19 =>
      some t19)
    (some z2)).bind fun z17 =>
    some z17).bind fun z1 =>
  some z1
theorem tronageref12_Loops_sim {φ : Snap} {h : Heap} {F : List Chk} {edges_0 : Slc} {d_edges_0 : List (List Int)} (k1_ : Ro.SliceIs (Ro.list (Ro.int .i64)) φ edges_0 d_edges_0) (s0 : St φ (F) h) {r : (List Int)} (hd : tronageref12_Loops_D d_edges_0 = some r) :
    CallsH Tryd.prog 18 [(.slice edges_0.1 edges_0.2.1 edges_0.2.2)] h (Back fun v h' => ∃ ψ : Snap, ∃ y : Option Addr × Nat × Nat, ∃ l3_ : List Int, Sub φ ψ ∧ v = ((.one (.atom .slice)) : Sh).val y ∧ l3_ = r ∧ Ro.SliceIs (Ro.int .i64) ψ y l3_ ∧ St ψ (F) h') := by
  refine calls_of mixed Tryd.func18 ?_
  rw [tronageref12_Loops_den]
  unfold tronageref12_Loops_T
  unfold tronageref12_Loops_D at hd
  have n2_ : edges_0.2.1 = List.length d_edges_0 := k1_.length
  have s6_ := s0.nil 3 (Ro.int .i64)
  obtain ⟨g4_, hx5_, hd⟩ := Option.bind_eq_some_iff.1 hd
  refine s_block (fun (y : Int × (Option Addr × Nat × Nat) × Unit) w_ g => ∃ ψ : Snap, ∃ l7_ : List Int, Sub φ ψ ∧ l7_ = g ∧ St ψ (⟨Rep.row 3 (Ro.int .i64), [.slice y.2.1.1 y.2.1.2.1 y.2.1.2.2], l7_⟩ :: F) w_) (g := g4_) ?_ ?_
  · refine s_forS hx5_ (fun i9_ (y : Int × (Option Addr × Nat × Nat) × Unit) w_ g => ∃ ψ : Snap, ∃ l8_ : List Int, Sub φ ψ ∧ y.1 = i9_ ∧ l8_ = g ∧ St ψ (⟨Rep.row 3 (Ro.int .i64), [.slice y.2.1.1 y.2.1.2.1 y.2.1.2.2], l8_⟩ :: F) w_) ((0 : Int), ((none, 0, 0) : Slc), ()) rfl ⟨φ, ([] : List Int), (Sub.refl _), rfl, rfl, s6_⟩ ?_ ?_
    · rintro _ z2 h15_ _ _ ⟨f12_, d16_, le13_, rfl, rfl, s14_⟩ he10_ h119_ h220_ hw18_
      try dsimp only at he10_ h119_ h220_ hw18_
      have n17_ := s14_.rowLen
      refine t_true (by rw [n2_]; exact decide_eq_true h220_) ?_
      obtain ⟨g21_, hx22_, he10_⟩ := Option.bind_eq_some_iff.1 he10_
      refine s_block (fun (y : Int × Bool × Unit) w_ g => ∃ ψ : Snap, Sub f12_ ψ ∧ y.2.1 = g ∧ St ψ (⟨Rep.row 3 (Ro.int .i64), [.slice z2.2.1.1 z2.2.1.2.1 z2.2.1.2.2], d16_⟩ :: F) w_) (g := g21_) ?_ ?_
      · refine s_loop hx22_ (fun (y : Int × Bool × Unit) w_ g => ∃ ψ : Snap, Sub f12_ ψ ∧ (y.1, y.2.1) = g ∧ St ψ (⟨Rep.row 3 (Ro.int .i64), [.slice z2.2.1.1 z2.2.1.2.1 z2.2.1.2.2], d16_⟩ :: F) w_) ((0 : Int), false, ()) rfl ⟨f12_, (Sub.refl _), rfl, s14_⟩ ?_
        · rintro z4 h28_ _ _ ⟨f25_, le26_, rfl, s27_⟩ he23_ hb24_
          try dsimp only at he23_
          obtain ⟨x29_, hx30_, he23_⟩ := Option.bind_eq_some_iff.1 he23_
          obtain ⟨a31_, cs32_, ea33_, hi34_, q35_, cl36_⟩ := (k1_.mono (le13_.trans le26_)).get hx30_
          refine t_deref _ ea33_ (t_chk hi34_ ?_)
          obtain ⟨t38_, rfl, k39_⟩ := q35_
          have n40_ := k39_.length
          refine s_load (x := t38_) (cellS_heap (Sub.trans (Sub.refl _) s27_.sub) (cl36_ 0 _ rfl)) rfl ?_
          refine s_cond he23_ (by rw [n40_] <;> rfl) (fun hb101_ he23_ => ?_) (fun hb101_ he23_ => ?_)
          · obtain ⟨x41_, hx42_, he23_⟩ := Option.bind_eq_some_iff.1 he23_
            obtain ⟨a43_, cs44_, ea45_, hi46_, q47_, cl48_⟩ := (k1_.mono (le13_.trans le26_)).get hx42_
            refine t_deref _ ea45_ (t_chk hi46_ ?_)
            obtain ⟨t50_, rfl, k51_⟩ := q47_
            have n52_ := k51_.length
            refine s_load (x := t50_) (cellS_heap (Sub.trans (Sub.refl _) s27_.sub) (cl48_ 0 _ rfl)) rfl ?_
            obtain ⟨x53_, hx54_, he23_⟩ := Option.bind_eq_some_iff.1 he23_
            obtain ⟨a55_, cs56_, ea57_, hi58_, q59_, cl60_⟩ := k51_.get hx54_
            refine t_deref _ ea57_ (t_chk hi58_ ?_)
            obtain rfl := q59_
            refine s_load (x := x53_) (cellS_heap (Sub.trans (Sub.refl _) s27_.sub) (cl60_ 0 _ rfl)) rfl ?_
            obtain ⟨g62_, hx63_, he23_⟩ := Option.bind_eq_some_iff.1 he23_
            refine s_join (fun (y : Bool × Unit) w_ g => ∃ ψ : Snap, Sub f25_ ψ ∧ y.1 = g ∧ St ψ (⟨Rep.row 3 (Ro.int .i64), [.slice z2.2.1.1 z2.2.1.2.1 z2.2.1.2.2], d16_⟩ :: F) w_) (g := g62_) ?_ ?_
            · refine s_cond hx63_ rfl (fun hb64_ hx63_ => ?_) (fun hb64_ hx63_ => ?_)
              · obtain rfl := Option.some.inj hx63_
                exact s_out ((decide (x53_ < ((edges_0.2.1 : Nat) : Int))), ()) rfl ⟨f25_, (Sub.refl _), (by rw [n2_]), s27_⟩
              · obtain rfl := Option.some.inj hx63_
                exact s_out (false, ()) rfl ⟨f25_, (Sub.refl _), rfl, s27_⟩
            · rintro z11 h65_ ⟨f66_, le67_, rfl, s68_⟩
              try dsimp only at he23_
              obtain ⟨g69_, hx70_, he23_⟩ := Option.bind_eq_some_iff.1 he23_
              refine s_join (fun (y : Bool × Unit) w_ g => ∃ ψ : Snap, Sub f66_ ψ ∧ y.1 = g ∧ St ψ (⟨Rep.row 3 (Ro.int .i64), [.slice z2.2.1.1 z2.2.1.2.1 z2.2.1.2.2], d16_⟩ :: F) w_) (g := g69_) ?_ ?_
              · refine s_cond hx70_ rfl (fun hb96_ hx70_ => ?_) (fun hb96_ hx70_ => ?_)
                · obtain ⟨r71_, hr72_, hx70_⟩ := Option.bind_eq_some_iff.1 hx70_
                  rw [← n2_] at hr72_
                  refine s_call (tronageref12_Reach_sim (k1_.mono ((le13_.trans le26_).trans le67_)) s68_ hr72_) ?_
                  rintro _ h73_ ⟨f74_, t13, d77_, le76_, rfl, rfl, k79_, s75_⟩
                  refine ⟨t13, rfl, ?_⟩
                  have n78_ := k79_.length
                  obtain ⟨g80_, hx81_, hx70_⟩ := Option.bind_eq_some_iff.1 hx70_
                  refine s_join (fun (y : Bool × Unit) w_ g => ∃ ψ : Snap, Sub f74_ ψ ∧ y.1 = g ∧ St ψ (⟨Rep.row 3 (Ro.int .i64), [.slice z2.2.1.1 z2.2.1.2.1 z2.2.1.2.2], d16_⟩ :: F) w_) (g := g80_) ?_ ?_
                  · refine s_cond hx81_ rfl (fun hb91_ hx81_ => ?_) (fun hb91_ hx81_ => ?_)
                    · obtain rfl := Option.some.inj hx81_
                      exact s_out (true, ()) rfl ⟨f74_, (Sub.refl _), rfl, s75_⟩
                    · obtain ⟨x82_, hx83_, hx81_⟩ := Option.bind_eq_some_iff.1 hx81_
                      obtain ⟨a84_, cs85_, ea86_, hi87_, q88_, cl89_⟩ := k79_.get hx83_
                      refine t_deref _ ea86_ (t_chk hi87_ ?_)
                      obtain rfl := q88_
                      refine s_load (x := x82_) (cellS_heap (Sub.trans (Sub.refl _) s75_.sub) (cl89_ 0 _ rfl)) rfl ?_
                      obtain rfl := Option.some.inj hx81_
                      exact s_out (x82_, ()) rfl ⟨f74_, (Sub.refl _), rfl, s75_⟩
                  · rintro z14 h92_ ⟨f93_, le94_, rfl, s95_⟩
                    try dsimp only at hx70_
                    obtain rfl := Option.some.inj hx70_
                    exact s_out (z14.1, ()) rfl ⟨f93_, (le76_.trans le94_), rfl, s95_⟩
                · obtain rfl := Option.some.inj hx70_
                  exact s_out (z4.2.1, ()) rfl ⟨f66_, (Sub.refl _), rfl, s68_⟩
              · rintro z12 h97_ ⟨f98_, le99_, rfl, s100_⟩
                try dsimp only at he23_
                obtain rfl := Option.some.inj he23_
                exact s_next ((IntKind.wrap .i64 (z4.1 + (1 : Int))), z12.1, ()) _ rfl rfl ⟨f98_, ((le26_.trans le67_).trans le99_), rfl, s100_⟩
          · obtain rfl := Option.some.inj he23_
            obtain rfl := hb24_ _ rfl
            exact around_brk (meetB_brk (z4.1, z4.2.1, ()) rfl ⟨f25_, le26_, rfl, s27_⟩)
      · rintro z3 h102_ ⟨f103_, le104_, rfl, s105_⟩
        try dsimp only at he10_
        obtain ⟨g107_, hx108_, he10_⟩ := Option.bind_eq_some_iff.1 he10_
        refine s_join (fun (y : (Option Addr × Nat × Nat) × Unit) w_ g => ∃ ψ : Snap, ∃ l109_ : List Int, Sub f103_ ψ ∧ l109_ = g ∧ St ψ (⟨Rep.row 3 (Ro.int .i64), [.slice y.1.1 y.1.2.1 y.1.2.2], l109_⟩ :: F) w_) (g := g107_) ?_ ?_
        · refine s_cond hx108_ rfl (fun hb123_ hx108_ => ?_) (fun hb123_ hx108_ => ?_)
          · refine s_new (vs := [.int .i64 z2.1]) s105_ ?_
            intro r18 h111_ s110_
            have cw112_ := St.cells s110_
            have s114_ := s110_.tail
            obtain ⟨y116_, hy117_, hx108_⟩ := Option.bind_eq_some_iff.1 hx108_
            refine s_append (r := (Ro.int .i64)) (ms := ([z2.1] : List Int)) appT_28_28 s114_ rfl cw112_ (.cons (a := [_]) rfl .nil) rfl hy117_ ?_
            intro t19 h118_ s119_
            have n120_ := s119_.rowLen
            obtain rfl := Option.some.inj hx108_
            exact s_out (t19, ()) rfl ⟨f103_, y116_, (Sub.refl _), rfl, s119_⟩
          · obtain rfl := Option.some.inj hx108_
            exact s_out (z2.2.1, ()) rfl ⟨f103_, d16_, (Sub.refl _), rfl, s105_⟩
        · rintro z17 h124_ ⟨f125_, d128_, le126_, rfl, s127_⟩
          try dsimp only at he10_
          have n129_ := s127_.rowLen
          obtain rfl := Option.some.inj he10_
          exact s_next ((IntKind.wrap .i64 (z2.1 + (1 : Int))), z17.1, ()) _ rfl rfl ⟨f125_, d128_, ((le13_.trans le104_).trans le126_), hw18_, rfl, s127_⟩
    · rintro _ z2 h134_ ⟨f131_, d135_, le132_, rfl, rfl, s133_⟩ hge137_
      have n136_ := s133_.rowLen
      refine t_false (by rw [n2_]; exact decide_eq_false (Int.not_lt.2 hge137_)) ?_
      exact around_brk (meetB_brk (z2.1, z2.2.1, ()) rfl ⟨f131_, d135_, le132_, rfl, s133_⟩)
  · rintro z1 h140_ ⟨f141_, d144_, le142_, rfl, s143_⟩
    try dsimp only at hd
    have n145_ := s143_.rowLen
    obtain ⟨f148_, le149_, k150_, s151_⟩ := St.freezeRow (t := z1.2.1) s143_
    obtain rfl := Option.some.inj hd
    exact finOf_back ⟨f148_, z1.2.1, d144_, (le142_.trans le149_), rfl, rfl, k150_, s151_⟩

noncomputable def bitset_Set_is_D (s_0 : (Int × List Int)) (i_1 : Int) : Option Bool :=
  (cond (decide (i_1 ≥ (0 : Int)))
  (some (decide (i_1 < (s_0.1))))
  (some false)).bind fun z1 =>
  some z1
theorem bitset_Set_is_sim {φ : Snap} {h : Heap} {F : List Chk} {s_0 : Option Addr} {d_s_0 : (Int × List Int)} {i_1 : Int}  (s0 : St φ (⟨Rep.obj 59 (Rep.prod (Rep.ro (Ro.int .i64)) (Rep.row 56 (Ro.int .u64))), [.pointer s_0], d_s_0⟩ :: F) h) {r : Bool} (hd : bitset_Set_is_D d_s_0 i_1 = some r) :
    CallsH Tryd.prog 42 [(.pointer s_0), (.int .i64 i_1)] h (Back fun v h' => ∃ ψ : Snap, ∃ y : Bool, Sub φ ψ ∧ v = ((.one (.atom .bool)) : Sh).val y ∧ y = r ∧ St ψ (⟨Rep.obj 59 (Rep.prod (Rep.ro (Ro.int .i64)) (Rep.row 56 (Ro.int .u64))), [.pointer s_0], d_s_0⟩ :: F) h') := by
  refine calls_of mixed Tryd.func42 ?_
  rw [bitset_Set_is_den]
  unfold bitset_Set_is_T
  unfold bitset_Set_is_D at hd
  obtain ⟨g1_, hx2_, hd⟩ := Option.bind_eq_some_iff.1 hd
  refine s_join (fun (y : Bool × Unit) w_ g => ∃ ψ : Snap, Sub φ ψ ∧ y.1 = g ∧ St ψ (⟨Rep.obj 59 (Rep.prod (Rep.ro (Ro.int .i64)) (Rep.row 56 (Ro.int .u64))), [.pointer s_0], d_s_0⟩ :: F) w_) (g := g1_) ?_ ?_
  · refine s_cond hx2_ rfl (fun hb25_ hx2_ => ?_) (fun hb25_ hx2_ => ?_)
    · obtain ⟨b3_, vs4_, e5_, hl6_, s7_⟩ := s0.open
      obtain rfl : s_0 = some ⟨b3_, 0, none⟩ := by simpa using e5_
      clear e5_
      have s8_ := s7_.at1
      obtain ⟨v9_, w10_, rfl, hl12_, s11_⟩ := s8_.pair
      obtain ⟨g13_, s14_⟩ := s11_.ro
      subst g13_
      obtain ⟨t16_, e17_⟩ := s14_.rowCs
      subst e17_
      have n18_ := s14_.rowLen
      have s19_ : St φ (⟨Rep.row 56 (Ro.int .u64), [.slice t16_.1 t16_.2.1 t16_.2.2], d_s_0.2⟩ :: ⟨Rep.raw 59, [.pointer (some ⟨b3_, 0, none⟩)], [.int .i64 (d_s_0.1), .slice t16_.1 t16_.2.1 t16_.2.2]⟩ :: F) _ := s14_
      refine t_deref _ rfl ?_
      refine s_loadR (b := b3_) (j := 0) (x := (d_s_0.1)) s19_.at1 rfl ?_
      have s22_ := St.unro (r := (Ro.int .i64)) (cs := [.int .i64 (d_s_0.1)]) (x := (d_s_0.1)) s19_ rfl
      have s23_ := St.unpair s22_
      have s24_ : St φ (⟨Rep.obj 59 (Rep.prod (Rep.ro (Ro.int .i64)) (Rep.row 56 (Ro.int .u64))), [.pointer (some ⟨b3_, 0, none⟩)], ((d_s_0.1), d_s_0.2)⟩ :: F) _ := St.shut s23_.at1
      obtain rfl := Option.some.inj hx2_
      exact s_out ((decide (i_1 < (d_s_0.1))), ()) rfl ⟨φ, (Sub.refl _), rfl, s24_⟩
    · obtain rfl := Option.some.inj hx2_
      exact s_out (false, ()) rfl ⟨φ, (Sub.refl _), rfl, s0⟩
  · rintro z1 h26_ ⟨f27_, le28_, rfl, s29_⟩
    try dsimp only at hd
    obtain rfl := Option.some.inj hd
    exact finOf_back ⟨f27_, z1.1, le28_, rfl, rfl, s29_⟩

noncomputable def bitset_Set_Has_D (s_0 : (Int × List Int)) (i_1 : Int) : Option Bool :=
  ((bitset_Set_is_D s_0 i_1).bind fun t2 =>
  cond t2
  (need ((64 : Int) ≠ 0) <|
    (idx s_0.2 (IntKind.wrap .i64 (Int.tdiv i_1 (64 : Int)))).bind fun e35 =>
    need ((64 : Int) ≠ 0) <|
    need (0 ≤ (Int.tmod i_1 (64 : Int))) <|
    some ((IntKind.wrap .u64 (BitVec.toNat (BitVec.ofInt (IntKind.bits .u64) (Int.fdiv e35 (2 ^ (min (Int.toNat (Int.tmod i_1 (64 : Int))) (IntKind.bits .u64)))) &&& (BitVec.ofInt (IntKind.bits .u64) (1 : Int))) : Nat)) == (1 : Int)))
  (some false)).bind fun z1 =>
  some z1
theorem bitset_Set_Has_sim {φ : Snap} {h : Heap} {F : List Chk} {s_0 : Option Addr} {d_s_0 : (Int × List Int)} {i_1 : Int}  (s0 : St φ (⟨Rep.obj 59 (Rep.prod (Rep.ro (Ro.int .i64)) (Rep.row 56 (Ro.int .u64))), [.pointer s_0], d_s_0⟩ :: F) h) {r : Bool} (hd : bitset_Set_Has_D d_s_0 i_1 = some r) :
    CallsH Tryd.prog 43 [(.pointer s_0), (.int .i64 i_1)] h (Back fun v h' => ∃ ψ : Snap, ∃ y : Bool, Sub φ ψ ∧ v = ((.one (.atom .bool)) : Sh).val y ∧ y = r ∧ St ψ (⟨Rep.obj 59 (Rep.prod (Rep.ro (Ro.int .i64)) (Rep.row 56 (Ro.int .u64))), [.pointer s_0], d_s_0⟩ :: F) h') := by
  refine calls_of mixed Tryd.func43 ?_
  rw [bitset_Set_Has_den]
  unfold bitset_Set_Has_T
  unfold bitset_Set_Has_D at hd
  obtain ⟨g1_, hx2_, hd⟩ := Option.bind_eq_some_iff.1 hd
  refine s_join (fun (y : Bool × Unit) w_ g => ∃ ψ : Snap, Sub φ ψ ∧ y.1 = g ∧ St ψ (⟨Rep.obj 59 (Rep.prod (Rep.ro (Ro.int .i64)) (Rep.row 56 (Ro.int .u64))), [.pointer s_0], d_s_0⟩ :: F) w_) (g := g1_) ?_ ?_
  · obtain ⟨r3_, hr4_, hx2_⟩ := Option.bind_eq_some_iff.1 hx2_
    refine s_call (bitset_Set_is_sim  s0 hr4_) ?_
    rintro _ h5_ ⟨f6_, t2, le8_, rfl, rfl, s7_⟩
    refine ⟨t2, rfl, ?_⟩
    refine s_cond hx2_ rfl (fun hb43_ hx2_ => ?_) (fun hb43_ hx2_ => ?_)
    · obtain ⟨b9_, vs10_, e11_, hl12_, s13_⟩ := s7_.open
      obtain rfl : s_0 = some ⟨b9_, 0, none⟩ := by simpa using e11_
      clear e11_
      have s14_ := s13_.at1
      obtain ⟨v15_, w16_, rfl, hl18_, s17_⟩ := s14_.pair
      obtain ⟨g19_, s20_⟩ := s17_.ro
      subst g19_
      obtain ⟨t22_, e23_⟩ := s20_.rowCs
      subst e23_
      have n24_ := s20_.rowLen
      have s25_ : St f6_ (⟨Rep.row 56 (Ro.int .u64), [.slice t22_.1 t22_.2.1 t22_.2.2], d_s_0.2⟩ :: ⟨Rep.raw 59, [.pointer (some ⟨b9_, 0, none⟩)], [.int .i64 (d_s_0.1), .slice t22_.1 t22_.2.1 t22_.2.2]⟩ :: F) _ := s20_
      refine t_deref _ rfl ?_
      refine s_loadR (b := b9_) (j := 1) (x := t22_) s25_.at1 rfl ?_
      refine s_chk hx2_ id fun hp26_ hx2_ => ?_
      obtain ⟨x27_, hx28_, hx2_⟩ := Option.bind_eq_some_iff.1 hx2_
      obtain ⟨a29_, cs30_, ea31_, hi32_, q33_, cl34_⟩ := (s25_).get hx28_
      refine t_deref _ ea31_ (t_chk hi32_ ?_)
      obtain rfl := q33_
      refine s_load (x := x27_) (cl34_ 0 _ rfl) rfl ?_
      refine s_chk hx2_ id fun hp36_ hx2_ => ?_
      refine s_chk hx2_ id fun hp37_ hx2_ => ?_
      have s40_ := St.unro (r := (Ro.int .i64)) (cs := [.int .i64 (d_s_0.1)]) (x := (d_s_0.1)) s25_ rfl
      have s41_ := St.unpair s40_
      have s42_ : St f6_ (⟨Rep.obj 59 (Rep.prod (Rep.ro (Ro.int .i64)) (Rep.row 56 (Ro.int .u64))), [.pointer (some ⟨b9_, 0, none⟩)], ((d_s_0.1), d_s_0.2)⟩ :: F) _ := St.shut s41_.at1
      obtain rfl := Option.some.inj hx2_
      exact s_out (((IntKind.wrap .u64 (BitVec.toNat (BitVec.ofInt (IntKind.bits .u64) (Int.fdiv x27_ (2 ^ (min (Int.toNat (Int.tmod i_1 (64 : Int))) (IntKind.bits .u64)))) &&& (BitVec.ofInt (IntKind.bits .u64) (1 : Int))) : Nat)) == (1 : Int)), ()) rfl ⟨f6_, le8_, rfl, s42_⟩
    · obtain rfl := Option.some.inj hx2_
      exact s_out (false, ()) rfl ⟨f6_, le8_, rfl, s7_⟩
  · rintro z1 h44_ ⟨f45_, le46_, rfl, s47_⟩
    try dsimp only at hd
    obtain rfl := Option.some.inj hd
    exact finOf_back ⟨f45_, z1.1, le46_, rfl, rfl, s47_⟩

noncomputable def bitset_Set_Add_D (s_0 : (Int × List Int)) (i_1 : Int) : Option (Bool × (Int × List Int)) :=
  ((bitset_Set_is_D s_0 i_1).bind fun t2 =>
  cond (!t2)
  (some true)
  ((bitset_Set_Has_D s_0 i_1).bind fun t3 =>
    some t3)).bind fun z1 =>
  cond z1
  (some (false, s_0))
  (need ((64 : Int) ≠ 0) <|
    (idx s_0.2 (IntKind.wrap .i64 (Int.tdiv i_1 (64 : Int)))).bind fun e48 =>
    need ((64 : Int) ≠ 0) <|
    need (0 ≤ (Int.tmod i_1 (64 : Int))) <|
    (setI s_0.2 (IntKind.wrap .i64 (Int.tdiv i_1 (64 : Int))) (IntKind.wrap .u64 (BitVec.toNat (BitVec.ofInt (IntKind.bits .u64) e48 ||| (BitVec.ofInt (IntKind.bits .u64) (IntKind.wrap .u64 ((1 : Int) * 2 ^ (min (Int.toNat (Int.tmod i_1 (64 : Int))) (IntKind.bits .u64)))))) : Nat))).bind fun m63 =>
    some (true, ((s_0.1), m63)))
theorem bitset_Set_Add_sim {φ : Snap} {h : Heap} {F : List Chk} {s_0 : Option Addr} {d_s_0 : (Int × List Int)} {i_1 : Int}  (s0 : St φ (⟨Rep.obj 59 (Rep.prod (Rep.ro (Ro.int .i64)) (Rep.row 56 (Ro.int .u64))), [.pointer s_0], d_s_0⟩ :: F) h) {r : (Bool × (Int × List Int))} (hd : bitset_Set_Add_D d_s_0 i_1 = some r) :
    CallsH Tryd.prog 24 [(.pointer s_0), (.int .i64 i_1)] h (Back fun v h' => ∃ ψ : Snap, ∃ y : Bool, ∃ l1_ : (Int × List Int), Sub φ ψ ∧ v = ((.one (.atom .bool)) : Sh).val y ∧ (y, l1_) = r ∧ St ψ (⟨Rep.obj 59 (Rep.prod (Rep.ro (Ro.int .i64)) (Rep.row 56 (Ro.int .u64))), [.pointer s_0], l1_⟩ :: F) h') := by
  refine calls_of mixed Tryd.func24 ?_
  rw [bitset_Set_Add_den]
  unfold bitset_Set_Add_T
  unfold bitset_Set_Add_D at hd
  obtain ⟨g3_, hx4_, hd⟩ := Option.bind_eq_some_iff.1 hd
  refine s_join (fun (y : Bool × Unit) w_ g => ∃ ψ : Snap, Sub φ ψ ∧ y.1 = g ∧ St ψ (⟨Rep.obj 59 (Rep.prod (Rep.ro (Ro.int .i64)) (Rep.row 56 (Ro.int .u64))), [.pointer s_0], d_s_0⟩ :: F) w_) (g := g3_) ?_ ?_
  · obtain ⟨r5_, hr6_, hx4_⟩ := Option.bind_eq_some_iff.1 hx4_
    refine s_call (bitset_Set_is_sim  s0 hr6_) ?_
    rintro _ h7_ ⟨f8_, t2, le10_, rfl, rfl, s9_⟩
    refine ⟨t2, rfl, ?_⟩
    refine s_cond hx4_ rfl (fun hb17_ hx4_ => ?_) (fun hb17_ hx4_ => ?_)
    · obtain rfl := Option.some.inj hx4_
      exact s_out (true, ()) rfl ⟨f8_, le10_, rfl, s9_⟩
    · obtain ⟨r11_, hr12_, hx4_⟩ := Option.bind_eq_some_iff.1 hx4_
      refine s_call (bitset_Set_Has_sim  s9_ hr12_) ?_
      rintro _ h13_ ⟨f14_, t3, le16_, rfl, rfl, s15_⟩
      refine ⟨t3, rfl, ?_⟩
      obtain rfl := Option.some.inj hx4_
      exact s_out (t3, ()) rfl ⟨f14_, (le10_.trans le16_), rfl, s15_⟩
  · rintro z1 h18_ ⟨f19_, le20_, rfl, s21_⟩
    try dsimp only at hd
    refine s_cond hd rfl (fun hb71_ hd => ?_) (fun hb71_ hd => ?_)
    · obtain rfl := Option.some.inj hd
      exact finOf_back ⟨f19_, false, d_s_0, le20_, rfl, rfl, s21_⟩
    · obtain ⟨b22_, vs23_, e24_, hl25_, s26_⟩ := s21_.open
      obtain rfl : s_0 = some ⟨b22_, 0, none⟩ := by simpa using e24_
      clear e24_
      have s27_ := s26_.at1
      obtain ⟨v28_, w29_, rfl, hl31_, s30_⟩ := s27_.pair
      obtain ⟨g32_, s33_⟩ := s30_.ro
      subst g32_
      obtain ⟨t35_, e36_⟩ := s33_.rowCs
      subst e36_
      have n37_ := s33_.rowLen
      have s38_ : St f19_ (⟨Rep.row 56 (Ro.int .u64), [.slice t35_.1 t35_.2.1 t35_.2.2], d_s_0.2⟩ :: ⟨Rep.raw 59, [.pointer (some ⟨b22_, 0, none⟩)], [.int .i64 (d_s_0.1), .slice t35_.1 t35_.2.1 t35_.2.2]⟩ :: F) _ := s33_
      refine t_deref _ rfl ?_
      refine s_loadR (b := b22_) (j := 1) (x := t35_) s38_.at1 rfl ?_
      refine s_chk hd id fun hp39_ hd => ?_
      obtain ⟨x40_, hx41_, hd⟩ := Option.bind_eq_some_iff.1 hd
      obtain ⟨a42_, cs43_, ea44_, hi45_, q46_, cl47_⟩ := (s38_).get hx41_
      refine t_deref _ ea44_ (t_chk hi45_ ?_)
      obtain rfl := q46_
      refine s_load (x := x40_) (cl47_ 0 _ rfl) rfl ?_
      refine s_chk hd id fun hp49_ hd => ?_
      refine s_chk hd id fun hp50_ hd => ?_
      obtain ⟨y53_, hy54_, hd⟩ := Option.bind_eq_some_iff.1 hd
      obtain ⟨a58_, ea60_, q59_⟩ := s38_.there hy54_
      refine t_deref _ ea60_ (t_chk q59_ (s_set s38_ hy54_ rfl ea60_ ?_))
      intro h62_ s61_
      have n64_ := s61_.rowLen
      have n65_ := s61_.rowLen
      have s68_ := St.unro (r := (Ro.int .i64)) (cs := [.int .i64 (d_s_0.1)]) (x := (d_s_0.1)) s61_ rfl
      have s69_ := St.unpair s68_
      have s70_ : St f19_ (⟨Rep.obj 59 (Rep.prod (Rep.ro (Ro.int .i64)) (Rep.row 56 (Ro.int .u64))), [.pointer (some ⟨b22_, 0, none⟩)], ((d_s_0.1), y53_)⟩ :: F) _ := St.shut s69_.at1
      obtain rfl := Option.some.inj hd
      exact finOf_back ⟨f19_, true, ((d_s_0.1), y53_), le20_, rfl, rfl, s70_⟩

noncomputable def bitset_Set_Drop_D (s_0 : (Int × List Int)) (i_1 : Int) : Option (Bool × (Int × List Int)) :=
  (bitset_Set_Has_D s_0 i_1).bind fun t1 =>
  cond (!t1)
  (some (false, s_0))
  (need ((64 : Int) ≠ 0) <|
    (idx s_0.2 (IntKind.wrap .i64 (Int.tdiv i_1 (64 : Int)))).bind fun e35 =>
    need ((64 : Int) ≠ 0) <|
    need (0 ≤ (Int.tmod i_1 (64 : Int))) <|
    (setI s_0.2 (IntKind.wrap .i64 (Int.tdiv i_1 (64 : Int))) (IntKind.wrap .u64 (BitVec.toNat (BitVec.ofInt (IntKind.bits .u64) e35 &&& ~~~(BitVec.ofInt (IntKind.bits .u64) (IntKind.wrap .u64 ((1 : Int) * 2 ^ (min (Int.toNat (Int.tmod i_1 (64 : Int))) (IntKind.bits .u64)))))) : Nat))).bind fun m50 =>
    some (true, ((s_0.1), m50)))
theorem bitset_Set_Drop_sim {φ : Snap} {h : Heap} {F : List Chk} {s_0 : Option Addr} {d_s_0 : (Int × List Int)} {i_1 : Int}  (s0 : St φ (⟨Rep.obj 59 (Rep.prod (Rep.ro (Ro.int .i64)) (Rep.row 56 (Ro.int .u64))), [.pointer s_0], d_s_0⟩ :: F) h) {r : (Bool × (Int × List Int))} (hd : bitset_Set_Drop_D d_s_0 i_1 = some r) :
    CallsH Tryd.prog 25 [(.pointer s_0), (.int .i64 i_1)] h (Back fun v h' => ∃ ψ : Snap, ∃ y : Bool, ∃ l1_ : (Int × List Int), Sub φ ψ ∧ v = ((.one (.atom .bool)) : Sh).val y ∧ (y, l1_) = r ∧ St ψ (⟨Rep.obj 59 (Rep.prod (Rep.ro (Ro.int .i64)) (Rep.row 56 (Ro.int .u64))), [.pointer s_0], l1_⟩ :: F) h') := by
  refine calls_of mixed Tryd.func25 ?_
  rw [bitset_Set_Drop_den]
  unfold bitset_Set_Drop_T
  unfold bitset_Set_Drop_D at hd
  obtain ⟨r3_, hr4_, hd⟩ := Option.bind_eq_some_iff.1 hd
  refine s_call (bitset_Set_Has_sim  s0 hr4_) ?_
  rintro _ h5_ ⟨f6_, t1, le8_, rfl, rfl, s7_⟩
  refine ⟨t1, rfl, ?_⟩
  refine s_cond hd rfl (fun hb58_ hd => ?_) (fun hb58_ hd => ?_)
  · obtain rfl := Option.some.inj hd
    exact finOf_back ⟨f6_, false, d_s_0, le8_, rfl, rfl, s7_⟩
  · obtain ⟨b9_, vs10_, e11_, hl12_, s13_⟩ := s7_.open
    obtain rfl : s_0 = some ⟨b9_, 0, none⟩ := by simpa using e11_
    clear e11_
    have s14_ := s13_.at1
    obtain ⟨v15_, w16_, rfl, hl18_, s17_⟩ := s14_.pair
    obtain ⟨g19_, s20_⟩ := s17_.ro
    subst g19_
    obtain ⟨t22_, e23_⟩ := s20_.rowCs
    subst e23_
    have n24_ := s20_.rowLen
    have s25_ : St f6_ (⟨Rep.row 56 (Ro.int .u64), [.slice t22_.1 t22_.2.1 t22_.2.2], d_s_0.2⟩ :: ⟨Rep.raw 59, [.pointer (some ⟨b9_, 0, none⟩)], [.int .i64 (d_s_0.1), .slice t22_.1 t22_.2.1 t22_.2.2]⟩ :: F) _ := s20_
    refine t_deref _ rfl ?_
    refine s_loadR (b := b9_) (j := 1) (x := t22_) s25_.at1 rfl ?_
    refine s_chk hd id fun hp26_ hd => ?_
    obtain ⟨x27_, hx28_, hd⟩ := Option.bind_eq_some_iff.1 hd
    obtain ⟨a29_, cs30_, ea31_, hi32_, q33_, cl34_⟩ := (s25_).get hx28_
    refine t_deref _ ea31_ (t_chk hi32_ ?_)
    obtain rfl := q33_
    refine s_load (x := x27_) (cl34_ 0 _ rfl) rfl ?_
    refine s_chk hd id fun hp36_ hd => ?_
    refine s_chk hd id fun hp37_ hd => ?_
    obtain ⟨y40_, hy41_, hd⟩ := Option.bind_eq_some_iff.1 hd
    obtain ⟨a45_, ea47_, q46_⟩ := s25_.there hy41_
    refine t_deref _ ea47_ (t_chk q46_ (s_set s25_ hy41_ rfl ea47_ ?_))
    intro h49_ s48_
    have n51_ := s48_.rowLen
    have n52_ := s48_.rowLen
    have s55_ := St.unro (r := (Ro.int .i64)) (cs := [.int .i64 (d_s_0.1)]) (x := (d_s_0.1)) s48_ rfl
    have s56_ := St.unpair s55_
    have s57_ : St f6_ (⟨Rep.obj 59 (Rep.prod (Rep.ro (Ro.int .i64)) (Rep.row 56 (Ro.int .u64))), [.pointer (some ⟨b9_, 0, none⟩)], ((d_s_0.1), y40_)⟩ :: F) _ := St.shut s56_.at1
    obtain rfl := Option.some.inj hd
    exact finOf_back ⟨f6_, true, ((d_s_0.1), y40_), le8_, rfl, rfl, s57_⟩

noncomputable def digraph_Parts_3_D (a_0 : List Int) (b_1 : List Int) : Option Int :=
  (idx a_0 (0 : Int)).bind fun e13 =>
  (idx b_1 (0 : Int)).bind fun e22 =>
  some (IntKind.wrap .i64 (e13 - e22))
theorem digraph_Parts_3_sim {φ : Snap} {h : Heap} {F : List Chk} {a_0 : Slc} {d_a_0 : List Int} {b_1 : Slc} {d_b_1 : List Int} (k1_ : Ro.SliceIs (Ro.int .i64) φ a_0 d_a_0) (k3_ : Ro.SliceIs (Ro.int .i64) φ b_1 d_b_1) (s0 : St φ (F) h) {r : Int} (hd : digraph_Parts_3_D d_a_0 d_b_1 = some r) :
    CallsH Tryd.prog 33 [(.slice a_0.1 a_0.2.1 a_0.2.2), (.slice b_1.1 b_1.2.1 b_1.2.2)] h (Back fun v h' => ∃ ψ : Snap, ∃ y : Int, Sub φ ψ ∧ v = ((.one (.atom (.int .i64))) : Sh).val y ∧ y = r ∧ St ψ (F) h') := by
  refine calls_of mixed Tryd.func33 ?_
  rw [digraph_Parts_3_den]
  unfold digraph_Parts_3_T
  unfold digraph_Parts_3_D at hd
  have n2_ : a_0.2.1 = List.length d_a_0 := k1_.length
  have n4_ : b_1.2.1 = List.length d_b_1 := k3_.length
  obtain ⟨x5_, hx6_, hd⟩ := Option.bind_eq_some_iff.1 hd
  obtain ⟨a7_, cs8_, ea9_, hi10_, q11_, cl12_⟩ := k1_.get hx6_
  refine t_deref _ ea9_ (t_chk hi10_ ?_)
  obtain rfl := q11_
  refine s_load (x := x5_) (cellS_heap (Sub.trans (Sub.refl _) s0.sub) (cl12_ 0 _ rfl)) rfl ?_
  obtain ⟨x14_, hx15_, hd⟩ := Option.bind_eq_some_iff.1 hd
  obtain ⟨a16_, cs17_, ea18_, hi19_, q20_, cl21_⟩ := k3_.get hx15_
  refine t_deref _ ea18_ (t_chk hi19_ ?_)
  obtain rfl := q20_
  refine s_load (x := x14_) (cellS_heap (Sub.trans (Sub.refl _) s0.sub) (cl21_ 0 _ rfl)) rfl ?_
  obtain rfl := Option.some.inj hd
  exact finOf_back ⟨φ, (IntKind.wrap .i64 (x5_ - x14_)), (Sub.refl _), rfl, rfl, s0⟩

end Go.Proofs.YtbpbfoemghcfaaaDoor

/-
  DIGRAPH: slices.Clone: a new row of one's own, of a slice that stays, or that is somebody's own.
  Conditions: the slice's cells are there.
-/
namespace Go.Proofs.YtbpbfoemghcfaaaDoor
open Go Go.Eng
set_option linter.unusedVariables false
set_option maxRecDepth 100000

def cloneD (l : List Int) : Option (List Int) := if l.length ≤ 1073741824 then some l else none
theorem cloneD_some {l r : List Int} (h : cloneD l = some r) : l.length ≤ 1073741824 ∧ r = l := by
  unfold cloneD at h
  split at h
  · rename_i g; exact ⟨g, (Option.some.inj h).symm⟩
  · cases h
theorem app28 : AppT Tryd.prog 28 28 3 1 := ⟨Tryd.underlying28, .inl Tryd.underlying28, ⟨Tryd.t3, by kernel_rfl, rfl, ⟨_, rfl, rfl⟩, by decide, by decide⟩, by decide⟩
theorem app57 : AppT Tryd.prog 57 57 56 1 := ⟨Tryd.underlying57, .inl Tryd.underlying57, ⟨Tryd.t56, by kernel_rfl, rfl, ⟨_, rfl, rfl⟩, by decide, by decide⟩, by decide⟩
theorem all_ints {k : IntKind} {φ : Snap} (l : List Int) : (Ro.int k).All φ (l.map (Atom.int k).val) l := by
  induction l with
  | nil => exact .nil
  | cons x l ih => exact Ro.All.cons (a := [(Atom.int k).val x]) rfl ih
section
variable {φ : Snap} {h : Heap} {F : List Chk}
theorem clone46_core {t : Slc} {l : List Int} (s0 : St φ F h) (hl : l.length = t.2.1) (hc : ∀ h', St φ F h' → CellsAt h' t.1 (l.map (Atom.int .i64).val)) (hn : t.1 = none → l = []) (hb : l.length ≤ 1073741824) :
    CallsH Tryd.prog 46 [.slice t.1 t.2.1 t.2.2] h (Back fun v h' => ∃ y : Slc, v = ((.one (.atom .slice)) : Sh).val y ∧ St φ (⟨Rep.row 3 (Ro.int .i64), [.slice y.1 y.2.1 y.2.2], l⟩ :: F) h') := by
  refine calls_of mixed Tryd.func46 ?_
  rw [slices_Clone_int_int_den]
  unfold slices_Clone_int_int_T
  cases hp : t.1 with
  | none =>
    rw [hn hp]
    exact finOf_back ⟨(none, 0, 0), rfl, s0.nil _ _⟩
  | some a =>
    rw [Option.isNone_some]
    refine s_new (vs := []) s0 fun r h1 s1 => ?_
    have s2 := St.lit (r := Ro.int .i64) (l := []) (n := 0) s1 .nil rfl (by decide)
    refine s_append (r := Ro.int .i64) (ms := l) (l' := l) app28 s2 rfl (by rw [← hp]; exact hc h1 s1.tail) (all_ints l) hl (by unfold app; rw [if_pos (by simpa using hb)]; rfl) fun y h2 s3 => ?_
    exact finOf_back ⟨y, rfl, s3⟩
theorem clone53_core {t : Slc} {l : List Int} (s0 : St φ F h) (hl : l.length = t.2.1) (hc : ∀ h', St φ F h' → CellsAt h' t.1 (l.map (Atom.int .u64).val)) (hn : t.1 = none → l = []) (hb : l.length ≤ 1073741824) :
    CallsH Tryd.prog 53 [.slice t.1 t.2.1 t.2.2] h (Back fun v h' => ∃ y : Slc, v = ((.one (.atom .slice)) : Sh).val y ∧ St φ (⟨Rep.row 56 (Ro.int .u64), [.slice y.1 y.2.1 y.2.2], l⟩ :: F) h') := by
  refine calls_of mixed Tryd.func53 ?_
  rw [slices_Clone_uint64_uint64_den]
  unfold slices_Clone_uint64_uint64_T
  cases hp : t.1 with
  | none =>
    rw [hn hp]
    exact finOf_back ⟨(none, 0, 0), rfl, s0.nil _ _⟩
  | some a =>
    rw [Option.isNone_some]
    refine s_new (vs := []) s0 fun r h1 s1 => ?_
    have s2 := St.lit (r := Ro.int .u64) (l := []) (n := 0) s1 .nil rfl (by decide)
    refine s_append (r := Ro.int .u64) (ms := l) (l' := l) app57 s2 rfl (by rw [← hp]; exact hc h1 s1.tail) (all_ints l) hl (by unfold app; rw [if_pos (by simpa using hb)]; rfl) fun y h2 s3 => ?_
    exact finOf_back ⟨y, rfl, s3⟩
theorem ro_nil {k : IntKind} {t : Slc} {l : List Int} (H : Ro.SliceIs (Ro.int k) φ t l) : t.1 = none → l = [] := H.2.2.2.1
theorem ro_cells {k : IntKind} {t : Slc} {l : List Int} (H : Ro.SliceIs (Ro.int k) φ t l) {h' : Heap} (s : St φ F h') : CellsAt h' t.1 (l.map (Atom.int k).val) := by
  obtain ⟨vs, ha, hc⟩ := H.heap s.sub
  rw [all_atom ha] at hc
  exact hc
theorem row_nil {k : IntKind} {ty : TypeId} {t : Slc} {l : List Int} (H : St φ (⟨Rep.row ty (Ro.int k), [.slice t.1 t.2.1 t.2.2], l⟩ :: F) h) : t.1 = none → l = [] := by
  intro hp
  obtain ⟨vs, ha, hc⟩ := H.all
  cases l with
  | nil => rfl
  | cons x l =>
    have e := all_atom ha
    obtain ⟨a, ha', _⟩ := hc 0 ((Atom.int k).val x) (by rw [e]; rfl)
    rw [hp] at ha'; cases ha'
theorem row_cells {k : IntKind} {ty : TypeId} {t : Slc} {l : List Int} {h' : Heap} (s : St φ (⟨Rep.row ty (Ro.int k), [.slice t.1 t.2.1 t.2.2], l⟩ :: F) h') : CellsAt h' t.1 (l.map (Atom.int k).val) := by
  obtain ⟨vs, ha, hc⟩ := s.all
  rw [all_atom ha] at hc
  exact hc
theorem clone46_ro {t : Slc} {l : List Int} (k : Ro.SliceIs (Ro.int .i64) φ t l) (s0 : St φ F h) {r : List Int} (hd : cloneD l = some r) : CallsH Tryd.prog 46 [.slice t.1 t.2.1 t.2.2] h
    (Back fun v h' => ∃ ψ : Snap, ∃ y : Slc, ∃ l1 : List Int, Sub φ ψ ∧ v = ((.one (.atom .slice)) : Sh).val y ∧ l1 = r ∧ St ψ (⟨Rep.row 3 (Ro.int .i64), [.slice y.1 y.2.1 y.2.2], l1⟩ :: F) h') := by
  obtain ⟨hb, rfl⟩ := cloneD_some hd
  refine (clone46_core s0 k.length.symm (fun h' s => ro_cells k s) (ro_nil k) hb).mono fun e h' ⟨v, hv, y, h1, h2⟩ => ⟨v, hv, φ, y, _, Sub.refl _, h1, rfl, h2⟩
theorem clone46_own {t : Slc} {l : List Int} (s0 : St φ (⟨Rep.row 3 (Ro.int .i64), [.slice t.1 t.2.1 t.2.2], l⟩ :: F) h) {r : List Int} (hd : cloneD l = some r) : CallsH Tryd.prog 46 [.slice t.1 t.2.1 t.2.2] h
    (Back fun v h' => ∃ ψ : Snap, ∃ y : Slc, ∃ l1 : List Int, Sub φ ψ ∧ v = ((.one (.atom .slice)) : Sh).val y ∧ l1 = r ∧ St ψ (⟨Rep.row 3 (Ro.int .i64), [.slice y.1 y.2.1 y.2.2], l1⟩ :: ⟨Rep.row 3 (Ro.int .i64), [.slice t.1 t.2.1 t.2.2], l⟩ :: F) h') := by
  obtain ⟨hb, rfl⟩ := cloneD_some hd
  refine (clone46_core s0 s0.rowLen.symm (fun h' s => row_cells s) (row_nil s0) hb).mono fun e h' ⟨v, hv, y, h1, h2⟩ => ⟨v, hv, φ, y, _, Sub.refl _, h1, rfl, h2⟩
theorem clone53_ro {t : Slc} {l : List Int} (k : Ro.SliceIs (Ro.int .u64) φ t l) (s0 : St φ F h) {r : List Int} (hd : cloneD l = some r) : CallsH Tryd.prog 53 [.slice t.1 t.2.1 t.2.2] h
    (Back fun v h' => ∃ ψ : Snap, ∃ y : Slc, ∃ l1 : List Int, Sub φ ψ ∧ v = ((.one (.atom .slice)) : Sh).val y ∧ l1 = r ∧ St ψ (⟨Rep.row 56 (Ro.int .u64), [.slice y.1 y.2.1 y.2.2], l1⟩ :: F) h') := by
  obtain ⟨hb, rfl⟩ := cloneD_some hd
  refine (clone53_core s0 k.length.symm (fun h' s => ro_cells k s) (ro_nil k) hb).mono fun e h' ⟨v, hv, y, h1, h2⟩ => ⟨v, hv, φ, y, _, Sub.refl _, h1, rfl, h2⟩
theorem clone53_own {t : Slc} {l : List Int} (s0 : St φ (⟨Rep.row 56 (Ro.int .u64), [.slice t.1 t.2.1 t.2.2], l⟩ :: F) h) {r : List Int} (hd : cloneD l = some r) : CallsH Tryd.prog 53 [.slice t.1 t.2.1 t.2.2] h
    (Back fun v h' => ∃ ψ : Snap, ∃ y : Slc, ∃ l1 : List Int, Sub φ ψ ∧ v = ((.one (.atom .slice)) : Sh).val y ∧ l1 = r ∧ St ψ (⟨Rep.row 56 (Ro.int .u64), [.slice y.1 y.2.1 y.2.2], l1⟩ :: ⟨Rep.row 56 (Ro.int .u64), [.slice t.1 t.2.1 t.2.2], l⟩ :: F) h') := by
  obtain ⟨hb, rfl⟩ := cloneD_some hd
  refine (clone53_core s0 s0.rowLen.symm (fun h' s => row_cells s) (row_nil s0) hb).mono fun e h' ⟨v, hv, y, h1, h2⟩ => ⟨v, hv, φ, y, _, Sub.refl _, h1, rfl, h2⟩
end
end Go.Proofs.YtbpbfoemghcfaaaDoor

namespace Go.Proofs.YtbpbfoemghcfaaaDoor
open Go Go.Eng
set_option linter.unusedVariables false
set_option maxRecDepth 100000


theorem makeT_57 : MakeT Tryd.prog 57 56 (.int .u64 (0 : Int)) := ⟨Tryd.underlying57, ⟨Tryd.t56, by kernel_rfl, rfl, ⟨_, rfl, rfl⟩, by decide⟩⟩
noncomputable def bitset_New_D (n_0 : Int) : Option (Int × List Int) :=
  need ((64 : Int) ≠ 0) <|
  (mkRow (IntKind.wrap .i64 (Int.tdiv (IntKind.wrap .i64 ((IntKind.wrap .i64 ((if (if (1000 : Int) < n_0 then (1000 : Int) else n_0) > (0 : Int) then (if (1000 : Int) < n_0 then (1000 : Int) else n_0) else (0 : Int)) + (64 : Int))) - (1 : Int))) (64 : Int))) (0 : Int)).bind fun t1 =>
  some ((if (if (1000 : Int) < n_0 then (1000 : Int) else n_0) > (0 : Int) then (if (1000 : Int) < n_0 then (1000 : Int) else n_0) else (0 : Int)), t1)
theorem bitset_New_sim {φ : Snap} {h : Heap} {F : List Chk} {n_0 : Int}  (s0 : St φ (F) h) {r : (Int × List Int)} (hd : bitset_New_D n_0 = some r) :
    CallsH Tryd.prog 51 [(.int .i64 n_0)] h (Back fun v h' => ∃ ψ : Snap, ∃ y : Option Addr, ∃ l1_ : (Int × List Int), Sub φ ψ ∧ v = ((.one (.atom .pointer)) : Sh).val y ∧ l1_ = r ∧ St ψ (⟨Rep.obj 59 (Rep.prod (Rep.ro (Ro.int .i64)) (Rep.row 56 (Ro.int .u64))), [.pointer y], l1_⟩ :: F) h') := by
  refine calls_of mixed Tryd.func51 ?_
  rw [bitset_New_den]
  unfold bitset_New_T
  unfold bitset_New_D at hd
  refine s_chk hd id fun hp2_ hd => ?_
  obtain ⟨y3_, hy4_, hd⟩ := Option.bind_eq_some_iff.1 hd
  refine s_make (r := (Ro.int .u64)) (x := (0 : Int)) makeT_57 s0 rfl rfl hy4_ ?_
  intro t1 h5_ s6_
  have n7_ := s6_.rowLen
  refine s_new (vs := [.int .i64 (if (if (1000 : Int) < n_0 then (1000 : Int) else n_0) > (0 : Int) then (if (1000 : Int) < n_0 then (1000 : Int) else n_0) else (0 : Int)), .slice t1.1 t1.2.1 t1.2.2]) s6_ ?_
  intro r2 h9_ s8_
  have s10_ := s8_.at1
  have s12_ := St.unro (r := (Ro.int .i64)) (cs := [.int .i64 (if (if (1000 : Int) < n_0 then (1000 : Int) else n_0) > (0 : Int) then (if (1000 : Int) < n_0 then (1000 : Int) else n_0) else (0 : Int))]) (x := (if (if (1000 : Int) < n_0 then (1000 : Int) else n_0) > (0 : Int) then (if (1000 : Int) < n_0 then (1000 : Int) else n_0) else (0 : Int))) s10_ rfl
  have s13_ := St.unpair s12_
  have s14_ : St φ (⟨Rep.obj 59 (Rep.prod (Rep.ro (Ro.int .i64)) (Rep.row 56 (Ro.int .u64))), [.pointer (some ⟨r2, 0, none⟩)], ((if (if (1000 : Int) < n_0 then (1000 : Int) else n_0) > (0 : Int) then (if (1000 : Int) < n_0 then (1000 : Int) else n_0) else (0 : Int)), y3_)⟩ :: F) _ := St.shut s13_.at1
  obtain rfl := Option.some.inj hd
  exact finOf_back ⟨φ, (some ⟨r2, 0, none⟩), ((if (if (1000 : Int) < n_0 then (1000 : Int) else n_0) > (0 : Int) then (if (1000 : Int) < n_0 then (1000 : Int) else n_0) else (0 : Int)), y3_), (Sub.refl _), rfl, rfl, s14_⟩

noncomputable def bitset_Of_D (n_0 : Int) (l_1 : List Int) : Option (Int × List Int) :=
  (bitset_New_D n_0).bind fun t1 =>
  (forS (σ := (Int × List Int)) (0 : Int) (((List.length l_1) : Nat) : Int) t1 fun i_z3 z3 =>
    (idx l_1 i_z3).bind fun e34 =>
    (bitset_Set_Add_D z3 e34).bind fun t6 =>
    some t6.2).bind fun z2 =>
  some z2
theorem bitset_Of_sim {φ : Snap} {h : Heap} {F : List Chk} {n_0 : Int} {l_1 : Slc} {d_l_1 : List Int} (k1_ : Ro.SliceIs (Ro.int .i64) φ l_1 d_l_1) (s0 : St φ (F) h) {r : (Int × List Int)} (hd : bitset_Of_D n_0 d_l_1 = some r) :
    CallsH Tryd.prog 35 [(.int .i64 n_0), (.slice l_1.1 l_1.2.1 l_1.2.2)] h (Back fun v h' => ∃ ψ : Snap, ∃ y : Option Addr, ∃ l3_ : (Int × List Int), Sub φ ψ ∧ v = ((.one (.atom .pointer)) : Sh).val y ∧ l3_ = r ∧ St ψ (⟨Rep.obj 59 (Rep.prod (Rep.ro (Ro.int .i64)) (Rep.row 56 (Ro.int .u64))), [.pointer y], l3_⟩ :: F) h') := by
  refine calls_of mixed Tryd.func35 ?_
  rw [bitset_Of_den]
  unfold bitset_Of_T
  unfold bitset_Of_D at hd
  have n2_ : l_1.2.1 = List.length d_l_1 := k1_.length
  obtain ⟨r4_, hr5_, hd⟩ := Option.bind_eq_some_iff.1 hd
  refine s_call (bitset_New_sim  s0 hr5_) ?_
  rintro _ h6_ ⟨f7_, t1, d10_, le9_, rfl, rfl, s8_⟩
  refine ⟨t1, rfl, ?_⟩
  obtain ⟨g11_, hx12_, hd⟩ := Option.bind_eq_some_iff.1 hd
  refine s_block (fun (y : Int × Unit) w_ g => ∃ ψ : Snap, ∃ l13_ : (Int × List Int), Sub f7_ ψ ∧ l13_ = g ∧ St ψ (⟨Rep.obj 59 (Rep.prod (Rep.ro (Ro.int .i64)) (Rep.row 56 (Ro.int .u64))), [.pointer t1], l13_⟩ :: F) w_) (g := g11_) ?_ ?_
  · refine s_forS hx12_ (fun i15_ (y : Int × Unit) w_ g => ∃ ψ : Snap, ∃ l14_ : (Int × List Int), Sub f7_ ψ ∧ y.1 = i15_ ∧ l14_ = g ∧ St ψ (⟨Rep.obj 59 (Rep.prod (Rep.ro (Ro.int .i64)) (Rep.row 56 (Ro.int .u64))), [.pointer t1], l14_⟩ :: F) w_) ((0 : Int), ()) rfl ⟨f7_, d10_, (Sub.refl _), rfl, rfl, s8_⟩ ?_ ?_
    · rintro _ z3 h21_ _ _ ⟨f18_, d22_, le19_, rfl, rfl, s20_⟩ he16_ h124_ h225_ hw23_
      try dsimp only at he16_ h124_ h225_ hw23_
      refine t_true (by rw [n2_]; exact decide_eq_true h225_) ?_
      obtain ⟨x26_, hx27_, he16_⟩ := Option.bind_eq_some_iff.1 he16_
      obtain ⟨a28_, cs29_, ea30_, hi31_, q32_, cl33_⟩ := (k1_.mono (le9_.trans le19_)).get hx27_
      refine t_deref _ ea30_ (t_chk hi31_ ?_)
      obtain rfl := q32_
      refine s_load (x := x26_) (cellS_heap (Sub.trans (Sub.refl _) s20_.sub) (cl33_ 0 _ rfl)) rfl ?_
      obtain ⟨r35_, hr36_, he16_⟩ := Option.bind_eq_some_iff.1 he16_
      refine s_call (bitset_Set_Add_sim  s20_ hr36_) ?_
      rintro _ h37_ ⟨f38_, t6, d41_, le40_, rfl, rfl, s39_⟩
      refine ⟨t6, rfl, ?_⟩
      try dsimp only at he16_
      obtain rfl := Option.some.inj he16_
      exact s_next ((IntKind.wrap .i64 (z3.1 + (1 : Int))), ()) _ rfl rfl ⟨f38_, d41_, (le19_.trans le40_), hw23_, rfl, s39_⟩
    · rintro _ z3 h45_ ⟨f42_, d46_, le43_, rfl, rfl, s44_⟩ hge47_
      refine t_false (by rw [n2_]; exact decide_eq_false (Int.not_lt.2 hge47_)) ?_
      exact around_brk (meetB_brk (z3.1, ()) rfl ⟨f42_, d46_, le43_, rfl, s44_⟩)
  · rintro z2 h49_ ⟨f50_, d53_, le51_, rfl, s52_⟩
    try dsimp only at hd
    obtain rfl := Option.some.inj hd
    exact finOf_back ⟨f50_, t1, d53_, (le9_.trans le51_), rfl, rfl, s52_⟩

noncomputable def bitset_Set_Copy_D (s_0 : (Int × List Int)) : Option (Int × List Int) :=
  (cloneD s_0.2).bind fun t5 =>
  some ((s_0.1), t5)
theorem bitset_Set_Copy_sim {φ : Snap} {h : Heap} {F : List Chk} {s_0 : Option Addr} {d_s_0 : (Int × List Int)}  (s0 : St φ (⟨Rep.obj 59 (Rep.prod (Rep.ro (Ro.int .i64)) (Rep.row 56 (Ro.int .u64))), [.pointer s_0], d_s_0⟩ :: F) h) {r : (Int × List Int)} (hd : bitset_Set_Copy_D d_s_0 = some r) :
    CallsH Tryd.prog 41 [(.pointer s_0)] h (Back fun v h' => ∃ ψ : Snap, ∃ y : Option Addr, ∃ l1_ : (Int × List Int), Sub φ ψ ∧ v = ((.one (.atom .pointer)) : Sh).val y ∧ l1_ = r ∧ St ψ (⟨Rep.obj 59 (Rep.prod (Rep.ro (Ro.int .i64)) (Rep.row 56 (Ro.int .u64))), [.pointer y], l1_⟩ :: ⟨Rep.obj 59 (Rep.prod (Rep.ro (Ro.int .i64)) (Rep.row 56 (Ro.int .u64))), [.pointer s_0], d_s_0⟩ :: F) h') := by
  refine calls_of mixed Tryd.func41 ?_
  rw [bitset_Set_Copy_den]
  unfold bitset_Set_Copy_T
  unfold bitset_Set_Copy_D at hd
  obtain ⟨b2_, vs3_, e4_, hl5_, s6_⟩ := s0.open
  obtain rfl : s_0 = some ⟨b2_, 0, none⟩ := by simpa using e4_
  clear e4_
  have s7_ := s6_.at1
  obtain ⟨v8_, w9_, rfl, hl11_, s10_⟩ := s7_.pair
  obtain ⟨g12_, s13_⟩ := s10_.ro
  subst g12_
  obtain ⟨t15_, e16_⟩ := s13_.rowCs
  subst e16_
  have n17_ := s13_.rowLen
  have s18_ : St φ (⟨Rep.row 56 (Ro.int .u64), [.slice t15_.1 t15_.2.1 t15_.2.2], d_s_0.2⟩ :: ⟨Rep.raw 59, [.pointer (some ⟨b2_, 0, none⟩)], [.int .i64 (d_s_0.1), .slice t15_.1 t15_.2.1 t15_.2.2]⟩ :: F) _ := s13_
  refine t_deref _ rfl ?_
  refine s_loadR (b := b2_) (j := 0) (x := (d_s_0.1)) s18_.at1 rfl ?_
  refine t_deref _ rfl ?_
  refine s_loadR (b := b2_) (j := 1) (x := t15_) s18_.at1 rfl ?_
  obtain ⟨r19_, hr20_, hd⟩ := Option.bind_eq_some_iff.1 hd
  refine s_call (clone53_own  s18_ hr20_) ?_
  rintro _ h21_ ⟨f22_, t5, d25_, le24_, rfl, rfl, s23_⟩
  refine ⟨t5, rfl, ?_⟩
  have n26_ := s23_.rowLen
  refine t_still (St.cell (b := b2_) (j := 0) s23_.at2 rfl) ?_
  refine s_new (vs := [.int .i64 (d_s_0.1), .slice t5.1 t5.2.1 t5.2.2]) s23_ ?_
  intro r6 h28_ s27_
  have s29_ := s27_.at1
  have s31_ := St.unro (r := (Ro.int .i64)) (cs := [.int .i64 (d_s_0.1)]) (x := (d_s_0.1)) s29_ rfl
  have s32_ := St.unpair s31_
  have s33_ : St f22_ (⟨Rep.obj 59 (Rep.prod (Rep.ro (Ro.int .i64)) (Rep.row 56 (Ro.int .u64))), [.pointer (some ⟨r6, 0, none⟩)], ((d_s_0.1), d25_)⟩ :: ⟨Rep.row 56 (Ro.int .u64), [.slice t15_.1 t15_.2.1 t15_.2.2], d_s_0.2⟩ :: ⟨Rep.raw 59, [.pointer (some ⟨b2_, 0, none⟩)], [.int .i64 (d_s_0.1), .slice t15_.1 t15_.2.1 t15_.2.2]⟩ :: F) _ := St.shut s32_.at1
  have s34_ := s33_.at1
  have s36_ := St.unro (r := (Ro.int .i64)) (cs := [.int .i64 (d_s_0.1)]) (x := (d_s_0.1)) s34_ rfl
  have s37_ := St.unpair s36_
  have s38_ : St f22_ (⟨Rep.obj 59 (Rep.prod (Rep.ro (Ro.int .i64)) (Rep.row 56 (Ro.int .u64))), [.pointer (some ⟨b2_, 0, none⟩)], ((d_s_0.1), d_s_0.2)⟩ :: ⟨Rep.obj 59 (Rep.prod (Rep.ro (Ro.int .i64)) (Rep.row 56 (Ro.int .u64))), [.pointer (some ⟨r6, 0, none⟩)], ((d_s_0.1), d25_)⟩ :: F) _ := St.shut s37_.at2
  obtain rfl := Option.some.inj hd
  have s39_ := s38_.at1
  exact finOf_back ⟨f22_, (some ⟨r6, 0, none⟩), ((d_s_0.1), d25_), le24_, rfl, rfl, s39_⟩

end Go.Proofs.YtbpbfoemghcfaaaDoor

/-
  DIGRAPH, PLAIN: words of 64 bits; sets as words.
  Conditions: none.
-/
namespace Go.Proofs.YtbpbfoemghcfaaaDoor
open Go Go.Eng
set_option linter.unusedVariables false

/-! ## words -/
theorem wu64 {n : Nat} (h : n < 18446744073709551616) : IntKind.wrap .u64 (n : Int) = (n : Int) := by
  unfold IntKind.wrap
  simp only [IntKind.bits, IntKind.signed]
  have : (n : Int) % 18446744073709551616 = (n : Int) := by omega
  simp
  omega
theorem wi64 {n : Int} (h0 : -9223372036854775808 ≤ n) (h1 : n ≤ 9223372036854775807) : IntKind.wrap .i64 n = n := by
  unfold IntKind.wrap
  simp only [IntKind.bits, IntKind.signed]
  simp
  omega
theorem ofInt_nat {w : Nat} (hw : w < 18446744073709551616) : (BitVec.ofInt (IntKind.bits .u64) (w : Int)).toNat = w := by
  rw [BitVec.toNat_ofInt]
  have e : ((2 ^ IntKind.bits .u64 : Nat) : Int) = 18446744073709551616 := by decide
  rw [e]
  omega
theorem shl_word {k : Nat} (hk : k < 64) : IntKind.wrap .u64 ((1 : Int) * 2 ^ (min k (IntKind.bits .u64))) = ((2 ^ k : Nat) : Int) := by
  have h1 : min k (IntKind.bits .u64) = k := by simp only [IntKind.bits]; omega
  have h2 : (1 : Int) * 2 ^ k = ((2 ^ k : Nat) : Int) := by simp
  rw [h1, h2]
  exact wu64 (by
    have : 2 ^ k < 2 ^ 64 := Nat.pow_lt_pow_right (by decide) hk
    simpa using this)
theorem pow_word {k : Nat} (hk : k < 64) : (2 : Nat) ^ k < 18446744073709551616 := by
  have : 2 ^ k < 2 ^ 64 := Nat.pow_lt_pow_right (by decide) hk
  simpa using this
theorem or_lt {a b : Nat} (ha : a < 18446744073709551616) (hb : b < 18446744073709551616) : a ||| b < 18446744073709551616 := by
  have := Nat.or_lt_two_pow (n := 64) (x := a) (y := b) (by simpa using ha) (by simpa using hb)
  simpa using this
theorem and_lt {a b : Nat} (ha : a < 18446744073709551616) : a &&& b < 18446744073709551616 := Nat.lt_of_le_of_lt Nat.and_le_left ha
theorem or_word {w v : Nat} (hw : w < 18446744073709551616) (hv : v < 18446744073709551616) :
    IntKind.wrap .u64 (BitVec.toNat (BitVec.ofInt (IntKind.bits .u64) (w : Int) ||| (BitVec.ofInt (IntKind.bits .u64) (v : Int))) : Nat) = ((w ||| v : Nat) : Int) := by
  rw [BitVec.toNat_or, ofInt_nat hw, ofInt_nat hv]
  exact wu64 (or_lt hw hv)
theorem and_word {w v : Nat} (hw : w < 18446744073709551616) (hv : v < 18446744073709551616) :
    IntKind.wrap .u64 (BitVec.toNat (BitVec.ofInt (IntKind.bits .u64) (w : Int) &&& (BitVec.ofInt (IntKind.bits .u64) (v : Int))) : Nat) = ((w &&& v : Nat) : Int) := by
  rw [BitVec.toNat_and, ofInt_nat hw, ofInt_nat hv]
  exact wu64 (and_lt hw)
theorem high_bit {w j : Nat} (hw : w < 18446744073709551616) (hj : 64 ≤ j) : w.testBit j = false := Nat.testBit_lt_two_pow (Nat.lt_of_lt_of_le hw (by
  have : 2 ^ 64 ≤ 2 ^ j := Nat.pow_le_pow_right (by decide) hj
  simpa using this))
theorem clear_word {w k : Nat} (hw : w < 18446744073709551616) (hk : k < 64) : ∃ u : Nat, u < 18446744073709551616 ∧
    IntKind.wrap .u64 (BitVec.toNat (BitVec.ofInt (IntKind.bits .u64) (w : Int) &&& ~~~(BitVec.ofInt (IntKind.bits .u64) ((2 ^ k : Nat) : Int))) : Nat) = (u : Int) ∧ ∀ j, u.testBit j = (w.testBit j && !decide (j = k)) := by
  have e : (2 : Nat) ^ IntKind.bits .u64 = 18446744073709551616 := by decide
  have hlt : (BitVec.ofInt (IntKind.bits .u64) (w : Int) &&& ~~~(BitVec.ofInt (IntKind.bits .u64) ((2 ^ k : Nat) : Int))).toNat < 18446744073709551616 := by
    have := (BitVec.ofInt (IntKind.bits .u64) (w : Int) &&& ~~~(BitVec.ofInt (IntKind.bits .u64) ((2 ^ k : Nat) : Int))).isLt
    rwa [e] at this
  refine ⟨_, hlt, wu64 hlt, fun j => ?_⟩
  rw [BitVec.toNat_and, BitVec.toNat_not, ofInt_nat hw, ofInt_nat (pow_word hk), Nat.testBit_and]
  have e2 : (2 : Nat) ^ IntKind.bits .u64 - 1 - 2 ^ k = 2 ^ 64 - (2 ^ k + 1) := by
    have : IntKind.bits .u64 = 64 := rfl
    rw [this]
    omega
  rw [e2, Nat.testBit_two_pow_sub_succ (by simpa using pow_word hk), Nat.testBit_two_pow]
  by_cases hj : j < 64
  · by_cases hjk : j = k
    · subst hjk; simp
    · have : ¬ k = j := fun h => hjk h.symm
      simp [hj, hjk, this]
  · rw [high_bit hw (by omega)]
    rfl
theorem bit_word {w k : Nat} (hw : w < 18446744073709551616) (hk : k < 64) :
    ((IntKind.wrap .u64 (BitVec.toNat (BitVec.ofInt (IntKind.bits .u64) (Int.fdiv (w : Int) (2 ^ (min k (IntKind.bits .u64)))) &&& (BitVec.ofInt (IntKind.bits .u64) (1 : Int))) : Nat)) == (1 : Int)) = w.testBit k := by
  have h1 : min k (IntKind.bits .u64) = k := by simp only [IntKind.bits]; omega
  have h2 : Int.fdiv (w : Int) (2 ^ k) = ((w / 2 ^ k : Nat) : Int) := by
    rw [Int.fdiv_eq_ediv_of_nonneg _ (Int.pow_nonneg (by decide))]
    simp
  have h3 : (1 : Int) = ((1 : Nat) : Int) := rfl
  rw [h1, h2, h3, and_word (Nat.lt_of_le_of_lt (Nat.div_le_self _ _) hw) (by decide)]
  have h4 : w / 2 ^ k &&& 1 = (w / 2 ^ k) % 2 := Nat.and_one_is_mod _
  rw [h4, Nat.testBit_eq_decide_div_mod_eq]
  by_cases h : w / 2 ^ k % 2 = 1
  · rw [h]; rfl
  · have : w / 2 ^ k % 2 = 0 := by omega
    rw [this]
    rfl
end Go.Proofs.YtbpbfoemghcfaaaDoor

/-
  DIGRAPH, PLAIN: what the program's sets have: New, Of, Has, Add, Drop.
  Conditions: none.
-/
namespace Go.Proofs.YtbpbfoemghcfaaaDoor
open Go Go.Eng
set_option linter.unusedVariables false

abbrev SetD := Int × List Int
def bitS (ws : List Int) (i : Nat) : Bool := ((ws[i / 64]?).getD 0).toNat.testBit (i % 64)
def mem (s : SetD) (i : Int) : Bool := decide (0 ≤ i) && bitS s.2 i.toNat
structure OkS (s : SetD) : Prop where
  lo : 0 ≤ s.1
  hi : s.1 ≤ 1000
  len : s.2.length = (s.1.toNat + 63) / 64
  word : ∀ x ∈ s.2, 0 ≤ x ∧ x < 18446744073709551616
  top : ∀ i : Nat, s.1 ≤ (i : Int) → bitS s.2 i = false
theorem OkS.at {s : SetD} (H : OkS s) {k : Nat} (hk : (k : Int) < s.1) : ∃ w : Nat, ∃ h : k / 64 < s.2.length, s.2[k / 64] = (w : Int) ∧ w < 18446744073709551616 ∧ bitS s.2 k = w.testBit (k % 64) := by
  have h1 := H.len
  have h : k / 64 < s.2.length := by omega
  have h2 := H.word _ (List.getElem_mem h)
  refine ⟨s.2[k / 64].toNat, h, by omega, by omega, ?_⟩
  unfold bitS
  rw [List.getElem?_eq_getElem h]
  rfl
theorem mem_out {s : SetD} (H : OkS s) {i : Int} (h : i < 0 ∨ s.1 ≤ i) : mem s i = false := by
  unfold mem
  rcases h with h | h
  · rw [decide_eq_false (by omega)]; rfl
  · rw [H.top i.toNat (by omega), Bool.and_false]
theorem mem_lt {s : SetD} (H : OkS s) {i : Int} (h : mem s i = true) : 0 ≤ i ∧ i < s.1 := by
  by_cases h1 : i < 0 ∨ s.1 ≤ i
  · rw [mem_out H h1] at h; cases h
  · omega
theorem mem_nat (s : SetD) (k : Nat) : mem s (k : Int) = bitS s.2 k := by
  unfold mem
  rw [decide_eq_true (by omega), Int.toNat_natCast, Bool.true_and]
theorem tdiv64 (k : Nat) (hk : k < 1000) : IntKind.wrap .i64 (Int.tdiv (k : Int) 64) = ((k / 64 : Nat) : Int) := by
  rw [Int.tdiv_eq_ediv_of_nonneg (by omega), wi64 (by omega) (by omega)]
  omega
theorem tmod64 (k : Nat) : Int.tmod (k : Int) 64 = ((k % 64 : Nat) : Int) := by
  rw [Int.tmod_eq_emod_of_nonneg (by omega)]
  omega
theorem is_ok (s : SetD) (i : Int) : bitset_Set_is_D s i = some (decide (0 ≤ i ∧ i < s.1)) := by
  unfold bitset_Set_is_D
  by_cases h : 0 ≤ i
  · rw [decide_eq_true (show i ≥ 0 from h), cond_true, Option.bind_some]
    by_cases h2 : i < s.1
    · rw [decide_eq_true h2, decide_eq_true ⟨h, h2⟩]
    · rw [decide_eq_false h2, decide_eq_false fun g => h2 g.2]
  · rw [decide_eq_false (show ¬ i ≥ 0 from h), cond_false, Option.bind_some, decide_eq_false fun g => h g.1]
theorem has_ok {s : SetD} (H : OkS s) (i : Int) : bitset_Set_Has_D s i = some (mem s i) := by
  unfold bitset_Set_Has_D
  rw [is_ok, Option.bind_some]
  by_cases h : 0 ≤ i ∧ i < s.1
  · obtain ⟨k, rfl⟩ : ∃ k : Nat, i = (k : Int) := ⟨i.toNat, by omega⟩
    obtain ⟨w, hk, e1, e2, e3⟩ := H.at h.2
    have := H.hi
    rw [decide_eq_true h, cond_true, tdiv64 k (by omega), tmod64, idx_lt hk, need_ok (by decide)]
    simp only [Option.bind_some]
    rw [need_ok (by decide), need_ok (by omega), e1, Int.toNat_natCast, bit_word e2 (Nat.mod_lt _ (by decide)), mem_nat, e3]
    rfl
  · rw [decide_eq_false h, mem_out H (by omega)]
    rfl
theorem bit_set {ws : List Int} {k : Nat} (hk : k / 64 < ws.length) (v : Nat) (j : Nat) : bitS (ws.set (k / 64) (v : Int)) j = if j / 64 = k / 64 then v.testBit (j % 64) else bitS ws j := by
  unfold bitS
  rw [List.getElem?_set]
  by_cases h : j / 64 = k / 64
  · rw [if_pos h.symm, if_pos hk, if_pos h]
    rfl
  · rw [if_neg fun e => h e.symm, if_neg h]
theorem same_bit {j k : Nat} (h : j / 64 = k / 64) : (decide (k % 64 = j % 64)) = decide (j = k) := by
  by_cases e : j = k
  · subst e; simp
  · rw [decide_eq_false e, decide_eq_false (by omega)]
theorem OkS.set {s : SetD} (H : OkS s) {k v : Nat} (hk : (k : Int) < s.1) (hv : v < 18446744073709551616) (ht : ∀ j : Nat, s.1 ≤ (j : Int) → j / 64 = k / 64 → v.testBit (j % 64) = false) : OkS (s.1, s.2.set (k / 64) (v : Int)) := by
  obtain ⟨w, h, _⟩ := H.at hk
  refine ⟨H.lo, H.hi, ?_, ?_, ?_⟩
  · show (s.2.set _ _).length = _
    rw [List.length_set]; exact H.len
  · intro x hx
    rcases List.mem_or_eq_of_mem_set hx with hx | hx
    · exact H.word x hx
    · subst hx; omega
  · intro j hj
    show bitS (s.2.set _ _) j = false
    rw [bit_set h]
    by_cases e : j / 64 = k / 64
    · rw [if_pos e]; exact ht j hj e
    · rw [if_neg e]; exact H.top j hj
theorem add_ok {s : SetD} (H : OkS s) (i : Int) : ∃ s', bitset_Set_Add_D s i = some (decide (0 ≤ i ∧ i < s.1) && !mem s i, s') ∧ OkS s' ∧ s'.1 = s.1 ∧ ∀ j, mem s' j = (mem s j || decide (j = i ∧ 0 ≤ i ∧ i < s.1)) := by
  unfold bitset_Set_Add_D
  rw [is_ok, has_ok H]
  simp only [Option.bind_some]
  by_cases h : 0 ≤ i ∧ i < s.1
  · rw [decide_eq_true h]
    simp only [Bool.not_true, cond_false, Option.bind_some, Bool.true_and]
    cases hm : mem s i with
    | true =>
      refine ⟨s, rfl, H, rfl, fun j => ?_⟩
      by_cases hj : j = i
      · subst hj; rw [hm]; rfl
      · rw [decide_eq_false fun g => hj g.1, Bool.or_false]
    | false =>
      obtain ⟨k, rfl⟩ : ∃ k : Nat, i = (k : Int) := ⟨i.toNat, by omega⟩
      obtain ⟨w, hk, e1, e2, e3⟩ := H.at h.2
      have := H.hi
      have h64 : k % 64 < 64 := Nat.mod_lt _ (by decide)
      have hor := or_lt e2 (pow_word h64)
      refine ⟨(s.1, s.2.set (k / 64) ((w ||| 2 ^ (k % 64) : Nat) : Int)), ?_, H.set h.2 hor ?_, rfl, fun j => ?_⟩
      · rw [cond_false, tdiv64 k (by omega), tmod64, idx_lt hk, need_ok (by decide)]
        simp only [Option.bind_some]
        rw [need_ok (by decide), need_ok (by omega), e1, Int.toNat_natCast, shl_word h64, or_word e2 (pow_word h64), setI_ok (by omega) (by omega), Int.toNat_natCast]
        rfl
      · intro j hj e
        have ht := H.top j hj
        have : bitS s.2 j = w.testBit (j % 64) := by
          unfold bitS
          rw [e, List.getElem?_eq_getElem hk, e1]
          rfl
        rw [this] at ht
        rw [Nat.testBit_or, ht, Nat.testBit_two_pow, same_bit e, decide_eq_false (by omega)]
        rfl
      · by_cases hj : 0 ≤ j
        · obtain ⟨j, rfl⟩ : ∃ q : Nat, j = (q : Int) := ⟨j.toNat, by omega⟩
          rw [mem_nat, mem_nat]
          show bitS (s.2.set _ _) j = _
          rw [bit_set hk]
          have ed : decide (((j : Nat) : Int) = (k : Int) ∧ (0 : Int) ≤ (k : Int) ∧ (k : Int) < s.1) = decide (j = k) := by
            by_cases e : j = k
            · rw [decide_eq_true e, decide_eq_true ⟨by omega, h.1, h.2⟩]
            · rw [decide_eq_false e, decide_eq_false (by omega)]
          rw [ed]
          by_cases e : j / 64 = k / 64
          · rw [if_pos e, Nat.testBit_or, Nat.testBit_two_pow, same_bit e]
            unfold bitS
            rw [e, List.getElem?_eq_getElem hk, e1]
            rfl
          · rw [if_neg e, decide_eq_false (by intro g; subst g; exact e rfl), Bool.or_false]
        · unfold mem
          rw [decide_eq_false hj, decide_eq_false (by omega)]
          rfl
  · rw [decide_eq_false h]
    refine ⟨s, rfl, H, rfl, fun j => ?_⟩
    rw [decide_eq_false fun g => h g.2, Bool.or_false]
theorem drop_ok {s : SetD} (H : OkS s) (i : Int) : ∃ s', bitset_Set_Drop_D s i = some (mem s i, s') ∧ OkS s' ∧ s'.1 = s.1 ∧ ∀ j, mem s' j = (mem s j && !decide (j = i)) := by
  unfold bitset_Set_Drop_D
  rw [has_ok H, Option.bind_some]
  cases hm : mem s i with
  | false =>
    refine ⟨s, rfl, H, rfl, fun j => ?_⟩
    by_cases hj : j = i
    · subst hj; rw [hm]; rfl
    · rw [decide_eq_false hj, Bool.not_false, Bool.and_true]
  | true =>
    have h := mem_lt H hm
    obtain ⟨k, rfl⟩ : ∃ k : Nat, i = (k : Int) := ⟨i.toNat, by omega⟩
    obtain ⟨w, hk, e1, e2, e3⟩ := H.at h.2
    have := H.hi
    have h64 : k % 64 < 64 := Nat.mod_lt _ (by decide)
    obtain ⟨u, u1, u2, u3⟩ := clear_word e2 h64
    refine ⟨(s.1, s.2.set (k / 64) (u : Int)), ?_, H.set h.2 u1 ?_, rfl, fun j => ?_⟩
    · rw [Bool.not_true, cond_false, tdiv64 k (by omega), tmod64, idx_lt hk, need_ok (by decide)]
      simp only [Option.bind_some]
      rw [need_ok (by decide), need_ok (by omega), e1, Int.toNat_natCast, shl_word h64, u2, setI_ok (by omega) (by omega), Int.toNat_natCast]
      rfl
    · intro j hj e
      have ht := H.top j hj
      have : bitS s.2 j = w.testBit (j % 64) := by
        unfold bitS
        rw [e, List.getElem?_eq_getElem hk, e1]
        rfl
      rw [this] at ht
      rw [u3, ht]
      rfl
    · by_cases hj : 0 ≤ j
      · obtain ⟨j, rfl⟩ : ∃ q : Nat, j = (q : Int) := ⟨j.toNat, by omega⟩
        rw [mem_nat, mem_nat]
        show bitS (s.2.set _ _) j = _
        rw [bit_set hk]
        have ed : decide (((j : Nat) : Int) = (k : Int)) = decide (j = k) := by
          by_cases e : j = k
          · rw [decide_eq_true e, decide_eq_true (by omega)]
          · rw [decide_eq_false e, decide_eq_false (by omega)]
        rw [ed]
        by_cases e : j / 64 = k / 64
        · rw [if_pos e, u3]
          have es : decide (j % 64 = k % 64) = decide (j = k) := by
            rw [← same_bit e]
            by_cases g : j % 64 = k % 64
            · rw [decide_eq_true g, decide_eq_true g.symm]
            · rw [decide_eq_false g, decide_eq_false fun q => g q.symm]
          rw [es]
          unfold bitS
          rw [e, List.getElem?_eq_getElem hk, e1]
          rfl
        · rw [if_neg e, decide_eq_false (by intro g; subst g; exact e rfl), Bool.not_false, Bool.and_true]
      · unfold mem
        rw [decide_eq_false hj]
        rfl
theorem bit_zero (n j : Nat) : bitS (List.replicate n 0) j = false := by
  unfold bitS
  rw [List.getElem?_replicate]
  split <;> simp
def clip (n : Int) : Int := if n < 0 then 0 else if 1000 < n then 1000 else n
theorem new_ok (n : Int) : ∃ s, bitset_New_D n = some s ∧ OkS s ∧ s.1 = clip n ∧ ∀ j, mem s j = false := by
  have hc : (if (if (1000 : Int) < n then (1000 : Int) else n) > (0 : Int) then (if (1000 : Int) < n then (1000 : Int) else n) else (0 : Int)) = clip n := by
    unfold clip
    split <;> split <;> (try split) <;> omega
  have h0 : 0 ≤ clip n ∧ clip n ≤ 1000 := by
    unfold clip
    split
    · omega
    · split <;> omega
  unfold bitset_New_D
  rw [hc]
  obtain ⟨k, hk⟩ : ∃ k : Nat, clip n = (k : Int) := ⟨(clip n).toNat, by omega⟩
  rw [hk] at h0 ⊢
  have e1 : IntKind.wrap .i64 ((k : Int) + 64) = ((k + 64 : Nat) : Int) := by rw [wi64 (by omega) (by omega)]; omega
  have e2 : IntKind.wrap .i64 (((k + 64 : Nat) : Int) - 1) = ((k + 63 : Nat) : Int) := by rw [wi64 (by omega) (by omega)]; omega
  have e3 : IntKind.wrap .i64 (Int.tdiv ((k + 63 : Nat) : Int) 64) = (((k + 63) / 64 : Nat) : Int) := by
    rw [Int.tdiv_eq_ediv_of_nonneg (by omega), wi64 (by omega) (by omega)]
    omega
  rw [e1, e2, e3, need_ok (by decide)]
  have hm : mkRow (((k + 63) / 64 : Nat) : Int) (0 : Int) = some (List.replicate ((k + 63) / 64) 0) := by
    unfold mkRow
    rw [if_pos ⟨by omega, by omega⟩, Int.toNat_natCast]
  rw [hm]
  refine ⟨_, rfl, ⟨h0.1, h0.2, ?_, ?_, ?_⟩, rfl, ?_⟩
  · simp
  · intro x hx
    have := List.eq_of_mem_replicate hx
    subst this
    decide
  · intro i _; exact bit_zero _ _
  · intro j
    unfold mem
    rw [bit_zero, Bool.and_false]
theorem of_ok (n : Int) (l : List Int) (hl : l.length ≤ 9223372036854775807) : ∃ s, bitset_Of_D n l = some s ∧ OkS s ∧ s.1 = clip n ∧ ∀ j, mem s j = (decide (0 ≤ j ∧ j < clip n) && l.contains j) := by
  obtain ⟨s0, h1, h2, h3, h4⟩ := new_ok n
  unfold bitset_Of_D
  rw [h1]
  simp only [Option.bind_some]
  obtain ⟨s, e1, e2, e3, e4⟩ := forS_inv (σ := SetD) (n := l.length) (fun k s => OkS s ∧ s.1 = clip n ∧ ∀ j, mem s j = (decide (0 ≤ j ∧ j < clip n) && (l.take k).contains j)) hl (s := s0) (f := fun i_z3 z3 =>
      (idx l i_z3).bind fun e25 =>
      (bitset_Set_Add_D z3 e25).bind fun t8 =>
      some t8.2) ⟨h2, h3, fun j => by rw [h4]; simp⟩ (fun k s hk ⟨i1, i2, i3⟩ => by
        obtain ⟨s', g1, g2, g3, g4⟩ := add_ok i1 l[k]
        refine ⟨s', ?_, g2, g3.trans i2, fun j => ?_⟩
        · rw [idx_lt hk, Option.bind_some, g1]
          rfl
        · rw [g4, i3, i2, List.take_add_one, List.getElem?_eq_getElem hk]
          simp only [Option.toList_some, List.contains_append, List.contains_cons, List.contains_nil, Bool.or_false]
          by_cases hj : j = l[k]
          · rw [← hj]
            simp
            intro a b _
            exact ⟨a, b⟩
          · have e1 : (j == l[k]) = false := by simpa using hj
            have e2 : decide (j = l[k] ∧ 0 ≤ l[k] ∧ l[k] < clip n) = false := decide_eq_false fun g => hj g.1
            rw [e1, e2, Bool.or_false, Bool.or_false])
  rw [List.take_length] at e4
  refine ⟨s, ?_, e2, e3, e4⟩
  rw [e1]
  rfl
end Go.Proofs.YtbpbfoemghcfaaaDoor

/-
  DIGRAPH, PLAIN: the bits of a word, from the lowest one on.
  Conditions: none.
-/
namespace Go.Proofs.YtbpbfoemghcfaaaDoor
open Go Go.Eng
set_option linter.unusedVariables false

theorem odd_part : ∀ w : Nat, w ≠ 0 → ∃ k m, w = 2 ^ k * (2 * m + 1) := by
  intro w
  induction w using Nat.strongRecOn with
  | ind w ih =>
    intro hw
    by_cases h : w % 2 = 1
    · exact ⟨0, w / 2, by rw [Nat.pow_zero, Nat.one_mul]; omega⟩
    · obtain ⟨k, m, e⟩ := ih (w / 2) (by omega) (by omega)
      refine ⟨k + 1, m, ?_⟩
      rw [Nat.pow_succ, Nat.mul_comm (2 ^ k) 2, Nat.mul_assoc, ← e]
      omega
def bitsW (w : Nat) : List Nat := (List.range 64).filter w.testBit
theorem bitsW_zero : bitsW 0 = [] := by
  unfold bitsW
  rw [List.filter_eq_nil_iff]
  intro a _
  simp
theorem bitsW_mem {w j : Nat} : j ∈ bitsW w ↔ j < 64 ∧ w.testBit j = true := by
  unfold bitsW
  rw [List.mem_filter, List.mem_range]
/-- The lowest bit of a word; the word without it. -/
theorem low_bit {w : Nat} (hw : w ≠ 0) (hlt : w < 18446744073709551616) : ∃ k, k < 64 ∧ w.testBit k = true ∧ (∀ j, j < k → w.testBit j = false) ∧ (∀ j, (w &&& (w - 1)).testBit j = (w.testBit j && !decide (j = k))) ∧ w &&& (18446744073709551616 - w) = 2 ^ k := by
  obtain ⟨k, m, e⟩ := odd_part w hw
  have hbit : ∀ j, w.testBit j = (decide (k ≤ j) && (2 * m + 1).testBit (j - k)) := fun j => by rw [e, Nat.testBit_two_pow_mul]
  have hk : w.testBit k = true := by
    rw [hbit, Nat.sub_self, decide_eq_true (Nat.le_refl k), Bool.true_and, Nat.testBit_zero]
    simp
  have hk64 : k < 64 := by
    rcases Nat.lt_or_ge k 64 with h | h
    · exact h
    · rw [high_bit hlt h] at hk; cases hk
  have hlow : ∀ j, j < k → w.testBit j = false := fun j hj => by rw [hbit, decide_eq_false (by omega), Bool.false_and]
  have hpow : 0 < 2 ^ k := Nat.two_pow_pos k
  have epred : w - 1 = 2 ^ (k + 1) * m + (2 ^ k - 1) := by
    rw [e, Nat.mul_add, Nat.mul_one, Nat.pow_succ, ← Nat.mul_assoc]
    omega
  have hpred : ∀ j, (w - 1).testBit j = if j < k then true else if j = k then false else w.testBit j := fun j => by
    rw [epred, Nat.testBit_two_pow_mul_add _ (by rw [Nat.pow_succ]; omega), Nat.testBit_two_pow_sub_one]
    by_cases h1 : j < k
    · rw [if_pos (by omega), if_pos h1, decide_eq_true h1]
    · by_cases h2 : j = k
      · rw [if_pos (by omega), if_neg h1, if_pos h2, decide_eq_false h1]
      · rw [if_neg (by omega), if_neg h1, if_neg h2, hbit, decide_eq_true (by omega), Bool.true_and, show j - k = (j - (k + 1)) + 1 by omega, Nat.testBit_succ]
        rw [show (2 * m + 1) / 2 = m by omega]
  refine ⟨k, hk64, hk, hlow, fun j => ?_, ?_⟩
  · rw [Nat.testBit_and, hpred]
    by_cases h1 : j < k
    · rw [if_pos h1, hlow j h1]; rfl
    · rw [if_neg h1]
      by_cases h2 : j = k
      · subst h2; simp
      · rw [if_neg h2, decide_eq_false h2, Bool.and_self, Bool.not_false, Bool.and_true]
  · apply Nat.eq_of_testBit_eq
    intro j
    rw [Nat.testBit_and, Nat.testBit_two_pow]
    have e2 : 18446744073709551616 - w = 2 ^ 64 - ((w - 1) + 1) := by omega
    rw [e2, Nat.testBit_two_pow_sub_succ (by omega), hpred]
    by_cases hj : j < 64
    · rw [decide_eq_true hj, Bool.true_and]
      by_cases h1 : j < k
      · rw [if_pos h1, hlow j h1, decide_eq_false (by omega)]; rfl
      · rw [if_neg h1]
        by_cases h2 : j = k
        · rw [if_pos h2, h2, hk]; simp
        · rw [if_neg h2, decide_eq_false (fun h => h2 h.symm)]
          cases w.testBit j <;> rfl
    · rw [high_bit hlt (by omega), Bool.false_and]
      exact (decide_eq_false (by omega)).symm
theorem bitsW_step {w k : Nat} (hk : k < 64) (h1 : w.testBit k = true) (h2 : ∀ j, j < k → w.testBit j = false) {v : Nat} (hv : ∀ j, v.testBit j = (w.testBit j && !decide (j = k))) : bitsW w = k :: bitsW v := by
  unfold bitsW
  have er : List.range 64 = List.range k ++ k :: List.range' (k + 1) (63 - k) := by
    rw [List.range_eq_range', List.range_eq_range']
    have h : List.range' 0 64 = List.range' 0 k ++ List.range' (0 + 1 * k) (64 - k) := by
      rw [List.range'_append, show k + (64 - k) = 64 by omega]
    rw [h, show 64 - k = (63 - k) + 1 by omega, List.range'_succ]
    simp
  have e1 : (List.range k).filter w.testBit = [] := by
    rw [List.filter_eq_nil_iff]
    intro j hj
    rw [h2 j (List.mem_range.1 hj)]
    exact Bool.false_ne_true
  have e2 : (List.range k).filter v.testBit = [] := by
    rw [List.filter_eq_nil_iff]
    intro j hj
    rw [hv, h2 j (List.mem_range.1 hj)]
    exact Bool.false_ne_true
  have e3 : (List.range' (k + 1) (63 - k)).filter w.testBit = (List.range' (k + 1) (63 - k)).filter v.testBit := by
    refine List.filter_congr fun j hj => ?_
    rw [List.mem_range'_1] at hj
    rw [hv, decide_eq_false (by omega), Bool.not_false, Bool.and_true]
  have e4 : v.testBit k = false := by rw [hv, h1]; simp
  rw [er, List.filter_append, List.filter_append, e1, e2, List.nil_append, List.nil_append, List.filter_cons, List.filter_cons, h1, e4, e3]
  rfl
/-- What a set has, rising: word for word. -/
def listW (ws : List Int) : List Int := (ws.zipIdx.map fun x => (bitsW x.1.toNat).map fun j => ((x.2 * 64 + j : Nat) : Int)).flatten
end Go.Proofs.YtbpbfoemghcfaaaDoor

/-
  DIGRAPH: bits.TrailingZeros64: where the lowest bit of a word is.
  Conditions: the table of de Bruijn's numbers reads as its initialiser lays it.
-/
namespace Go.Proofs.YtbpbfoemghcfaaaDoor
open Go Go.Eng
set_option linter.unusedVariables false
set_option maxRecDepth 100000

/-- The table stays. -/
def Glob (φ : Snap) : Prop := ∃ t f, φ 0 = some (.cells (Lib.deBruijn64tab.map fun (z : Nat) => Value.int .u8 (z : Int)).toArray t f)
theorem Glob.mono {φ ψ : Snap} (H : Glob φ) (hs : Sub φ ψ) : Glob ψ := by
  obtain ⟨t, f, h⟩ := H
  exact ⟨t, f, hs _ _ h⟩
def tzN (w : Nat) : Nat := (bitsW w).headD 64
def tzD (x : Int) : Option Int := if 0 ≤ x ∧ x < 18446744073709551616 then some (tzN x.toNat : Nat) else none
theorem neg_word {w : Nat} (h0 : w ≠ 0) (h : w < 18446744073709551616) : IntKind.wrap .u64 (0 - (w : Int)) = ((18446744073709551616 - w : Nat) : Int) := by
  unfold IntKind.wrap
  simp only [IntKind.bits, IntKind.signed]
  have : (0 - (w : Int)) % 18446744073709551616 = ((18446744073709551616 - w : Nat) : Int) := by omega
  simp
  omega
theorem wrap_nat (n : Nat) : IntKind.wrap .u64 (n : Int) = ((n % 18446744073709551616 : Nat) : Int) := by
  unfold IntKind.wrap
  simp only [IntKind.bits, IntKind.signed]
  simp
theorem tz_place {w k : Nat} (h0 : w ≠ 0) (h : w < 18446744073709551616) (he : w &&& (18446744073709551616 - w) = 2 ^ k) :
    Int.fdiv (IntKind.wrap .u64 ((IntKind.wrap .u64 (BitVec.toNat (BitVec.ofInt (IntKind.bits .u64) (w : Int) &&& (BitVec.ofInt (IntKind.bits .u64) (IntKind.wrap .u64 (0 - (w : Int))))) : Nat)) * (285870213051353865 : Int))) (2 ^ (min (Int.toNat (58 : Int)) (IntKind.bits .u64))) = ((2 ^ k * 285870213051353865 % 18446744073709551616 / 288230376151711744 : Nat) : Int) := by
  rw [neg_word h0 h, and_word h (by omega), he]
  have e1 : ((2 ^ k : Nat) : Int) * (285870213051353865 : Int) = ((2 ^ k * 285870213051353865 : Nat) : Int) := by
    rw [Int.natCast_mul]
    have : ((285870213051353865 : Nat) : Int) = 285870213051353865 := rfl
    rw [this]
  rw [e1, wrap_nat]
  have e2 : (2 : Int) ^ (min (Int.toNat (58 : Int)) (IntKind.bits .u64)) = ((288230376151711744 : Nat) : Int) := by decide
  rw [e2, Int.fdiv_eq_ediv_of_nonneg _ (by omega)]
  generalize 2 ^ k * 285870213051353865 % 18446744073709551616 = q
  omega
theorem getD_get {l : List Nat} {i k : Nat} (h : i < l.length) (hk : l.getD i 0 = k) : l[i]? = some k := by
  rw [List.getD_eq_getElem?_getD, List.getElem?_eq_getElem h] at hk
  rw [List.getElem?_eq_getElem h]
  exact congrArg some hk
theorem tab_length : Lib.deBruijn64tab.length = 64 := by decide
theorem tab_cell {l : List Nat} {φ : Snap} {t : TypeId} {f : Nat × Nat} (hg : φ 0 = some (.cells (l.map fun (z : Nat) => Value.int .u8 (z : Int)).toArray t f)) {i k : Nat} (h : l[i]? = some k) : cellS φ (Addr.add ⟨0, 0, none⟩ (Int.toNat (i : Int) * 1)) = some (.int .u8 (k : Int)) := by
  rw [add_mk, Int.toNat_natCast, Nat.mul_one, Nat.zero_add]
  unfold cellS
  rw [hg]
  simp [h]
theorem tz_sim {φ : Snap} {h : Heap} {F : List Chk} {x : Int} (gk : Glob φ) (s0 : St φ F h) {r : Int} (hd : tzD x = some r) : CallsH Tryd.prog 55 [.int .u64 x] h
    (Back fun v h' => ∃ ψ : Snap, ∃ y : Int, Sub φ ψ ∧ v = ((.one (.atom (.int .i64))) : Sh).val y ∧ y = r ∧ St ψ F h') := by
  unfold tzD at hd
  split at hd
  · rename_i hx
    cases hd
    obtain ⟨w, rfl⟩ : ∃ w : Nat, x = (w : Int) := ⟨x.toNat, by omega⟩
    rw [Int.toNat_natCast]
    refine calls_of mixed Tryd.func55 ?_
    rw [math_bits_TrailingZeros64_den]
    unfold math_bits_TrailingZeros64_T
    refine t_cond (fun hb => ?_) (fun hb => ?_)
    · have hw : w = 0 := by
        have : (w : Int) = 0 := by simpa using hb
        omega
      subst hw
      unfold tzN
      rw [bitsW_zero]
      exact finOf_back ⟨φ, 64, Sub.refl _, rfl, rfl, s0⟩
    · have hw : w ≠ 0 := by
        intro e; subst e; cases hb
      obtain ⟨k, k1, k2, k3, k4, k5⟩ := low_bit hw (by omega)
      have hk : tzN w = k := by
        unfold tzN
        rw [bitsW_step k1 k2 k3 k4]
        rfl
      obtain ⟨d1, d2⟩ := Lib.deBruijn64_at k k1
      rw [tz_place hw (by omega) k5, hk]
      generalize 2 ^ k * 285870213051353865 % 18446744073709551616 / 288230376151711744 = i at d1 d2
      refine t_chk (by decide) (t_chk ⟨by omega, by omega⟩ ?_)
      obtain ⟨t, f, hg⟩ := gk
      have hi : i < Lib.deBruijn64tab.length := by rw [tab_length]; exact d1
      have hcell := tab_cell hg (getD_get hi d2)
      refine s_load (x := (k : Int)) (cellS_heap s0.sub hcell) rfl ?_
      rw [wi64 (by omega) (by omega)]
      exact finOf_back ⟨φ, (k : Int), Sub.refl _, rfl, rfl, s0⟩
  · cases hd
end Go.Proofs.YtbpbfoemghcfaaaDoor

/-
  THE ENGINE, PART R: what a row's reading of an argument says of the heap; from a law's tree to the row's walk.
  Conditions: none; it speaks of any program.
-/
namespace Go.Eng
open Go Go.RowKit

/-- What can be read: the cells of a value of a type. -/
def Reads (P : Program) (h : Heap) : Nat → TypeId → List Value → Prop
  | 0, _, _ => False
  | n + 1, t, cs => match P.underlying t with
    | some .bool => ∃ b, cs = [.bool b]
    | some (.int k) => ∃ x, cs = [.int k x] ∧ (Lit.int k x).wf = true
    | some .string => ∃ s, cs = [.string s] ∧ s.size ≤ maxLen
    | some (.slice e) => ∃ p len cap, cs = [.slice p len cap] ∧ len ≤ cap ∧ cap ≤ maxLen ∧ (p = none → len = 0 ∧ cap = 0) ∧
        ∀ i, i < len → ∃ cs', cs'.length = P.cellsOf e ∧ (∀ j v, cs'[j]? = some v → ∃ a, p = some a ∧ cellH h (a.add (i * P.cellsOf e + j)) = some v) ∧ Reads P h n e cs'
    | some (.struct fs) => cs.length = P.cellsOf t ∧ ∀ f ∈ fs.toList, Reads P h n f.type ((cs.drop f.offset).take (P.cellsOf f.type))
    | _ => True

theorem mapM_some_mem {α β : Type} {f : α → Option β} : ∀ {l : List α} {r : List β}, l.mapM f = some r → ∀ a ∈ l, ∃ b, f a = some b := by
  intro l
  induction l with
  | nil => intro r _ a ha; cases ha
  | cons x l ih =>
    intro r h a ha
    rw [List.mapM_cons] at h
    cases hx : f x with
    | none => simp [hx] at h
    | some b =>
      cases hl : l.mapM f with
      | none => simp [hx, hl] at h
      | some bs =>
        rcases List.mem_cons.1 ha with rfl | ha
        · exact ⟨b, hx⟩
        · exact ih hl a ha

theorem reads_of_trod {H : Type} {enc : TypeId × Value → H} {P : Program} {w : World} {base : Nat} {spare : Nat → Bool} {held : Bool} : ∀ (fuel : Nat) (t : TypeId) (cs : List Value) (x : DataW H × List MemPlace),
    DataW.trod enc P w base spare held fuel t cs = some x → Reads P w.heap fuel t cs := by
  intro fuel
  induction fuel with
  | zero => intro t cs x h; simp [DataW.trod] at h
  | succ n ih =>
    intro t cs x h
    have h0 := h
    rw [DataW.trod_step] at h
    unfold DataW.trodStep at h
    unfold Reads
    split <;> rename_i hd <;> try trivial
    · rw [hd] at h
      split at h <;> first | cases h | skip
      all_goals rename_i h1; first | cases h1 | skip
      all_goals first | exact ⟨_, rfl⟩ | skip
    · rw [hd] at h
      split at h <;> first | cases h | skip
      all_goals rename_i h1; first | cases h1 | skip
      split at h
      · rename_i hk; obtain ⟨rfl, hw⟩ := hk; exact ⟨_, rfl, hw⟩
      · cases h
    · rw [hd] at h
      split at h <;> first | cases h | skip
      all_goals rename_i h1; first | cases h1 | skip
      split at h
      · rename_i hs; exact ⟨_, rfl, hs⟩
      · cases h
    · rename_i e
      rcases DataW.trod_slice hd h0 with ⟨rfl, _⟩ | ⟨a, len, cap, elems, rest, m, hm, rfl, _, _, hl, hc, hlen, hel, _⟩
      · exact ⟨none, 0, 0, rfl, Nat.le_refl _, Nat.zero_le _, fun _ => ⟨rfl, rfl⟩, fun i hi => by omega⟩
      · cases hm
        refine ⟨some a, len, cap, rfl, hl, hc, (fun h => by cases h), fun i hi => ?_⟩
        have h2 := hel i hi
        rw [List.getElem?_eq_getElem (by omega), Option.bind_eq_some_iff] at h2
        obtain ⟨cs', h3, h4⟩ := h2
        obtain ⟨_, h5, h6⟩ := World.cells?_some h3
        refine ⟨cs', h5, fun j v hj => ⟨a, rfl, ?_⟩, ih _ _ _ h4⟩
        have hjl : j < P.cellsOf e := by
          rcases Nat.lt_or_ge j cs'.length with g | g
          · omega
          · rw [List.getElem?_eq_none g] at hj; cases hj
        have := h6 j hjl
        rw [hj, add_add] at this
        exact this
    · rename_i fs
      rw [hd] at h
      dsimp only at h
      by_cases hlen : cs.length = P.cellsOf t
      · rw [if_pos hlen, Option.map_eq_some_iff] at h
        obtain ⟨xs, h2, _⟩ := h
        refine ⟨hlen, fun f hf => ?_⟩
        obtain ⟨y, hy⟩ := mapM_some_mem h2 f hf
        exact ih _ _ _ hy
      · rw [if_neg hlen] at h; cases h

theorem reads_of_Trod {H : Type} {enc : TypeId × Value → H} {P : Program} {w : World} {base : Nat} {spare : Nat → Bool} {held : Bool} {t : TypeId} {v : Value} {d : DataW H} {ps : List MemPlace}
    (h : DataW.Trod enc P w base spare held t v d ps) : ∃ n, Reads P w.heap n t v.cells.toList := by
  obtain ⟨fuel, hf⟩ := h
  exact ⟨fuel, reads_of_trod fuel t _ _ hf⟩

/-- What a law's call promises. -/
def Truth (h : Heap) (v : Value) (h' : Heap) : Prop := v = .bool true ∧ Keep [] h h'
theorem law_walk {P : Program} {f : FuncId} {args : Array Value} {w : World} (H : CallsH P f args.toList w.heap (Back (Truth w.heap))) :
    Calls P f args w fun e w' => e = .returned (.bool true) ∧ Below w.heap.size w w' := by
  have := H w rfl
  rw [Array.toArray_toList] at this
  refine this.mono fun e w' he => ?_
  obtain ⟨hs, he⟩ := he
  cases e with
  | returned v =>
    obtain ⟨v', hv, rfl, hk⟩ := he
    cases hv
    exact ⟨rfl, hs.os, hs.tape, hs.output, hk.1, fun k hk' => hk.2 k hk' (by simp)⟩
  | panicked c => obtain ⟨v', hv, _⟩ := he; cases hv
  | outgrown => exact he.elim

/-! ## what a reading gives, type by type -/
section
variable {P : Program} {h : Heap}
theorem reads_string {n : Nat} {t : TypeId} {cs : List Value} (ht : P.underlying t = some .string) (H : Reads P h n t cs) : ∃ s, cs = [.string s] ∧ s.size ≤ maxLen := by
  cases n with
  | zero => exact H.elim
  | succ n => unfold Reads at H; rw [ht] at H; exact H
theorem reads_int {n : Nat} {t : TypeId} {k : IntKind} {cs : List Value} (ht : P.underlying t = some (.int k)) (H : Reads P h n t cs) : ∃ x, cs = [.int k x] ∧ (Lit.int k x).wf = true := by
  cases n with
  | zero => exact H.elim
  | succ n => unfold Reads at H; rw [ht] at H; exact H
theorem reads_slice {n : Nat} {t e : TypeId} {cs : List Value} (ht : P.underlying t = some (.slice e)) (H : Reads P h n t cs) :
    ∃ m p len cap, cs = [.slice p len cap] ∧ len ≤ cap ∧ cap ≤ maxLen ∧ (p = none → len = 0 ∧ cap = 0) ∧
      ∀ i, i < len → ∃ cs', cs'.length = P.cellsOf e ∧ (∀ j v, cs'[j]? = some v → ∃ a, p = some a ∧ cellH h (a.add (i * P.cellsOf e + j)) = some v) ∧ Reads P h m e cs' := by
  cases n with
  | zero => exact H.elim
  | succ n =>
    unfold Reads at H
    rw [ht] at H
    obtain ⟨p, len, cap, h1, h2⟩ := H
    exact ⟨n, p, len, cap, h1, h2⟩
theorem reads_struct {n : Nat} {t : TypeId} {fs : Array Field} {cs : List Value} (ht : P.underlying t = some (.struct fs)) (H : Reads P h n t cs) :
    ∃ m, cs.length = P.cellsOf t ∧ ∀ f ∈ fs.toList, Reads P h m f.type ((cs.drop f.offset).take (P.cellsOf f.type)) := by
  cases n with
  | zero => exact H.elim
  | succ n =>
    unfold Reads at H
    rw [ht] at H
    exact ⟨n, H⟩

/-- A slice whose elements are read one by one: the elements as a list, the cells where they lie. -/
theorem choose_list {α : Type} {p : Nat → α → Prop} : ∀ (n : Nat), (∀ i, i < n → ∃ x, p i x) → ∃ l : List α, l.length = n ∧ ∀ i x, l[i]? = some x → p i x := by
  intro n
  induction n with
  | zero => intro _; exact ⟨[], rfl, fun i x hx => by simp at hx⟩
  | succ n ih =>
    intro H
    obtain ⟨l, hl, hp⟩ := ih fun i hi => H i (by omega)
    obtain ⟨x, hx⟩ := H n (by omega)
    refine ⟨l ++ [x], by simp [hl], fun i y hy => ?_⟩
    rcases Nat.lt_trichotomy i l.length with g | g | g
    · rw [List.getElem?_append_left g] at hy; exact hp i y hy
    · subst g; simp at hy; subst hy; rw [hl]; exact hx
    · rw [List.getElem?_eq_none (by simp; omega)] at hy; cases hy

theorem reads_strings {n : Nat} {t e : TypeId} {p : Option Addr} {len cap : Nat} (ht : P.underlying t = some (.slice e)) (he : P.underlying e = some .string) (hc : P.cellsOf e = 1) (H : Reads P h n t [.slice p len cap]) :
    len ≤ cap ∧ cap ≤ maxLen ∧ ∃ l : List ByteArray, l.length = len ∧ CellsAt h p (l.map Value.string) := by
  obtain ⟨m, p', len', cap', h1, h2, h3, _, h4⟩ := reads_slice ht H
  simp only [List.cons.injEq, Value.slice.injEq, and_true] at h1
  obtain ⟨rfl, rfl, rfl⟩ := h1
  obtain ⟨l, hl, hp⟩ := choose_list (p := fun i (s : ByteArray) => ∃ a, p = some a ∧ cellH h (a.add i) = some (.string s)) len (fun i hi => by
    obtain ⟨cs', g1, g2, g3⟩ := h4 i hi
    obtain ⟨s, rfl, _⟩ := reads_string he g3
    obtain ⟨a, ha, hcell⟩ := g2 0 _ rfl
    exact ⟨s, a, ha, by simpa [hc] using hcell⟩)
  refine ⟨h2, h3, l, hl, fun i v hv => ?_⟩
  rw [List.getElem?_map, Option.map_eq_some_iff] at hv
  obtain ⟨s, hs, rfl⟩ := hv
  exact hp i s hs
theorem reads_ints {n : Nat} {t e : TypeId} {k : IntKind} {p : Option Addr} {len cap : Nat} (ht : P.underlying t = some (.slice e)) (he : P.underlying e = some (.int k)) (hc : P.cellsOf e = 1) (H : Reads P h n t [.slice p len cap]) :
    len ≤ cap ∧ cap ≤ maxLen ∧ ∃ l : List Int, l.length = len ∧ CellsAt h p (l.map fun x => .int k x) ∧ ∀ x ∈ l, (Lit.int k x).wf = true := by
  obtain ⟨m, p', len', cap', h1, h2, h3, _, h4⟩ := reads_slice ht H
  simp only [List.cons.injEq, Value.slice.injEq, and_true] at h1
  obtain ⟨rfl, rfl, rfl⟩ := h1
  obtain ⟨l, hl, hp⟩ := choose_list (p := fun i (x : Int) => (∃ a, p = some a ∧ cellH h (a.add i) = some (.int k x)) ∧ (Lit.int k x).wf = true) len (fun i hi => by
    obtain ⟨cs', g1, g2, g3⟩ := h4 i hi
    obtain ⟨x, rfl, hx⟩ := reads_int he g3
    obtain ⟨a, ha, hcell⟩ := g2 0 _ rfl
    exact ⟨x, ⟨a, ha, by simpa [hc] using hcell⟩, hx⟩)
  refine ⟨h2, h3, l, hl, fun i v hv => ?_, fun x hx => ?_⟩
  · rw [List.getElem?_map, Option.map_eq_some_iff] at hv
    obtain ⟨s, hs, rfl⟩ := hv
    exact (hp i s hs).1
  · obtain ⟨i, hi⟩ := List.getElem?_of_mem hx
    exact (hp i x hi).2
end
end Go.Eng

/-
  THE ENGINE, PART Q: what a row's reading gives, as plain things; from D to the row's walk.
  Conditions: none; it speaks of any program.
-/
namespace Go.Eng
open Go

/-- All that is read of a type stands for a thing. -/
def ReadsTo {α : Type} (P : Program) (h : Heap) (t : TypeId) (r : Ro α) (G : α → Prop) : Prop := ∀ n cs, Reads P h n t cs → ∃ x, r.is (snap h) cs x ∧ G x
theorem readsTo_int {P : Program} {h : Heap} {t : TypeId} {k : IntKind} (ht : P.underlying t = some (.int k)) : ReadsTo P h t (Ro.int k) fun x => (Lit.int k x).wf = true := fun n cs H => by
  obtain ⟨x, rfl, hx⟩ := reads_int ht H
  exact ⟨x, rfl, hx⟩
theorem readsTo_string {P : Program} {h : Heap} {t : TypeId} (ht : P.underlying t = some .string) : ReadsTo P h t Ro.str fun s => s.size ≤ maxLen := fun n cs H => by
  obtain ⟨x, rfl, hx⟩ := reads_string ht H
  exact ⟨x, rfl, hx⟩
theorem readsTo_bool {P : Program} {h : Heap} {t : TypeId} (ht : P.underlying t = some .bool) : ReadsTo P h t Ro.bool fun _ => True := fun n cs H => by
  cases n with
  | zero => exact H.elim
  | succ n =>
    unfold Reads at H
    rw [ht] at H
    obtain ⟨b, rfl⟩ := H
    exact ⟨b, rfl, trivial⟩
theorem readsTo_slice {α : Type} {P : Program} {h : Heap} {t e : TypeId} {r : Ro α} {G : α → Prop} (ht : P.underlying t = some (.slice e)) (hc : P.cellsOf e = r.sz) (he : ReadsTo P h e r G) :
    ReadsTo P h t (Ro.list r) fun l => l.length ≤ maxLen ∧ ∀ x ∈ l, G x := fun n cs H => by
  obtain ⟨m, p, len, cap, rfl, h1, h2, h3, h4⟩ := reads_slice ht H
  obtain ⟨l, hl, hp⟩ := choose_list (p := fun i (x : List Value × α) => r.is (snap h) x.1 x.2 ∧ G x.2 ∧ ∀ j v, x.1[j]? = some v → ∃ a, p = some a ∧ cellH h (a.add (i * r.sz + j)) = some v) len (fun i hi => by
    obtain ⟨cs', g1, g2, g3⟩ := h4 i hi
    obtain ⟨x, hx, hG⟩ := he m cs' g3
    exact ⟨(cs', x), hx, hG, fun j v hv => by have := g2 j v hv; rw [hc] at this; exact this⟩)
  have key : ∀ k, k ≤ len → ∃ vs, r.All (snap h) vs ((l.take k).map (·.2)) ∧ vs.length = k * r.sz ∧ CellsS (snap h) p vs := fun k => by
    induction k with
    | zero => intro _; exact ⟨[], .nil, by simp, fun i v hv => by simp at hv⟩
    | succ k ih =>
      intro hk
      obtain ⟨vs, a1, a2, a3⟩ := ih (by omega)
      have hkl : k < l.length := by omega
      obtain ⟨b1, b2, b3⟩ := hp k l[k] (List.getElem?_eq_getElem hkl)
      refine ⟨vs ++ l[k].1, ?_, by rw [List.length_append, a2, r.len b1, Nat.add_mul, Nat.one_mul], fun i v hv => ?_⟩
      · rw [List.take_add_one, List.getElem?_eq_getElem hkl, List.map_append]
        exact a1.append (.one b1)
      · rcases Nat.lt_or_ge i vs.length with g | g
        · rw [List.getElem?_append_left g] at hv; exact a3 i v hv
        · rw [List.getElem?_append_right g] at hv
          obtain ⟨a, ha, hcell⟩ := b3 _ v hv
          refine ⟨a, ha, ?_⟩
          rw [cellS_snap, show i = k * r.sz + (i - vs.length) by omega]
          exact hcell
  obtain ⟨vs, a1, a2, a3⟩ := key len (Nat.le_refl _)
  rw [List.take_of_length_le (by omega)] at a1
  refine ⟨l.map (·.2), ⟨(p, len, cap), rfl, by simp [hl], h1, h2, fun hp0 => ?_, vs, a1, a3⟩, by simp; omega, fun x hx => ?_⟩
  · have := (h3 hp0).1
    have : l = [] := List.eq_nil_of_length_eq_zero (by omega)
    rw [this]; rfl
  · obtain ⟨y, hy, rfl⟩ := List.mem_map.1 hx
    obtain ⟨i, hi⟩ := List.getElem?_of_mem hy
    exact (hp i y hi).2.1
theorem readsTo_mono {α : Type} {P : Program} {h : Heap} {t : TypeId} {r : Ro α} {G G' : α → Prop} (H : ReadsTo P h t r G) (hG : ∀ x, G x → G' x) : ReadsTo P h t r G' := fun n cs hr => by
  obtain ⟨x, h1, h2⟩ := H n cs hr
  exact ⟨x, h1, hG x h2⟩
/-- A slice that came in. -/
theorem slice_of {α : Type} {P : Program} {h : Heap} {t : TypeId} {r : Ro α} {G : List α → Prop} (H : ReadsTo P h t (Ro.list r) G) {n : Nat} {p : Option Addr} {len cap : Nat} (hr : Reads P h n t [.slice p len cap]) : ∃ l, Ro.SliceIs r (snap h) (p, len, cap) l ∧ G l := by
  obtain ⟨l, ⟨t', e, hs⟩, hG⟩ := H n _ hr
  obtain ⟨p', n', c'⟩ := t'
  simp only [List.cons.injEq, Value.slice.injEq, and_true] at e
  obtain ⟨rfl, rfl, rfl⟩ := e
  exact ⟨l, hs, hG⟩
theorem St.start (h : Heap) : St (snap h) [] h := Sub.refl _
/-- What D tells is true, and nothing that was there has turned. -/
theorem truth_of {P : Program} {f : FuncId} {args : List Value} {h : Heap}
    (H : CallsH P f args h (Back fun v h' => ∃ ψ : Snap, ∃ y : Bool, Sub (snap h) ψ ∧ v = ((.one (.atom .bool)) : Sh).val y ∧ y = true ∧ St ψ [] h')) : CallsH P f args h (Back (Truth h)) := by
  refine H.mono fun e h' he => ?_
  obtain ⟨v, hv, ψ, y, hs, hv2, hy, s1⟩ := he
  subst hy
  refine ⟨v, hv, hv2, ?_⟩
  have hs' := hs.trans s1.sub
  refine ⟨?_, fun i hi _ => ?_⟩
  · rcases Nat.lt_or_ge h'.size h.size with g | g
    · have h1 : snap h h'.size = some h[h'.size] := Array.getElem?_eq_getElem g
      have := lt_of_get (hs' _ _ h1)
      omega
    · exact g
  · have h1 : snap h i = some h[i] := Array.getElem?_eq_getElem hi
    have h2 : h'[i]? = some h[i] := hs' _ _ h1
    rw [h2, Array.getElem?_eq_getElem hi]
end Go.Eng

/-
  DIGRAPH: Each's iterator: the bits of words, rising; whatever the loop's body does, so it leaves the words alone.
  Conditions: the words' cells are there; the table of de Bruijn's numbers is.
-/
namespace Go.Proofs.YtbpbfoemghcfaaaDoor
open Go Go.Eng Go.RowKit Go.Shelf
set_option linter.unusedVariables false
attribute [local go_sem] Oper.semAt_some

/-- What a round keeps: some blocks. -/
def KpL (L : List Nat) (W W' : World) : Prop := ∀ b ∈ L, ∀ o, W.heap[b]? = some o → W'.heap[b]? = some o
theorem KpL.refl (L : List Nat) (W : World) : KpL L W W := fun _ _ _ h => h
theorem KpL.trans {L : List Nat} {A B C : World} (h : KpL L A B) (k : KpL L B C) : KpL L A C := fun b hb o ho => k b hb o (h b hb o ho)
theorem KpL.cell {L : List Nat} {b off : Nat} {A B : World} (h : KpL L A B) (hb : b ∈ L) {v : Value} (hc : A.cell? ⟨b, off, none⟩ = some v) : B.cell? ⟨b, off, none⟩ = some v := by
  unfold World.cell? at hc ⊢
  dsimp only at hc ⊢
  cases ho : A.heap[b]? with
  | none => rw [ho] at hc; cases hc
  | some o => rw [h b hb o ho]; rw [ho] at hc; exact hc
theorem KpL.glob {L : List Nat} {A B : World} (h : KpL L A B) (hb : 0 ∈ L) (gk : Glob (snap A.heap)) : Glob (snap B.heap) := by
  obtain ⟨t, f, hg⟩ := gk
  exact ⟨t, f, h 0 hb _ hg⟩
theorem KpL.grown {L : List Nat} {A B : World} (h : A.grownBy B none) : KpL L A B := fun b _ o ho => by
  have hlt : b < A.heap.size := by
    rcases Nat.lt_or_ge b A.heap.size with g | g
    · exact g
    · rw [Array.getElem?_eq_none g] at ho; cases ho
  obtain ⟨_, _, _, _, hk⟩ := h
  rw [hk b hlt (by simp)]
  exact ho
/-- The bits of so many words. -/
def bitsU (ws : List Nat) (k : Nat) : List Int := ((List.range k).map fun (i : Nat) => (bitsW (ws[i]?.getD 0)).map fun (j : Nat) => ((i : Int) * 64 + (j : Int))).flatten
theorem bitsU_zero (ws : List Nat) : bitsU ws 0 = [] := rfl
theorem bitsU_succ (ws : List Nat) (k : Nat) : bitsU ws (k + 1) = bitsU ws k ++ (bitsW (ws[k]?.getD 0)).map fun (j : Nat) => ((k : Int) * 64 + (j : Int)) := by
  unfold bitsU
  rw [List.range_succ, List.map_append, List.flatten_append]
  simp
/-- What grew keeps all that was there. -/
theorem tz_in (m : Nat) {W : World} {u : Nat} (gk : Glob (snap W.heap)) (hu : u < 18446744073709551616) : CallsIn Fence.wide m Tryd.prog 55 #[.int .u64 (u : Int)] W fun e W' => e = .returned (.int .i64 ((tzN u : Nat) : Int)) ∧ W.grownBy W' none := by
  refine callsIn_wide.2 ?_
  have h := tz_sim (x := (u : Int)) gk (St.start W.heap) (r := ((tzN u : Nat) : Int)) (by unfold tzD; rw [if_pos (by omega), Int.toNat_natCast]) W rfl
  refine h.mono fun e W' ⟨hs, he⟩ => ?_
  cases e with
  | returned v =>
    obtain ⟨v', hv, ψ, y, h1, h2, h3, h4⟩ := he
    cases hv
    refine ⟨by rw [h2, h3]; rfl, hs.os, hs.tape, hs.output, ?_, ?_⟩
    · rcases Nat.lt_or_ge W'.heap.size W.heap.size with g | g
      · have e1 : snap W.heap W'.heap.size = some W.heap[W'.heap.size] := Array.getElem?_eq_getElem g
        have := lt_of_get ((h1.trans h4.sub) _ _ e1)
        omega
      · exact g
    · intro k hk _
      have e1 : snap W.heap k = some W.heap[k] := Array.getElem?_eq_getElem hk
      have e2 : W'.heap[k]? = some W.heap[k] := (h1.trans h4.sub) _ _ e1
      rw [e2, Array.getElem?_eq_getElem hk]
  | panicked c => obtain ⟨v', hv, _⟩ := he; cases hv
  | outgrown => exact he.elim
theorem bits_and {a b : Nat} (ha : a < 18446744073709551616) (hb : b < 18446744073709551616) : bits BinOp.and IntKind.u64 (a : Int) (b : Int) = ((a &&& b : Nat) : Int) := and_word ha hb
theorem bitsU_le (ws : List Nat) {k m : Nat} (h : k ≤ m) : ∃ r, bitsU ws m = bitsU ws k ++ r := by
  induction h with
  | refl => exact ⟨[], by simp⟩
  | step _ ih =>
    obtain ⟨r, e⟩ := ih
    exact ⟨r ++ _, by rw [Nat.succ_eq_add_one, bitsU_succ, e, List.append_assoc]⟩
set_option maxRecDepth 100000 in
set_option maxHeartbeats 2000000 in
/-- Each's iterator, whatever the loop's body does. -/
theorem each1_in (n : Nat) (hn : 3 ≤ n) (l bx ba off cap : Nat) (ws : List Nat) (hws : ∀ w ∈ ws, w < 18446744073709551616) (hlen : ws.length ≤ 1000) (J Jx : List Int → World → Prop) (W : World) (gk : Glob (snap W.heap)) (hJ : AbidesFrom W.heap.size J)
    (hY : ∀ pre x W1, J pre W1 → pre.length < (bitsU ws ws.length).length → YieldAt Fence.wide (n - 1) Tryd.prog l #[.int .i64 x] W1 fun e W' =>
      (e = .returned (.bool true) ∧ J (pre ++ [x]) W' ∧ KpL [bx, ba, 0] W1 W') ∨ (e = .returned (.bool false) ∧ Jx (pre ++ [x]) W'))
    (hbx : W.cell? ⟨bx, 0, none⟩ = some (.slice (some ⟨ba, off, none⟩) ws.length cap)) (hc : ∀ j, j < ws.length → W.cell? ⟨ba, off + j, none⟩ = some (.int .u64 ((ws[j]?.getD 0 : Nat) : Int))) (h0 : J [] W) :
    CallsIn Fence.wide n Tryd.prog 54 #[.func (.yield l) #[] #[], .pointer (some ⟨bx, 0, none⟩)] W fun e W' => (∃ v, e = .returned v) ∧
      ((∃ xs, xs = bitsU ws ws.length ∧ J xs W') ∨ (∃ pre, pre <+: bitsU ws ws.length ∧ Jx pre W')) := by
  refine callsIn_of_wp Tryd.func54 rfl trivial ?_ rfl
  simp only [Tryd.ntmps54, List.size_toArray, List.length_cons, List.length_nil, Nat.reduceAdd, Nat.reduceSub, Array.replicate_succ, Array.replicate_zero, List.push_toArray, List.append_toArray, List.nil_append, List.cons_append]
  gi_wp2
  gi_loopw [7] (fun i wr => ∃ k : Nat, k ≤ ws.length ∧ i = .int .i64 k ∧ J (bitsU ws k) wr ∧ KpL [bx, ba, 0] W wr)
    (fun i _ => ws.length - (intOf i).toNat)
  case atStart => exact ⟨0, Nat.zero_le _, rfl, h0, KpL.refl _ _⟩
  case round =>
    obtain ⟨k, hk, rfl, hJs, hnx⟩ := hrel
    by_cases hlt : k < ws.length
    · have hcx : wr.cell? ⟨ba, off + k, none⟩ = some (.int .u64 ((ws[k]?.getD 0 : Nat) : Int)) := hnx.cell (by simp) (hc k hlt)
      obtain ⟨x0, hx0⟩ : ∃ x0, ws[k]?.getD 0 = x0 := ⟨_, rfl⟩
      have hw0 : x0 < 18446744073709551616 := by
        rw [← hx0, List.getElem?_eq_getElem hlt]
        exact hws _ (List.getElem_mem hlt)
      have hsucc := bitsU_succ ws k
      rw [hx0] at hcx hsucc
      obtain ⟨rest, hrest⟩ := bitsU_le ws (k := k + 1) (m := ws.length) (by omega)
      gi_wp2
      gi_loopw [4] (fun x wr2 => ∃ (u : Nat) (p : List Nat), x = .int .u64 (u : Int) ∧ u < 18446744073709551616 ∧ bitsW x0 = p ++ bitsW u ∧ J (bitsU ws k ++ p.map fun (j : Nat) => ((k : Int) * 64 + (j : Int))) wr2 ∧ KpL [bx, ba, 0] wr wr2)
        (fun x _ => (intOf x).toNat)
      case atStart => exact ⟨_, [], rfl, hw0, rfl, by simpa using hJs, KpL.refl _ _⟩
      case round =>
        obtain ⟨u, p, rfl, hu, hp, hJ2, hn2⟩ := hrel
        by_cases hu0 : u = 0
        · subst hu0
          gi_wp2
          exact ⟨⟨k + 1, by omega, rfl, by rw [hsucc, hp, bitsW_zero, List.append_nil]; exact hJ2, hnx.trans hn2⟩, by simp only [intOf]; omega⟩
        · obtain ⟨z, z1, z2, z3, z4, z5⟩ := low_bit hu0 hu
          have hz : tzN u = z := by
            unfold tzN
            rw [bitsW_step z1 z2 z3 z4]
            rfl
          have hst := bitsW_step z1 z2 z3 z4
          have hgk := (hnx.trans hn2).glob (by simp) gk
          gi_wp2
          refine ⟨trivial, fun _ => by omega, (tz_in _ hgk hu).mono ?_⟩
          rintro e W1 ⟨rfl, hg⟩
          have hJ3 := hJ _ _ W1 none hJ2 hg (fun r e => by cases e)
          rw [hz]
          have hlen3 : (bitsU ws k ++ p.map fun (j : Nat) => ((k : Int) * 64 + (j : Int))).length < (bitsU ws ws.length).length := by
            rw [hrest, hsucc, hp, hst]
            simp only [List.length_append, List.length_map, List.length_cons]
            omega
          obtain ⟨fn, tmps, assign, body, hy, hR⟩ := hY _ ((k : Int) * 64 + (z : Int)) W1 hJ3 hlen3
          gi_wp2
          refine ⟨fun _ => by omega, hR.mono ?_⟩
          rintro e W3 (⟨rfl, hJ4, hk4⟩ | ⟨rfl, hx4⟩)
          · gi_wp2
            have hu1 : (u : Int) - 1 = ((u - 1 : Nat) : Int) := by omega
            have hle : u &&& (u - 1) ≤ u - 1 := Nat.and_le_right
            have hJ5 : J (bitsU ws k ++ (p ++ [z]).map fun (j : Nat) => ((k : Int) * 64 + (j : Int))) W3 := by
              rw [List.map_append, ← List.append_assoc]
              exact hJ4
            rw [hu1, bits_and hu (by omega)]
            exact ⟨⟨_, p ++ [z], rfl, by omega, by rw [hp, hst, List.append_assoc]; rfl, hJ5, (hn2.trans (KpL.grown hg)).trans hk4⟩, by simp only [intOf]; omega⟩
          · gi_wp2
            refine bodyPost_ret (results_none rfl _ _ _) rfl ?_
            refine ⟨⟨_, rfl⟩, .inr ⟨_, ?_, hx4⟩⟩
            rw [hrest, hsucc, hp, hst, List.map_append, List.map_cons]
            exact ⟨((bitsW (u &&& (u - 1))).map fun (j : Nat) => ((k : Int) * 64 + (j : Int))) ++ rest, by simp⟩
    · obtain rfl : k = ws.length := by omega
      gi_wp2
      go_end0
      exact ⟨⟨_, rfl⟩, .inl ⟨_, rfl, hJs⟩⟩
end Go.Proofs.YtbpbfoemghcfaaaDoor

/-
  DIGRAPH: slices.Collect at int, of an iterator whose words must be left alone: a slice that owns what came.
  Conditions: as many numbers as the model's bounds let by.
-/
namespace Go.Proofs.YtbpbfoemghcfaaaDoor
open Go Go.Eng Go.RowKit Go.Shelf
set_option linter.unusedVariables false
attribute [local go_sem] Oper.semAt_some

theorem KpL.of_below {L : List Nat} {n₀ : Nat} (hL : ∀ b ∈ L, b < n₀) {A B : World} (h : Below n₀ A B) : KpL L A B := fun b hb o ho => (h.block b (hL b hb)).trans ho
theorem KpL.putObj {L : List Nat} {n₀ : Nat} (hL : ∀ b ∈ L, b < n₀) (W : World) (l : Nat) (o o' : Obj) (hl : n₀ ≤ l) (h : W.heap[l]? = some o) (h1 : o.isCells = false) (h2 : o.isWalk = false) : KpL L W (W.putObj l o') := fun b hb q hq => by
  have := hL b hb
  rw [World.putObj_heap_other (by omega)]
  exact hq
theorem infoInt : (Tryd.prog.info? 3).map (fun i => (i.zero, i.size, i.bytes)) = some (some (.int .i64 0), 1, 8) := by kernel_rfl
abbrev encI (x : Int) : Array Value := #[.int .i64 x]
set_option maxRecDepth 100000 in
set_option maxHeartbeats 2000000 in
theorem appendSeq_in (n : Nat) (hn : 3 ≤ n) (g : Nat) (lb : Array Value) (eg : ∀ args w, (callFunc g args).run Tryd.prog w = .ok (.enter g args) w) (L : List Nat) (xs : List Int) (Sp : List Int → Prop) (hlen : xs.length ≤ 1000000) (w : World) (hL : ∀ b ∈ L, b < w.heap.size)
    (hseq : SeqStopsK Fence.wide (n - 1) Tryd.prog g lb encI (KpL L) (fun ys => ys = xs) Sp xs.length w) :
    CallsIn Fence.wide n Tryd.prog 52 #[.slice none 0 0, .func (.func g) #[] lb] w fun e W' => ∃ v, e = .returned v ∧ W'.ownsRow w.heap.size 3 1 v xs.length (xs.map (Value.int .i64)) ∧ (v = .slice none 0 0 ↔ xs = []) ∧ Below w.heap.size w W' := by
  have h1 : 1 ≤ n := by omega
  obtain ⟨i0, hi, hz0, hz1, hz2⟩ := info_parts infoInt
  refine callsIn_of_wp_marks Tryd.func52 rfl trivial ?_ rfl
  simp only [Tryd.ntmps52, List.size_toArray, List.length_cons, List.length_nil, Nat.reduceAdd, Nat.reduceSub, Array.replicate_succ, Array.replicate_zero, List.push_toArray, List.append_toArray, List.nil_append, List.cons_append]
  gi_wp2
  have bO := Boxed.new w 28 (.slice none 0 0)
  have hB0 : Below w.heap.size w (w.alloc (.cells #[.slice none 0 0] 28)) := (Below.refl _ w).alloc (Nat.le_refl _) _
  refine wpIn_rangeFunc_ownG rfl h1 (gf := g) (lb := lb) rfl trivial eg hseq (fun h k => h.trans k) (KpL.putObj (fun b hb => by have := hL b hb; simp; omega)) hB0 (fun _ => rfl)
    (fun pre W => (∃ v, Boxed W w.heap.size 28 v ∧ W.ownsRow w.heap.size 3 1 v pre.length (pre.map (Value.int .i64)) ∧ (v = .slice none 0 0 ↔ pre = [])) ∧ Below w.heap.size w W)
    (fun _ _ _ => False)
    (OwnFrom.and (Own.from (holdsRow_own w.heap.size w.heap.size 28 3 1 (fun pre => pre.length) (fun pre => pre.map (Value.int .i64)) (fun pre v => v = .slice none 0 0 ↔ pre = [])) _) (ownFrom_below (Nat.le_refl _) (by simp)))
    (fun _ _ _ _ _ hs _ _ => hs)
    ⟨⟨_, bO, World.ownsRow_nil _ _ _ _, by simp⟩, hB0⟩
    (fun x => { tmps := #[.slice none 0 0, .func (.func g) #[] lb, .pointer (some ⟨w.heap.size, 0, none⟩), undef, .slice none 0 0, .int .i64 x, .func (.func g) #[] lb, .int .i64 x, undef, undef, undef, undef, undef], defers := [] }) ?assign ?body ?done ?stop
  case assign =>
    intro l x W K hK
    gi_wp2
    exact hK
  case body =>
    rintro l pre x W ⟨⟨v, hv, hrow, hnil⟩, hB⟩ hlt
    have hc := hv.cell
    gi_wp2_with (gi_at_builtin; refine wpListIn_append_own _ rfl _ _ 28 rfl w.heap.size 3 i0 (.int .i64 0) 1 8 Tryd.underlying28 hi hz0 hz1 hz2 rfl (by decide) _ _ _ rfl (hrow.alloc _) ⟨W.heap.size, 0, none⟩ 1 1 [.int .i64 x] rfl rfl (cell_one_new _ _ _) (by simp [Value.oneCell']) (by unfold maxLen; omega) (by omega) (by have := hB.size; simp; omega) ?_; intro v' w1 hown' hgrow _; obtain ⟨g', cap', rfl⟩ := ownsRow_succ hown'; obtain ⟨hv1, hv2, hr2, hk2, hb2⟩ := hv.appended (by decide) hrow hB.size (Nat.le_refl _) hown' hgrow; have hc1 := hv1.cell; have hf1 := hv1.frozen)
    exact ⟨hk2.from _, KpL.of_below hL hb2, ⟨_, hv2, by simpa using hr2, by simp⟩, hB.trans hb2⟩
  case done =>
    rintro D ys W hD rfl ⟨⟨v, hv, hrow, hnil⟩, hB⟩ hK
    have hc := hv.cell
    gi_wp2
    refine ⟨by simp, .inl ⟨_, _, rfl, run_takeDeferred hK, ?_⟩⟩
    exact ⟨_, results_tmp rfl _ _ _, v, rfl, ownsRow_putObj hrow _ hK rfl, hnil, hB.trans (belowK_b (w := w) (Nat.le_refl _) W D _ _ (by simp at hD; omega) hK rfl rfl)⟩
  case stop =>
    rintro D c pre W _ _ h _
    exact h.elim
set_option maxHeartbeats 2000000 in
theorem collect_in (n : Nat) (hn : 4 ≤ n) (g : Nat) (lb : Array Value) (eg : ∀ args w, (callFunc g args).run Tryd.prog w = .ok (.enter g args) w) (L : List Nat) (xs : List Int) (Sp : List Int → Prop) (hlen : xs.length ≤ 1000000) (w : World) (hL : ∀ b ∈ L, b < w.heap.size)
    (hseq : SeqStopsK Fence.wide (n - 1 - 1) Tryd.prog g lb encI (KpL L) (fun ys => ys = xs) Sp xs.length w) :
    CallsIn Fence.wide n Tryd.prog 36 #[.func (.func g) #[] lb] w fun e W' => ∃ v, e = .returned v ∧ W'.ownsRow w.heap.size 3 1 v xs.length (xs.map (Value.int .i64)) ∧ (v = .slice none 0 0 ↔ xs = []) ∧ Below w.heap.size w W' := by
  refine callsIn_of_wp Tryd.func36 rfl trivial ?_ rfl
  simp only [Tryd.ntmps36, List.size_toArray, List.length_cons, List.length_nil, Nat.reduceAdd, Nat.reduceSub, Array.replicate_succ, Array.replicate_zero, List.push_toArray, List.append_toArray, List.nil_append, List.cons_append]
  gi_wp2
  refine ⟨trivial, fun _ => by omega, (appendSeq_in (n - 1) (by omega) g lb eg L xs Sp hlen w hL hseq).mono ?_⟩
  rintro e W' ⟨v, rfl, h1, h2, h3⟩
  gi_wp2
  go_ret
  exact ⟨v, rfl, h1, h2, h3⟩
end Go.Proofs.YtbpbfoemghcfaaaDoor

namespace Go.Proofs.YtbpbfoemghcfaaaDoor
open Go Go.Eng
set_option linter.unusedVariables false
set_option maxRecDepth 100000

/-- (*tronage/bitset.Set).List -/
noncomputable def bitset_Set_List_T (s_0 : Option Addr) : T :=
  T.call 37 [(.pointer s_0)] (.one (.atom .func)) fun (t1 : Option (Fn × Array Value × Array Value)) =>
  T.call 36 [(Atom.val .func t1)] (.one (.atom .slice)) fun (t2 : Option Addr × Nat × Nat) =>
  T.ret (.slice t2.1 t2.2.1 t2.2.2)
theorem bitset_Set_List_den (s_0 : Option Addr) : denFun Tryd.prog Tryd.f22 [(.pointer s_0)] = bitset_Set_List_T s_0 := by kernel_rfl

end Go.Proofs.YtbpbfoemghcfaaaDoor

/-
  DIGRAPH: Each and List of a set.
  Conditions: the table of de Bruijn's numbers reads as its initialiser lays it; words of 64 bits, at most a thousand.
-/
namespace Go.Proofs.YtbpbfoemghcfaaaDoor
open Go Go.Eng Go.RowKit Go.Shelf
set_option linter.unusedVariables false
attribute [local go_sem] Oper.semAt_some
set_option maxRecDepth 100000

theorem St.ofOwns {α : Type} {φ : Snap} {Γ : List Chk} {w W' : World} {e : TypeId} {r : Ro α} {v : Value} {l : List α} {vs : List Value} (H : St φ Γ w.heap) (hB : Below w.heap.size w W') (ho : W'.ownsRow w.heap.size e 1 v l.length vs) (ha : r.All φ vs l) (hsz : r.sz = 1) :
    ∃ t : Slc, v = .slice t.1 t.2.1 t.2.2 ∧ St φ (⟨Rep.row e r, [.slice t.1 t.2.1 t.2.2], l⟩ :: Γ) W'.heap := by
  have hs := H.sub
  have hs' : Sub φ (snap W'.heap) := fun k o hk => by
    have h1 := hs k o hk
    have := lt_of_get h1
    show W'.heap[k]? = some o
    rw [hB.block k this]; exact h1
  have H1 : StX φ w.heap Γ fun k => w.heap.size ≤ k := StX.more H fun k hk => .inl hk
  have H2 : StX φ W'.heap Γ fun k => w.heap.size ≤ k := StX.heap H1 (fun k hk _ => hB.block k hk) hs'
  obtain ⟨hl, ⟨rfl, hn⟩ | ⟨g, cap, cur, rfl, hg, hcur, hc1, hc2, hc3, hc4⟩⟩ := ho
  · have : l = [] := List.eq_nil_of_length_eq_zero hn
    subst this
    exact ⟨(none, 0, 0), rfl, St.nil _ _ (H2.less fun k hk => hk.elim)⟩
  · refine ⟨(some ⟨g, 0, none⟩, l.length, cap), rfl, fun k => k = g, ⟨some ⟨g, 0, none⟩, l.length, cap, vs, rfl, rfl, hc2, ?_, .inr ⟨g, 0, cur, rfl, hcur, ?_, hc1, ?_, fun i u hu => ?_⟩, ha, fun i => by simp [blk]⟩, fun k hk => ⟨?_, fun q => q⟩, H2.less fun k hk => ?_⟩
    · intro b off s q
      cases q
      exact ⟨rfl, fun arr ty f harr => by rw [hcur] at harr; cases harr; rw [hsz]; exact hc3⟩
    · rw [hsz]; omega
    · rw [hsz]; omega
    · rw [← hc4, List.getElem?_take] at hu
      split at hu
      · rw [Nat.zero_add]; simpa using hu
      · cases hu
    · subst hk
      cases hφ : φ k with
      | none => rfl
      | some o => have := lt_of_get (hs k o hφ); omega
    · rcases hk with hk | hk
      · exact hk.elim
      · subst hk; exact hg
set_option maxHeartbeats 1000000 in
/-- Each's iterator at no words. -/
theorem each1_nil_in (n : Nat) (l bx : Nat) (p : Option Addr) (cap : Nat) (J : List Int → World → Prop) (W : World) (hbx : W.cell? ⟨bx, 0, none⟩ = some (.slice p 0 cap)) (h0 : J [] W) :
    CallsIn Fence.wide n Tryd.prog 54 #[.func (.yield l) #[] #[], .pointer (some ⟨bx, 0, none⟩)] W fun e W' => (∃ v, e = .returned v) ∧ J [] W' := by
  refine callsIn_of_wp Tryd.func54 rfl trivial ?_ rfl
  simp only [Tryd.ntmps54, List.size_toArray, List.length_cons, List.length_nil, Nat.reduceAdd, Nat.reduceSub, Array.replicate_succ, Array.replicate_zero, List.push_toArray, List.append_toArray, List.nil_append, List.cons_append]
  gi_wp2
  gi_loopw [7] (fun i wr => i = .int .i64 0 ∧ J [] wr) (fun _ _ => 0)
  case atStart => exact ⟨rfl, h0⟩
  case round =>
    obtain ⟨rfl, hJs⟩ := hrel
    gi_wp2
    go_end0
    exact ⟨⟨_, rfl⟩, hJs⟩
/-- What a box and a row of words are to Each's iterator. -/
theorem each_stops (n : Nat) (hn : 3 ≤ n) {w : World} {bx : Nat} {t : Slc} {l : List Int} (gk : Glob (snap w.heap)) (hws : ∀ x ∈ l, 0 ≤ x ∧ x < 18446744073709551616) (hlen : l.length ≤ 1000)
    (hbx : w.cell? ⟨bx, 0, none⟩ = some (.slice t.1 t.2.1 t.2.2)) (hl : l.length = t.2.1) (hc : CellsAt w.heap t.1 (l.map (Atom.int .u64).val)) (hpl : ∀ a, t.1 = some a → a.spot = none) (hlt : bx < w.heap.size) (hg0 : 0 < w.heap.size) :
    ∃ L : List Nat, (∀ b ∈ L, b < w.heap.size ∧ (b = bx ∨ b = 0 ∨ ∃ a, t.1 = some a ∧ b = a.block)) ∧ SeqStopsK Fence.wide n Tryd.prog 54 #[.pointer (some ⟨bx, 0, none⟩)] encI (KpL L) (fun ys => ys = bitsU (l.map Int.toNat) l.length) (fun pre => pre <+: bitsU (l.map Int.toNat) l.length) (bitsU (l.map Int.toNat) l.length).length w := by
  cases l with
  | nil =>
    refine ⟨[], (fun b hb => by cases hb), fun q J Jx W hW hJ hJx hY h0 => ?_⟩
    have h1 := (hW.cell (p := ⟨bx, 0, none⟩) hlt).trans hbx
    have hz : t.2.1 = 0 := hl.symm
    rw [hz] at h1
    exact (each1_nil_in n q bx t.1 t.2.2 J W h1 h0).mono fun e W' ⟨he, hj⟩ => ⟨he, .inl ⟨[], rfl, hj⟩⟩
  | cons x l =>
    obtain ⟨a, ha, _⟩ := hc 0 ((Atom.int .u64).val x) rfl
    obtain ⟨ba, off, sp⟩ := a
    have : sp = none := hpl _ ha
    subst this
    have hcell : ∀ j v, (((x :: l).map (Atom.int .u64).val))[j]? = some v → w.cell? ⟨ba, off + j, none⟩ = some v := fun j v hv => by
      obtain ⟨a', ha', hc'⟩ := hc j v hv
      rw [ha] at ha'
      cases ha'
      rw [add_mk] at hc'
      exact hc'
    have hba : ba < w.heap.size := by
      have := hcell 0 _ rfl
      unfold World.cell? at this
      dsimp only at this
      cases ho : w.heap[ba]? with
      | none => rw [ho] at this; cases this
      | some o => exact lt_of_get ho
    refine ⟨[bx, ba, 0], fun b hb => ?_, fun q J Jx W hW hJ hJx hY h0 => ?_⟩
    · simp only [List.mem_cons, List.not_mem_nil, or_false] at hb
      rcases hb with rfl | rfl | rfl
      · exact ⟨hlt, .inl rfl⟩
      · exact ⟨hba, .inr (.inr ⟨_, ha, rfl⟩)⟩
      · exact ⟨hg0, .inr (.inl rfl)⟩
    · have h1 := (hW.cell (p := ⟨bx, 0, none⟩) hlt).trans hbx
      have hn' : ((x :: l).map Int.toNat).length = t.2.1 := by rw [List.length_map]; exact hl
      have hl1 : ((x :: l).map Int.toNat).length = (x :: l).length := List.length_map _
      have h2 := each1_in n hn q bx ba off t.2.2 ((x :: l).map Int.toNat) (fun u hu => by
          obtain ⟨y, hy, rfl⟩ := List.mem_map.1 hu
          have := hws y hy
          omega) (by rw [hl1]; exact hlen) J Jx W (KpL.glob (L := [0]) (KpL.of_below (fun b hb => by simp at hb; omega) hW) (by simp) gk) hJ (by rw [hl1]; exact hY) (by rw [hn', ← ha]; exact h1) (fun j hj => by
          rw [hl1] at hj
          have hv : ((x :: l).map (Atom.int .u64).val)[j]? = some (.int .u64 (x :: l)[j]) := by
            rw [List.getElem?_map, List.getElem?_eq_getElem hj]
            rfl
          have h3 := (hW.cell (p := ⟨ba, off + j, none⟩) hba).trans (hcell j _ hv)
          have h4 := hws _ (List.getElem_mem hj)
          have h5 : ((((x :: l).map Int.toNat)[j]?.getD 0 : Nat) : Int) = (x :: l)[j] := by
            rw [List.getElem?_map, List.getElem?_eq_getElem hj]
            show (((x :: l)[j].toNat : Nat) : Int) = _
            omega
          rw [h5]
          exact h3) h0
      rw [hl1] at h2
      exact h2
def listD (s : SetD) : Option (List Int) := if s.2.length ≤ 1000 ∧ ∀ x ∈ s.2, 0 ≤ x ∧ x < 18446744073709551616 then some (bitsU (s.2.map Int.toNat) s.2.length) else none
theorem bitsW_len (w : Nat) : (bitsW w).length ≤ 64 := by
  unfold bitsW
  have := List.length_filter_le w.testBit (List.range 64)
  simpa using this
theorem bitsU_len (ws : List Nat) (k : Nat) : (bitsU ws k).length ≤ 64 * k := by
  induction k with
  | zero => exact Nat.le_refl _
  | succ k ih =>
    rw [bitsU_succ, List.length_append, List.length_map]
    have := bitsW_len (ws[k]?.getD 0)
    omega
abbrev setC (p : Option Addr) (x : SetD) : Chk := ⟨Rep.obj 59 (Rep.prod (Rep.ro (Ro.int .i64)) (Rep.row 56 (Ro.int .u64))), [.pointer p], x⟩
theorem each_sim {φ : Snap} {h : Heap} {F : List Chk} {p : Option Addr} {s : SetD} (s0 : St φ (setC p s :: F) h) (hb : s.2.length ≤ 1073741824) : CallsH Tryd.prog 37 [.pointer p] h
    (Back fun v h' => ∃ ψ : Snap, ∃ r : Nat, ∃ y : Slc, Sub φ ψ ∧ v = .func (.func 54) #[] #[.pointer (some ⟨r, 0, none⟩)] ∧ St ψ (⟨Rep.raw 57, [.pointer (some ⟨r, 0, none⟩)], [.slice y.1 y.2.1 y.2.2]⟩ :: ⟨Rep.row 56 (Ro.int .u64), [.slice y.1 y.2.1 y.2.2], s.2⟩ :: setC p s :: F) h') := by
  refine calls_of mixed Tryd.func37 ?_
  rw [bitset_Set_Each_den]
  unfold bitset_Set_Each_T
  obtain ⟨b2, vs3, e4, hl5, s6⟩ := s0.open
  obtain rfl : p = some ⟨b2, 0, none⟩ := by simpa using e4
  clear e4
  have s7 := s6.at1
  obtain ⟨v8, w9, rfl, hl11, s10⟩ := s7.pair
  obtain ⟨g12, s13⟩ := s10.ro
  subst g12
  obtain ⟨t15, e16⟩ := s13.rowCs
  subst e16
  have s18 : St φ (⟨Rep.row 56 (Ro.int .u64), [.slice t15.1 t15.2.1 t15.2.2], s.2⟩ :: ⟨Rep.raw 59, [.pointer (some ⟨b2, 0, none⟩)], [.int .i64 s.1, .slice t15.1 t15.2.1 t15.2.2]⟩ :: F) _ := s13
  refine t_deref _ rfl ?_
  refine s_loadR (b := b2) (j := 1) (x := t15) s18.at1 rfl ?_
  refine s_call (clone53_own s18 (r := s.2) (by unfold cloneD; rw [if_pos hb])) ?_
  rintro _ h1 ⟨ψ, y, l1, le1, rfl, rfl, s23⟩
  refine ⟨y, rfl, ?_⟩
  refine s_new (vs := [.slice none 0 0]) s23 ?_
  intro r h2 s27
  refine s_put (b := r) (j := 0) (v := .slice y.1 y.2.1 y.2.2) s27 rfl (by decide) ?_
  intro h3 s28
  have s34 := s28.at 2
  have s36 := St.unro (r := (Ro.int .i64)) (cs := [.int .i64 s.1]) (x := s.1) s34 rfl
  have s37 := St.unpair s36
  have s38 : St ψ (setC (some ⟨b2, 0, none⟩) (s.1, s.2) :: ⟨Rep.raw 57, [.pointer (some ⟨r, 0, none⟩)], [.slice y.1 y.2.1 y.2.2]⟩ :: ⟨Rep.row 56 (Ro.int .u64), [.slice y.1 y.2.1 y.2.2], s.2⟩ :: F) h3 := St.shut (s37.at 3)
  exact finOf_back ⟨ψ, r, y, le1, rfl, (s38.at 2).at 2⟩
theorem row_spot {φ : Snap} {h : Heap} {F : List Chk} {k : IntKind} {ty : TypeId} {t : Slc} {l : List Int} (s : St φ (⟨Rep.row ty (Ro.int k), [.slice t.1 t.2.1 t.2.2], l⟩ :: F) h) : ∀ a, t.1 = some a → a.spot = none := by
  intro a ha
  obtain ⟨F, ⟨p, n, c, vs, e, hn, hc, hfu, ho, hall, hF⟩, h2, H⟩ := s
  simp only [List.cons.injEq, Value.slice.injEq, and_true] at e
  rw [ha] at e
  rcases ho with ⟨hp, _⟩ | ⟨b, off, arr, hp, _⟩
  · rw [hp] at e; cases e.1
  · rw [hp] at e; cases e.1; rfl
theorem list_sim {φ : Snap} {h : Heap} {F : List Chk} {p : Option Addr} {s : SetD} (gk : Glob φ) (s0 : St φ (setC p s :: F) h) {r : List Int} (hd : listD s = some r) : CallsH Tryd.prog 22 [.pointer p] h
    (Back fun v h' => ∃ ψ : Snap, ∃ y : Slc, ∃ l1 : List Int, Sub φ ψ ∧ v = ((.one (.atom .slice)) : Sh).val y ∧ l1 = r ∧ St ψ (⟨Rep.row 3 (Ro.int .i64), [.slice y.1 y.2.1 y.2.2], l1⟩ :: setC p s :: F) h') := by
  unfold listD at hd
  split at hd
  · rename_i hg
    cases hd
    obtain ⟨hlen, hws⟩ := hg
    refine calls_of mixed Tryd.func22 ?_
    rw [bitset_Set_List_den]
    unfold bitset_Set_List_T
    refine s_call (each_sim s0 (by omega)) ?_
    rintro _ h1 ⟨ψ, bx, y, le1, rfl, s1⟩
    refine ⟨some (.func 54, #[], #[.pointer (some ⟨bx, 0, none⟩)]), rfl, ?_⟩
    have gk1 := (gk.mono le1).mono s1.sub
    have hbox : cellH h1 ⟨bx, 0, none⟩ = some (.slice y.1 y.2.1 y.2.2) := s1.cell rfl
    have hlt : bx < h1.size := by
      unfold cellH ofHeap World.cell? at hbox
      dsimp only at hbox
      cases ho : h1[bx]? with
      | none => rw [ho] at hbox; cases hbox
      | some o => exact lt_of_get ho
    have hg0 : 0 < h1.size := by
      obtain ⟨t, f, hg⟩ := gk1
      exact lt_of_get hg
    have hcol : CallsH Tryd.prog 36 [.func (.func 54) #[] #[.pointer (some ⟨bx, 0, none⟩)]] h1 (Back fun v h' => ∃ t : Slc, v = ((.one (.atom .slice)) : Sh).val t ∧
        St ψ (⟨Rep.row 3 (Ro.int .i64), [.slice t.1 t.2.1 t.2.2], bitsU (s.2.map Int.toNat) s.2.length⟩ :: ⟨Rep.raw 57, [.pointer (some ⟨bx, 0, none⟩)], [.slice y.1 y.2.1 y.2.2]⟩ :: ⟨Rep.row 56 (Ro.int .u64), [.slice y.1 y.2.1 y.2.2], s.2⟩ :: setC p s :: F) h') := by
      intro w hw
      subst hw
      obtain ⟨L, hL, hseq⟩ := each_stops 8 (by decide) gk1 hws hlen hbox (s1.at 1).rowLen.symm (row_cells (s1.at 1)) (row_spot (s1.at 1)) hlt hg0
      have hbl := bitsU_len (s.2.map Int.toNat) s.2.length
      have hc := callsIn_wide.1 (collect_in 10 (by decide) 54 #[.pointer (some ⟨bx, 0, none⟩)] (enters_of Tryd.func54 (by kernel_rfl) rfl) L (bitsU (s.2.map Int.toNat) s.2.length) _ (by omega) w (fun b hb => (hL b hb).1) hseq)
      refine hc.mono ?_
      rintro e W' ⟨v, rfl, hown, _, hB⟩
      obtain ⟨t, hv, s2⟩ := St.ofOwns s1 hB hown (all_ints (k := .i64) _) rfl
      exact ⟨⟨hB.os, hB.tape, hB.output, hB.size⟩, v, rfl, t, hv, s2⟩
    refine s_call hcol ?_
    rintro _ h2 ⟨t, rfl, s2⟩
    refine ⟨t, rfl, ?_⟩
    have s3 := (s2.at 1).tail
    have s4 := (s3.at 1).tail
    exact finOf_back ⟨ψ, t, _, le1, rfl, rfl, s4⟩
  · cases hd
end Go.Proofs.YtbpbfoemghcfaaaDoor

/-
  DIGRAPH: pieces that hang on nothing that stays, put apart from all else, and back.
  Conditions: none.
-/
namespace Go.Proofs.YtbpbfoemghcfaaaDoor
open Go Go.Eng
set_option linter.unusedVariables false

/-- A piece that hangs on nothing that stays; and whose blocks are cells. -/
def Free (c : Chk) : Prop := (∀ φ φ' h F, c.on φ h F → c.on φ' h F) ∧ ∀ φ h F, c.on φ h F → ∀ k, F k → ∃ cs ty f, h[k]? = some (.cells cs ty f)
theorem free_raw (ty : TypeId) (b : Nat) (vs : List Value) : Free ⟨Rep.raw ty, [.pointer (some ⟨b, 0, none⟩)], vs⟩ := by
  refine ⟨fun φ φ' h F H => H, fun φ h F H k hk => ?_⟩
  obtain ⟨b', e, hb, hF⟩ := H
  have hkb := (hF k).1 hk
  subst hkb
  exact ⟨_, _, _, hb⟩
theorem all_phi {k : IntKind} {φ φ' : Snap} {vs : List Value} {l : List Int} (h : (Ro.int k).All φ vs l) : (Ro.int k).All φ' vs l := by
  rw [all_atom h]
  exact all_ints l
theorem free_setC (p : Option Addr) (s : SetD) : Free (setC p s) := by
  constructor
  · rintro φ φ' h F ⟨b, vs, G, e, hb, ⟨a, c, A, B, e2, ha, hc, g1, g2⟩, hG, hF⟩
    refine ⟨b, vs, G, e, hb, ⟨a, c, A, B, e2, ha, ?_, g1, g2⟩, hG, hF⟩
    obtain ⟨q, n, cp, us, e3, h1, h2, h3, h4, h5, h6⟩ := hc
    exact ⟨q, n, cp, us, e3, h1, h2, h3, h4, all_phi h5, h6⟩
  · rintro φ h F ⟨b, vs, G, e, hb, ⟨a, c, A, B, e2, ha, hc, g1, g2⟩, hG, hF⟩ k hk
    rcases (hF k).1 hk with rfl | hk
    · exact ⟨_, _, _, hb⟩
    · rcases (g2 k).1 hk with hk | hk
      · exact absurd hk (ha.1 k)
      · obtain ⟨q, n, cp, us, e3, h1, h2, h3, h4, h5, h6⟩ := hc
        obtain ⟨arr, harr⟩ := h4.ty k ((h6 k).1 hk)
        exact ⟨_, _, _, harr⟩
theorem StX.frame {ψ : Snap} {h : Heap} : ∀ {Γ Δ : List Chk} {X : Foot}, StX ψ h (Γ ++ Δ) X → ∃ Y : Foot, (∀ k, Y k → ψ k = none ∧ ¬ X k ∧ k < h.size) ∧ StX ψ h Δ (fun k => X k ∨ Y k) ∧
    ∀ Δ' (h' : Heap), Sub ψ (snap h') → (∀ k, Y k → h'[k]? = h[k]?) → StX ψ h' Δ' (fun k => X k ∨ Y k) → StX ψ h' (Γ ++ Δ') X := by
  intro Γ
  induction Γ with
  | nil => intro Δ X H; exact ⟨fun _ => False, fun k hk => hk.elim, H.less fun k hk => hk.elim id False.elim, fun Δ' h' _ _ H' => H'.less fun k hk => .inl hk⟩
  | cons c Γ ih =>
    intro Δ X ⟨F, h1, h2, H⟩
    obtain ⟨Y, y1, y2, y3⟩ := ih H
    refine ⟨fun k => F k ∨ Y k, fun k hk => ?_, y2.less fun k hk => ?_, fun Δ' h' hs hy H' => ⟨F, c.R.loc (fun i hi => hy i (.inl hi)) h1, h2, y3 Δ' h' hs (fun k hk => hy k (.inr hk)) (H'.less fun k hk => ?_)⟩⟩
    · rcases hk with hk | hk
      · exact ⟨(h2 k hk).1, (h2 k hk).2, c.R.lt h1 k hk⟩
      · exact ⟨(y1 k hk).1, fun g => (y1 k hk).2.1 (.inl g), (y1 k hk).2.2⟩
    · rcases hk with hk | hk | hk
      · exact .inl (.inl hk)
      · exact .inl (.inr hk)
      · exact .inr hk
    · rcases hk with (hk | hk) | hk
      · exact .inl hk
      · exact .inr (.inl hk)
      · exact .inr (.inr hk)
theorem StX.alone {ψ : Snap} {h : Heap} : ∀ {Δ : List Chk} {X : Foot}, (∀ c ∈ Δ, Free c) → StX ψ h Δ X → ∃ Z : Foot, (∀ k, Z k → ψ k = none ∧ ¬ X k) ∧ (∀ k, Z k → ∃ cs ty f, h[k]? = some (.cells cs ty f)) ∧ ∀ (φ0 : Snap) (X0 : Foot), (∀ k, Z k → φ0 k = none ∧ ¬ X0 k) → Sub φ0 (snap h) → StX φ0 h Δ X0 := by
  intro Δ
  induction Δ with
  | nil => intro X _ H; exact ⟨fun _ => False, fun k hk => hk.elim, fun k hk => hk.elim, fun φ0 X0 _ hs => hs⟩
  | cons c Δ ih =>
    intro X hf ⟨F, h1, h2, H⟩
    obtain ⟨Z, z1, z3, z2⟩ := ih (fun c hc => hf c (by simp [hc])) H
    refine ⟨fun k => F k ∨ Z k, fun k hk => ?_, fun k hk => hk.elim (fun g => (hf c (by simp)).2 _ _ _ h1 k g) (z3 k), fun φ0 X0 hz hs => ⟨F, (hf c (by simp)).1 _ _ _ _ h1, fun k hk => hz k (.inl hk), z2 φ0 _ (fun k hk => ⟨(hz k (.inr hk)).1, fun g => ?_⟩) hs⟩⟩
    · rcases hk with hk | hk
      · exact h2 k hk
      · exact ⟨(z1 k hk).1, fun g => (z1 k hk).2 (.inl g)⟩
    · rcases g with g | g
      · exact (hz k (.inr hk)).2 g
      · exact (z1 k hk).2 (.inr g)
/-- Pieces apart: all else stays; what becomes of them is put back. -/
theorem St.apart {ψ : Snap} {h : Heap} {Γ Δ : List Chk} (H : St ψ (Γ ++ Δ) h) (hf : ∀ c ∈ Δ, Free c) : ∃ φ0 : Snap, (∀ k, φ0 k ≠ none → k < h.size) ∧ St φ0 Δ h ∧ Sub ψ φ0 ∧ (∀ k o, h[k]? = some o → φ0 k = some o ∨ ∃ cs ty f, o = .cells cs ty f) ∧
    ∀ Δ' (h' : Heap), (∀ c ∈ Δ', Free c) → St φ0 Δ' h' → St ψ (Γ ++ Δ') h' := by
  classical
  have hs : Sub ψ (snap h) := H.sub
  obtain ⟨Y, y1, y2, y3⟩ := StX.frame H
  obtain ⟨Z, z1, z3, z2⟩ := StX.alone hf y2
  have hdef : ∀ k, ¬ Z k → (fun k => if Z k then none else h[k]? : Snap) k = h[k]? := fun k hk => if_neg hk
  refine ⟨fun k => if Z k then none else h[k]?, fun k hk => ?_, z2 _ _ (fun k hk => ⟨if_pos hk, fun g => g⟩) (fun k o ho => ?_), fun k o ho => ?_, fun k o ho => ?_, fun Δ' h' hf' H' => ?_⟩
  · rcases Nat.lt_or_ge k h.size with g | g
    · exact g
    · exfalso; apply hk
      show (if Z k then none else h[k]?) = none
      split
      · rfl
      · exact Array.getElem?_eq_none g
  · have ho : (if Z k then none else h[k]?) = some o := ho
    split at ho
    · cases ho
    · exact ho
  · show (if Z k then none else h[k]?) = some o
    rw [if_neg]
    · exact hs k o ho
    · intro hz; rw [(z1 k hz).1] at ho; cases ho
  · by_cases hz : Z k
    · obtain ⟨cs, ty, f, e⟩ := z3 k hz
      rw [ho] at e
      exact .inr ⟨cs, ty, f, Option.some.inj e⟩
    · exact .inl (by show (if Z k then none else h[k]?) = some o; rw [if_neg hz]; exact ho)
  · obtain ⟨Z', w1, _, w2⟩ := StX.alone hf' H'
    have hs' := H'.sub
    have hno : ∀ k, Z' k → ψ k = none ∧ ¬ Y k := fun k hk => by
      have h0 : (if Z k then none else h[k]?) = none := (w1 k hk).1
      split at h0
      · rename_i hz
        exact ⟨(z1 k hz).1, fun g => (z1 k hz).2 (.inr g)⟩
      · constructor
        · cases hψ : ψ k with
          | none => rfl
          | some o => have := hs k o hψ; rw [show snap h k = h[k]? from rfl, h0] at this; cases this
        · intro g
          have := (y1 k g).2.2
          rw [Array.getElem?_eq_getElem this] at h0
          cases h0
    have hsψ : Sub ψ (snap h') := fun k o ho => hs' k o (by
      show (if Z k then none else h[k]?) = some o
      rw [if_neg]
      · exact hs k o ho
      · intro hz; rw [(z1 k hz).1] at ho; cases ho)
    refine y3 Δ' h' hsψ (fun k hk => ?_) (w2 ψ _ (fun k hk => ⟨(hno k hk).1, fun g => g.elim id (hno k hk).2⟩) hsψ)
    have hlt := (y1 k hk).2.2
    have : (if Z k then none else h[k]?) = some h[k] := by
      rw [if_neg]
      · exact Array.getElem?_eq_getElem hlt
      · intro hz; exact (z1 k hz).2 (.inr hk)
    rw [show h'[k]? = some h[k] from hs' k _ this, Array.getElem?_eq_getElem hlt]
/-- Such pieces abide a turn of what is no cells. -/
theorem St.abide {φ0 : Snap} {h h' : Heap} : ∀ {Δ : List Chk} {X : Foot}, (∀ c ∈ Δ, Free c) → StX φ0 h Δ X → (∀ k, k < h.size → (∃ cs ty f, h[k]? = some (.cells cs ty f)) → h'[k]? = h[k]?) → Sub φ0 (snap h') → StX φ0 h' Δ X := by
  intro Δ
  induction Δ with
  | nil => intro X _ _ _ hs; exact hs
  | cons c Δ ih =>
    intro X hf ⟨F, h1, h2, H⟩ hk hs
    exact ⟨F, c.R.loc (fun i hi => hk i (c.R.lt h1 i hi) ((hf c (by simp)).2 _ _ _ h1 i hi)) h1, h2, ih (fun c hc => hf c (by simp [hc])) H hk hs⟩
/-- Such pieces need no more than what stays of old. -/
theorem St.back {φ ψ : Snap} {h : Heap} {Δ : List Chk} (hf : ∀ c ∈ Δ, Free c) (le : Sub φ ψ) (H : St ψ Δ h) : St φ Δ h := by
  obtain ⟨Z, z1, _, z2⟩ := StX.alone hf H
  have hn : ∀ k, Z k → φ k = none := fun k hk => by
    cases hφ : φ k with
    | none => rfl
    | some o => have := le k o hφ; rw [(z1 k hk).1] at this; cases this
  exact z2 φ _ (fun k hk => ⟨hn k hk, fun g => g⟩) fun k o ho => H.sub k o (le k o ho)
/-- A piece is put away: it stays as it is. -/
theorem St.hide {φ : Snap} {h : Heap} {c : Chk} {Γ : List Chk} (H : St φ (c :: Γ) h) : ∃ (ψ : Snap) (F : Foot), Sub φ ψ ∧ c.on φ h F ∧ (∀ k, F k → ψ k = h[k]?) ∧ St ψ Γ h := by
  classical
  obtain ⟨F, h1, h2, H⟩ := H
  have hs := H.sub
  have le : Sub φ (fun i => if F i then h[i]? else φ i) := fun i o ho => by
    show (if F i then h[i]? else φ i) = some o
    rw [if_neg]
    · exact ho
    · intro hF; have e := (h2 i hF).1; rw [e] at ho; cases ho
  refine ⟨fun i => if F i then h[i]? else φ i, F, le, h1, fun i hi => if_pos hi, ?_⟩
  refine StX.less (StX.grow H le (fun i o ho => ?_) fun k hk hn => ?_) fun k hk => hk.elim
  · split at ho
    · exact ho
    · exact hs i o ho
  · split at hk
    · exact .inr (by assumption)
    · exact absurd hn hk
/-- The number of a set lies at its head. -/
theorem setC_n {φ : Snap} {h : Heap} {p : Option Addr} {s : SetD} {F : List Chk} (H : St φ (setC p s :: F) h) : ∃ b, p = some ⟨b, 0, none⟩ ∧ cellH h ⟨b, 0, none⟩ = some (.int .i64 s.1) := by
  obtain ⟨b, vs, e, hl, s1⟩ := St.open H
  obtain ⟨c, d, rfl, hc, s2⟩ := St.pair (s1.at1)
  obtain ⟨hr, _⟩ := St.ro s2
  cases hr
  refine ⟨b, by cases e; rfl, s1.cell rfl⟩
end Go.Proofs.YtbpbfoemghcfaaaDoor

/-
  DIGRAPH: (*Set).Union: a range over Each's iterator whose body adds.
  Conditions: both are sets as the program makes them; the table of de Bruijn's numbers reads as its initialiser lays it.
-/
namespace Go.Proofs.YtbpbfoemghcfaaaDoor
open Go Go.Eng Go.RowKit Go.Shelf
set_option linter.unusedVariables false
attribute [local go_sem] Oper.semAt_some
set_option maxRecDepth 100000

/-- One round of Union: the set, and whether the loop was left. -/
noncomputable def stepU (a : SetD × Bool) (i : Int) : SetD × Bool := if a.2 then a else if a.1.1 ≤ i then (a.1, true) else (((bitset_Set_Add_D a.1 i).getD (false, a.1)).2, false)
noncomputable def runU (s : SetD) (l : List Int) : SetD × Bool := l.foldl stepU (s, false)
def bitsS (s : SetD) : List Int := bitsU (s.2.map Int.toNat) s.2.length
noncomputable def unionD (s o : SetD) : SetD := (runU s (bitsS o)).1
theorem runU_snoc (s : SetD) (l : List Int) (i : Int) : runU s (l ++ [i]) = stepU (runU s l) i := by simp [runU]
theorem stay_U (l : List Int) {a : SetD × Bool} (h : a.2 = true) : l.foldl stepU a = a := by
  induction l with
  | nil => rfl
  | cons i l ih =>
    rw [List.foldl_cons]
    have : stepU a i = a := if_pos h
    rw [this, ih]
theorem stop_U {s : SetD} {l pre : List Int} (hp : pre <+: l) (h : (runU s pre).2 = true) : (runU s l).1 = (runU s pre).1 := by
  obtain ⟨r, rfl⟩ := hp
  unfold runU at h ⊢
  rw [List.foldl_append, stay_U r h]
abbrev three (bs bg : Nat) (p : Option Addr) (g : Bool) (s : SetD) : List Chk := [⟨Rep.raw 37, [.pointer (some ⟨bs, 0, none⟩)], [.pointer p]⟩, ⟨Rep.raw 4, [.pointer (some ⟨bg, 0, none⟩)], [.bool g]⟩, setC p s]
theorem three_free (bs bg : Nat) (p : Option Addr) (g : Bool) (s : SetD) : ∀ c ∈ three bs bg p g s, Free c := by
  intro c hc
  simp only [List.mem_cons, List.not_mem_nil, or_false] at hc
  rcases hc with rfl | rfl | rfl
  · exact free_raw _ _ _
  · exact free_raw _ _ _
  · exact free_setC _ _
theorem abide_own {φ0 : Snap} {B : Nat} {W W' : World} {row : Option Nat} {Δ : List Chk} (hB : ∀ k, φ0 k ≠ none → k < B) (hf : ∀ c ∈ Δ, Free c) (H : St φ0 Δ W.heap) (hg : W.grownBy W' row) (hr : ∀ r, row = some r → B ≤ r ∧ ∃ o : Obj, W.heap[r]? = some o ∧ o.isCells = false) : St φ0 Δ W'.heap := by
  obtain ⟨_, _, _, hsz, hk⟩ := hg
  refine St.abide hf H (fun k hk' ⟨cs, ty, f, hc⟩ => hk k hk' fun e => ?_) fun k o ho => ?_
  · obtain ⟨_, o, h1, h2⟩ := hr k e.symm
    rw [hc] at h1
    cases h1
    cases h2
  · have h1 := H.sub k o ho
    have := lt_of_get h1
    show W'.heap[k]? = some o
    rw [hk k this fun e => by have := hB k (by rw [ho]; simp); have := (hr k e.symm).1; omega]
    exact h1
/-- A call of Add, in a state of pieces that hang on nothing that stays. -/
theorem add_in {φ0 : Snap} {bs bg : Nat} {p : Option Addr} {g : Bool} {s : SetD} {x : Int} {W : World} (H : OkS s) (h0 : St φ0 (three bs bg p g s) W.heap) :
    Calls Tryd.prog 24 #[.pointer p, .int .i64 x] W fun e W' => Same W W' ∧ W.heap.size ≤ W'.heap.size ∧ (∀ (k : Nat) (o : Obj), W.heap[k]? = some o → o.isCells = false → W'.heap[k]? = some o) ∧
      ∃ y : Bool, e = .returned (.bool y) ∧ St φ0 (three bs bg p g ((bitset_Set_Add_D s x).getD (false, s)).2) W'.heap ∧ OkS ((bitset_Set_Add_D s x).getD (false, s)).2 ∧ ((bitset_Set_Add_D s x).getD (false, s)).2.1 = s.1 := by
  obtain ⟨s', hd, h1, h2, _⟩ := add_ok H x
  rw [hd]
  obtain ⟨φ1, _, k2, k3, k4, k5⟩ := St.apart (Γ := []) h0 (three_free bs bg p g s)
  have hc := bitset_Set_Add_sim (k2.at 2) hd W rfl
  refine (show Calls Tryd.prog 24 #[.pointer p, .int .i64 x] W _ from hc).mono ?_
  rintro e W' ⟨hs, he⟩
  cases e with
  | returned v =>
    obtain ⟨v', hv, ψ, y, l, le, rfl, hr, s3⟩ := he
    cases hv
    obtain ⟨rfl, rfl⟩ := Prod.mk.inj hr
    refine ⟨hs, hs.size, fun k o hk ho => ?_, _, rfl, ?_, h1, h2⟩
    · rcases k4 k o hk with g | ⟨cs, ty, f, rfl⟩
      · exact s3.sub k o (le k o g)
      · cases ho
    · have s4 : St ψ (three bs bg p g l) W'.heap := (s3.at 2).at 2
      exact k5 _ _ (three_free _ _ _ _ _) (St.back (three_free _ _ _ _ _) le s4)
  | panicked c => obtain ⟨v', hv, _⟩ := he; cases hv
  | outgrown => exact he.elim
theorem each_in {φ : Snap} {W : World} {F : List Chk} {q : Option Addr} {o : SetD} (s0 : St φ (setC q o :: F) W.heap) (hb : o.2.length ≤ 1073741824) :
    Calls Tryd.prog 37 #[.pointer q] W fun e W' => Same W W' ∧ ∃ (ψ : Snap) (r : Nat) (y : Slc), Sub φ ψ ∧ e = .returned (.func (.func 54) #[] #[.pointer (some ⟨r, 0, none⟩)]) ∧
      St ψ (⟨Rep.raw 57, [.pointer (some ⟨r, 0, none⟩)], [.slice y.1 y.2.1 y.2.2]⟩ :: ⟨Rep.row 56 (Ro.int .u64), [.slice y.1 y.2.1 y.2.2], o.2⟩ :: setC q o :: F) W'.heap := by
  refine (show Calls Tryd.prog 37 #[.pointer q] W _ from each_sim s0 hb W rfl).mono ?_
  rintro e W' ⟨hs, he⟩
  cases e with
  | returned v =>
    obtain ⟨v', hv, ψ, r, y, h1, h2, h3⟩ := he
    cases hv
    exact ⟨hs, ψ, r, y, h1, by rw [h2], h3⟩
  | panicked c => obtain ⟨v', hv, _⟩ := he; cases hv
  | outgrown => exact he.elim
theorem lt_of_cellH {h : Heap} {b : Nat} {j : Nat} {v : Value} (hc : cellH h ⟨b, j, none⟩ = some v) : b < h.size := by
  unfold cellH ofHeap World.cell? at hc
  dsimp only at hc
  cases ho : h[b]? with
  | none => rw [ho] at hc; cases hc
  | some o => exact lt_of_get ho
/-- All that the loop asks for, behind the call of Each. -/
theorem ready (n : Nat) (hn : 3 ≤ n) {ψ : Snap} {W : World} {bx bs bg : Nat} {y : Slc} {p q : Option Addr} {s o : SetD} {G G' : List Chk} (gk : Glob ψ) (ho : OkS o) (hp : (setC p s :: G).Perm (setC q o :: G'))
    (s1 : St ψ (⟨Rep.raw 57, [.pointer (some ⟨bx, 0, none⟩)], [.slice y.1 y.2.1 y.2.2]⟩ :: ⟨Rep.row 56 (Ro.int .u64), [.slice y.1 y.2.1 y.2.2], o.2⟩ :: setC q o :: ⟨Rep.raw 37, [.pointer (some ⟨bs, 0, none⟩)], [.pointer p]⟩ :: ⟨Rep.raw 4, [.pointer (some ⟨bg, 0, none⟩)], [.bool false]⟩ :: G') W.heap) :
    ∃ (ψ2 φ0 : Snap) (L : List Nat), Sub ψ ψ2 ∧ (∀ k, φ0 k ≠ none → k < W.heap.size) ∧ (∀ b ∈ L, φ0 b ≠ none) ∧ St φ0 (three bs bg p false s) W.heap ∧
      SeqStopsK Fence.wide n Tryd.prog 54 #[.pointer (some ⟨bx, 0, none⟩)] encI (KpL L) (fun ys => ys = bitsS o) (fun pre => pre <+: bitsS o) (bitsS o).length W ∧
      ∀ s' g (h' : Heap), St φ0 (three bs bg p g s') h' → St ψ2 (setC p s' :: G) h' := by
  have gk1 := gk.mono s1.sub
  have hbox : cellH W.heap ⟨bx, 0, none⟩ = some (.slice y.1 y.2.1 y.2.2) := s1.cell rfl
  have hg0 : 0 < W.heap.size := by
    obtain ⟨t, f, hg⟩ := gk1
    exact lt_of_get hg
  have h1 := ho.len
  have h2 := ho.hi
  obtain ⟨L, hL, hseq⟩ := each_stops n hn gk1 ho.word (by omega) hbox (s1.at 1).rowLen.symm (row_cells (s1.at 1)) (row_spot (s1.at 1)) (lt_of_cellH hbox) hg0
  obtain ⟨ψa, F1, le1, ⟨b1, e1, hb1, hF1⟩, k1, s2⟩ := St.hide s1
  cases e1
  obtain ⟨ψb, F2, le2, hrow, k2, s3⟩ := St.hide s2
  have hpm : (setC q o :: ⟨Rep.raw 37, [.pointer (some ⟨bs, 0, none⟩)], [.pointer p]⟩ :: ⟨Rep.raw 4, [.pointer (some ⟨bg, 0, none⟩)], [.bool false]⟩ :: G').Perm (G ++ three bs bg p false s) := by
    refine (front_perm 1 _).trans ?_
    refine (List.Perm.cons _ (front_perm 1 _)).trans ?_
    exact (List.Perm.cons _ (List.Perm.cons _ hp.symm)).trans (List.perm_append_comm (l₁ := three bs bg p false s) (l₂ := G))
  obtain ⟨φ0, d1, d2, d3, d4, d5⟩ := St.apart (s3.perm hpm) (three_free bs bg p false s)
  refine ⟨ψb, φ0, L, le1.trans le2, d1, fun b hb => ?_, d2, hseq, fun s' g h' H => ?_⟩
  · have key : ∃ ob, ψb b = some ob := by
      rcases (hL b hb).2 with rfl | rfl | ⟨a, ha, rfl⟩
      · exact ⟨_, le2 _ _ ((k1 b ((hF1 b).2 rfl)).trans hb1)⟩
      · obtain ⟨t, f, hg⟩ := gk
        exact ⟨_, le2 _ _ (le1 _ _ hg)⟩
      · obtain ⟨p', n', c', vs, e3, h3, h4, h5, h6, h7, h8⟩ := hrow
        simp only [List.cons.injEq, Value.slice.injEq, and_true] at e3
        have hlt := (hL _ hb).1
        refine ⟨_, (k2 a.block ((h8 _).2 ?_)).trans (Array.getElem?_eq_getElem hlt)⟩
        rw [← e3.1, ha]
        simp [blk]
    obtain ⟨ob, hob⟩ := key
    rw [d3 _ _ hob]
    simp
  · have H2 := d5 _ _ (three_free bs bg p g s') H
    have H3 : St ψb (three bs bg p g s' ++ G) h' := H2.perm List.perm_append_comm
    exact H3.tail.tail
theorem kp_of {φ0 : Snap} {L : List Nat} {A B : World} (hL : ∀ b ∈ L, φ0 b ≠ none) (ha : Sub φ0 (snap A.heap)) (hb : Sub φ0 (snap B.heap)) : KpL L A B := fun b hb' o ho => by
  cases hφ : φ0 b with
  | none => exact absurd hφ (hL b hb')
  | some o' =>
    have h1 := ha b o' hφ
    have h2 := hb b o' hφ
    rw [show snap A.heap b = A.heap[b]? from rfl, ho] at h1
    cases h1
    exact h2
set_option maxHeartbeats 4000000 in
theorem union_in {φ : Snap} {w : World} {p q : Option Addr} {s o : SetD} {G G' : List Chk} (gk : Glob φ) (hs : OkS s) (ho : OkS o) (hp : (setC p s :: G).Perm (setC q o :: G')) (s0 : St φ (setC p s :: G) w.heap) :
    Calls Tryd.prog 39 #[.pointer p, .pointer q] w fun e W' => Same w W' ∧ ∃ (ψ : Snap) (g : Bool), Sub φ ψ ∧ e = .returned (.bool g) ∧ St ψ (setC p (unionD s o) :: G) W'.heap := by
  refine (callsIn_wide (n := 12)).1 ?_
  refine callsIn_of_wp_marks Tryd.func39 rfl trivial ?_ rfl
  simp only [Tryd.ntmps39, List.size_toArray, List.length_cons, List.length_nil, Nat.reduceAdd, Nat.reduceSub, Array.replicate_succ, Array.replicate_zero, List.push_toArray, List.append_toArray, List.nil_append, List.cons_append]
  gi_wp2
  have hlen : o.2.length ≤ 1000 := by have h1 := ho.len; have h2 := ho.hi; omega
  have sA : St φ (setC q o :: ⟨Rep.raw 37, [.pointer (some ⟨w.heap.size, 0, none⟩)], [.pointer p]⟩ :: ⟨Rep.raw 4, [.pointer (some ⟨w.heap.size + 1, 0, none⟩)], [.bool false]⟩ :: G') ((w.alloc (.cells #[.pointer p] 37)).alloc (.cells #[.bool false] 4)).heap := by
    have h1 := St.new (ty := 37) [.pointer p] s0
    have h2 := St.new (ty := 4) [.bool false] h1
    rw [Array.size_push] at h2
    refine h2.perm ?_
    exact (List.Perm.swap _ _ _).trans ((List.Perm.cons _ (List.Perm.cons _ hp)).trans ((front_perm 2 _)))
  refine ⟨trivial, (callsIn_wide.2 (each_in sA (by omega))).mono ?_⟩
  rintro e W1 ⟨hsame1, ψ, bx, y, le1, rfl, s1⟩
  obtain ⟨ψ2, φ0, L, le2, hB, hL, hst0, hseq, hback⟩ := ready 11 (by decide) (gk.mono le1) ho hp s1
  have hsame0 : Same w W1 := Same.trans (b := (w.alloc (.cells #[.pointer p] 37)).alloc (.cells #[.bool false] 4)) ⟨rfl, rfl, rfl, by simp; omega⟩ hsame1
  have hfin : ∀ (g : Bool) (s' : SetD) (W' : World), Same w W' → s' = unionD s o → St φ0 (three w.heap.size (w.heap.size + 1) p g s') W'.heap → Same w W' ∧ ∃ (ψ : Snap) (g' : Bool), Sub φ ψ ∧ Ending.returned (Value.bool g) = .returned (.bool g') ∧ St ψ (setC p (unionD s o) :: G) W'.heap := by
    rintro g s' W' h1 rfl h2
    exact ⟨h1, ψ2, g, le1.trans le2, rfl, hback _ _ _ h2⟩
  have hgrow : ∀ {A B : World} {row : Option Nat}, Same w A → A.grownBy B row → Same w B := fun h ⟨g1, g2, g3, g4, _⟩ => h.trans ⟨g1, g2, g3, g4⟩
  gi_wp2
  refine wpIn_rangeFunc_ownG rfl (by decide) (gf := 54) (lb := #[.pointer (some ⟨bx, 0, none⟩)]) rfl trivial (enters_of Tryd.func54 (by kernel_rfl) rfl) hseq (fun h k => h.trans k)
    (fun W l o o' hl h h1 h2 => KpL.putObj (n₀ := W1.heap.size) (fun b hb => hB b (hL b hb)) W l o o' hl h h1 h2) (Below.refl _ _) (fun _ => rfl)
    (fun pre W => Same w W ∧ ∃ (s' : SetD) (g : Bool), OkS s' ∧ runU s pre = (s', false) ∧ St φ0 (three w.heap.size (w.heap.size + 1) p g s') W.heap)
    (fun c pre W => c = .exit 0 ∧ Same w W ∧ (runU s pre).2 = true ∧ ∃ g : Bool, St φ0 (three w.heap.size (w.heap.size + 1) p g (runU s pre).1) W.heap)
    (fun pre A B row ⟨h1, s', g, h2, h3, h4⟩ hg hr => ⟨hgrow h1 hg, s', g, h2, h3, abide_own hB (three_free _ _ _ _ _) h4 hg hr⟩)
    (fun c pre A B row ⟨h0, h1, h2, g, h4⟩ hg hr => ⟨h0, hgrow h1 hg, h2, g, abide_own hB (three_free _ _ _ _ _) h4 hg hr⟩)
    ⟨hsame0, s, false, hs, rfl, hst0⟩
    (fun x => { tmps := #[.pointer p, .pointer q, .pointer (some ⟨w.heap.size, 0, none⟩), undef, .bool false, .pointer (some ⟨w.heap.size + 1, 0, none⟩), .int .i64 x, .pointer q, .func (.func 54) #[] #[.pointer (some ⟨bx, 0, none⟩)], .int .i64 x, undef, undef, undef, undef, undef, undef, undef, undef, undef, undef, undef, undef, undef], defers := [] }) ?assign ?body ?done ?stop
  case assign =>
    intro l x W K hK
    gi_wp2
    exact hK
  case body =>
    rintro l pre x W ⟨hsame, s', g, hok, hrun, hst⟩ hlt
    have hbox : W.cell? ⟨w.heap.size, 0, none⟩ = some (.pointer p) := hst.cell rfl
    obtain ⟨bp, rfl, hn⟩ := setC_n (hst.at 2)
    have hn' : W.cell? ⟨bp, 0, none⟩ = some (.int .i64 s'.1) := hn
    gi_wp2
    · have hx : s'.1 ≤ x := by assumption
      have hr : runU s (pre ++ [x]) = (s', true) := by
        rw [runU_snoc, hrun]
        unfold stepU
        rw [if_neg (by simp), if_pos hx]
      exact ⟨KeepsFrom.refl _ _, rfl, hsame, by rw [hr], g, by rw [hr]; exact hst⟩
    · have hx : ¬ s'.1 ≤ x := by omega
      refine ⟨trivial, (CallsIn.inRound l (callsIn_wide.2 (add_in (x := x) hok hst))).mono ?_⟩
      obtain ⟨s3, hs3⟩ : ∃ s3, ((bitset_Set_Add_D s' x).getD (false, s')).2 = s3 := ⟨_, rfl⟩
      rw [hs3]
      rintro e W3 ⟨hsame3, hsz3, hk3, y, rfl, hst3, hok3, hn3⟩
      have hr : runU s (pre ++ [x]) = (s3, false) := by
        rw [runU_snoc, hrun]
        unfold stepU
        rw [if_neg (by simp), if_neg hx, hs3]
      have hg3 : W3.cell? ⟨w.heap.size + 1, 0, none⟩ = some (.bool g) := (hst3.at 1).cell rfl
      have hf3 : W3.frozen? ⟨w.heap.size + 1, 0, none⟩ = false := (St.put (j := 0) (.bool true) (hst3.at 1) (Nat.lt_succ_self 0)).2.1
      have hend : ∀ v : Bool, KeepsFrom W1.heap.size W (W3.setCell ⟨w.heap.size + 1, 0, none⟩ (.bool v)) ∧ KpL L W (W3.setCell ⟨w.heap.size + 1, 0, none⟩ (.bool v)) ∧ Same w (W3.setCell ⟨w.heap.size + 1, 0, none⟩ (.bool v)) ∧ ∃ (s' : SetD) (g : Bool), OkS s' ∧ runU s (pre ++ [x]) = (s', false) ∧ St φ0 (three w.heap.size (w.heap.size + 1) (some ⟨bp, 0, none⟩) g s') (W3.setCell ⟨w.heap.size + 1, 0, none⟩ (.bool v)).heap := by
        intro v
        have h1 := (St.put (j := 0) (.bool v) (hst3.at 1) (Nat.lt_succ_self 0)).2.2
        have h2 : St φ0 (three w.heap.size (w.heap.size + 1) (some ⟨bp, 0, none⟩) v s3) (W3.setCell ⟨w.heap.size + 1, 0, none⟩ (.bool v)).heap := h1.at 1
        have h3 : KeepsFrom W1.heap.size W W3 := ⟨hsz3, fun k o _ hk ho => hk3 k o hk ho⟩
        exact ⟨h3.trans ((KeepsOthers.setCell _ _ _).from _), kp_of hL hst.sub h2.sub, (hsame.trans hsame3).trans (Same.setCell _ _ _), s3, v, hok3, hr, h2⟩
      cases y
      all_goals gi_wp2
      all_goals exact hend _
  case done =>
    rintro D xs W hD rfl ⟨hsame, s', g, hok, hrun, hst⟩ hK
    have hg : W.cell? ⟨w.heap.size + 1, 0, none⟩ = some (.bool g) := (hst.at 1).cell rfl
    gi_wp2
    refine ⟨by simp, .inl ⟨_, _, rfl, run_takeDeferred hK, ?_⟩⟩
    refine ⟨_, results_tmp rfl _ _ _, hfin g s' _ (hgrow hsame (grownBy_putObj' W D _)) (by unfold unionD; rw [hrun]) ?_⟩
    exact abide_own hB (three_free _ _ _ _ _) hst (grownBy_putObj' W D _) (fun r e => by cases e; exact ⟨hD, _, hK, rfl⟩)
  case stop =>
    rintro D c pre W hD hpre ⟨rfl, hsame, h2, g, hst⟩ hK
    have hg : W.cell? ⟨w.heap.size + 1, 0, none⟩ = some (.bool g) := (hst.at 1).cell rfl
    gi_wp2
    refine ⟨by simp, .inl ⟨_, _, rfl, run_takeDeferred hK, ?_⟩⟩
    refine ⟨_, results_tmp rfl _ _ _, hfin g _ _ (hgrow hsame (grownBy_putObj' W D _)) (stop_U hpre h2).symm ?_⟩
    exact abide_own hB (three_free _ _ _ _ _) hst (grownBy_putObj' W D _) (fun r e => by cases e; exact ⟨hD, _, hK, rfl⟩)
theorem union_gen {φ : Snap} {h : Heap} {p q : Option Addr} {s o : SetD} {G G' : List Chk} (gk : Glob φ) (hs : OkS s) (ho : OkS o) (hp : (setC p s :: G).Perm (setC q o :: G')) (s0 : St φ (setC p s :: G) h) :
    CallsH Tryd.prog 39 [.pointer p, .pointer q] h (Back fun v h' => ∃ (ψ : Snap) (g : Bool), Sub φ ψ ∧ v = ((.one (.atom .bool)) : Sh).val g ∧ St ψ (setC p (unionD s o) :: G) h') := by
  intro w hw
  subst hw
  refine (show Calls Tryd.prog 39 #[.pointer p, .pointer q] w _ from union_in gk hs ho hp s0).mono ?_
  rintro e W' ⟨h1, ψ, g, h2, rfl, h3⟩
  exact ⟨h1, _, rfl, ψ, g, h2, rfl, h3⟩
/-- Two sets. -/
theorem union_sim {φ : Snap} {h : Heap} {p q : Option Addr} {s o : SetD} {F : List Chk} (gk : Glob φ) (hs : OkS s) (ho : OkS o) (s0 : St φ (setC p s :: setC q o :: F) h) :
    CallsH Tryd.prog 39 [.pointer p, .pointer q] h (Back fun v h' => ∃ (ψ : Snap) (g : Bool), Sub φ ψ ∧ v = ((.one (.atom .bool)) : Sh).val g ∧ St ψ (setC p (unionD s o) :: setC q o :: F) h') :=
  union_gen gk hs ho (List.Perm.swap _ _ _) s0
/-- One set with itself. -/
theorem union_self {φ : Snap} {h : Heap} {p : Option Addr} {s : SetD} {F : List Chk} (gk : Glob φ) (hs : OkS s) (s0 : St φ (setC p s :: F) h) :
    CallsH Tryd.prog 39 [.pointer p, .pointer p] h (Back fun v h' => ∃ (ψ : Snap) (g : Bool), Sub φ ψ ∧ v = ((.one (.atom .bool)) : Sh).val g ∧ St ψ (setC p (unionD s s) :: F) h') :=
  union_gen gk hs hs (List.Perm.refl _) s0
end Go.Proofs.YtbpbfoemghcfaaaDoor

/-
  DIGRAPH, PLAIN: a set's list, and what a union has.
  Conditions: none.
-/
namespace Go.Proofs.YtbpbfoemghcfaaaDoor
open Go Go.Eng
set_option linter.unusedVariables false

theorem mem_bitsU {ws : List Nat} {x : Int} : ∀ {k : Nat}, x ∈ bitsU ws k ↔ ∃ i j : Nat, i < k ∧ j ∈ bitsW (ws[i]?.getD 0) ∧ x = (i : Int) * 64 + (j : Int) := by
  intro k
  induction k with
  | zero => rw [bitsU_zero]; simp
  | succ k ih =>
    rw [bitsU_succ, List.mem_append, ih, List.mem_map]
    constructor
    · rintro (⟨i, j, h1, h2, h3⟩ | ⟨j, h1, h2⟩)
      · exact ⟨i, j, by omega, h2, h3⟩
      · exact ⟨k, j, by omega, h1, h2.symm⟩
    · rintro ⟨i, j, h1, h2, h3⟩
      by_cases e : i = k
      · subst e; exact .inr ⟨j, h2, h3.symm⟩
      · exact .inl ⟨i, j, by omega, h2, h3⟩
theorem bitsW_up (w : Nat) : (bitsW w).Pairwise (· < ·) := List.pairwise_lt_range.filter _
theorem bitsU_up (ws : List Nat) : ∀ k : Nat, (bitsU ws k).Pairwise (· < ·) := by
  intro k
  induction k with
  | zero => rw [bitsU_zero]; exact .nil
  | succ k ih =>
    rw [bitsU_succ, List.pairwise_append]
    refine ⟨ih, ?_, ?_⟩
    · rw [List.pairwise_map]
      exact (bitsW_up _).imp fun h => by omega
    · intro a ha b hb
      obtain ⟨i, j, h1, h2, rfl⟩ := mem_bitsU.1 ha
      obtain ⟨j', h3, rfl⟩ := List.mem_map.1 hb
      have := (bitsW_mem.1 h2).1
      omega
theorem bitsS_up (s : SetD) : (bitsS s).Pairwise (· < ·) := bitsU_up _ _
theorem mem_bitsS {s : SetD} (H : OkS s) (x : Int) : x ∈ bitsS s ↔ mem s x = true := by
  unfold bitsS
  rw [mem_bitsU]
  have hget : ∀ i : Nat, (s.2.map Int.toNat)[i]?.getD 0 = (s.2[i]?.getD 0).toNat := fun i => by
    rw [List.getElem?_map]
    cases s.2[i]? <;> rfl
  constructor
  · rintro ⟨i, j, h1, h2, rfl⟩
    rw [hget] at h2
    obtain ⟨h3, h4⟩ := bitsW_mem.1 h2
    rw [show (i : Int) * 64 + (j : Int) = ((i * 64 + j : Nat) : Int) by omega, mem_nat]
    unfold bitS
    rw [show (i * 64 + j) / 64 = i by omega, show (i * 64 + j) % 64 = j by omega]
    exact h4
  · intro h
    obtain ⟨h0, h1⟩ := mem_lt H h
    obtain ⟨k, rfl⟩ : ∃ k : Nat, x = (k : Int) := ⟨x.toNat, by omega⟩
    rw [mem_nat] at h
    have hl := H.len
    refine ⟨k / 64, k % 64, by omega, ?_, by omega⟩
    rw [hget]
    exact bitsW_mem.2 ⟨Nat.mod_lt _ (by decide), h⟩
theorem listD_ok {s : SetD} (H : OkS s) : listD s = some (bitsS s) := by
  unfold listD bitsS
  have h1 := H.len
  have h2 := H.hi
  rw [if_pos ⟨by omega, H.word⟩]
theorem bitsS_range {s : SetD} (H : OkS s) {x : Int} (h : x ∈ bitsS s) : 0 ≤ x ∧ x < s.1 := mem_lt H ((mem_bitsS H x).1 h)
theorem fold_U : ∀ (l : List Int) {s : SetD}, OkS s → l.Pairwise (· < ·) → (∀ i ∈ l, 0 ≤ i) →
    OkS (l.foldl stepU (s, false)).1 ∧ (l.foldl stepU (s, false)).1.1 = s.1 ∧ ∀ j, mem (l.foldl stepU (s, false)).1 j = (mem s j || (l.contains j && decide (j < s.1))) := by
  intro l
  induction l with
  | nil => intro s H _ _; exact ⟨H, rfl, fun j => by simp⟩
  | cons i l ih =>
    intro s H hp h0
    rw [List.foldl_cons]
    have hp' := List.pairwise_cons.1 hp
    by_cases hi : s.1 ≤ i
    · have e : stepU (s, false) i = (s, true) := by unfold stepU; rw [if_neg (by simp), if_pos hi]
      rw [e, stay_U l rfl]
      refine ⟨H, rfl, fun j => ?_⟩
      have : ((i :: l).contains j && decide (j < s.1)) = false := by
        by_cases hj : j < s.1
        · have hne : j ∉ i :: l := by
            intro hm
            rcases List.mem_cons.1 hm with h | h
            · omega
            · have := hp'.1 j h; omega
          have : (i :: l).contains j = false := by
            rw [Bool.eq_false_iff]
            intro hc
            exact hne (List.contains_iff_mem.1 hc)
          rw [this]; rfl
        · rw [decide_eq_false hj, Bool.and_false]
      rw [this, Bool.or_false]
    · obtain ⟨s', hd, h1, h2, h3⟩ := add_ok H i
      have e : stepU (s, false) i = (s', false) := by unfold stepU; rw [if_neg (by simp), if_neg hi, hd]; rfl
      rw [e]
      obtain ⟨g1, g2, g3⟩ := ih h1 hp'.2 fun i hi => h0 i (List.mem_cons_of_mem _ hi)
      have hi0 := h0 i (by simp)
      refine ⟨g1, g2.trans h2, fun j => ?_⟩
      rw [g3, h3, h2, List.contains_cons]
      by_cases hj : j = i
      · subst hj
        rw [decide_eq_true (show j = j ∧ 0 ≤ j ∧ j < s.1 by omega), decide_eq_true (show j < s.1 by omega)]
        simp
      · rw [decide_eq_false fun g => hj g.1, Bool.or_false, show (j == i) = false by simpa using hj, Bool.false_or]
theorem union_ok {s o : SetD} (H : OkS s) (K : OkS o) : OkS (unionD s o) ∧ (unionD s o).1 = s.1 ∧ ∀ j, mem (unionD s o) j = (mem s j || (mem o j && decide (j < s.1))) := by
  obtain ⟨h1, h2, h3⟩ := fold_U (bitsS o) H (bitsS_up o) fun i hi => (bitsS_range K hi).1
  refine ⟨h1, h2, fun j => ?_⟩
  show mem (List.foldl stepU (s, false) (bitsS o)).1 j = _
  rw [h3]
  have : (bitsS o).contains j = mem o j := by
    rw [Bool.eq_iff_iff, List.contains_iff_mem, mem_bitsS K]
  rw [this]
end Go.Proofs.YtbpbfoemghcfaaaDoor

/-
  DIGRAPH: sets in a row: the pieces; what Solve hands to walk.
  Conditions: as the plain functions promise.
-/
namespace Go.Proofs.YtbpbfoemghcfaaaDoor
open Go Go.Eng
set_option linter.unusedVariables false
set_option maxRecDepth 100000

abbrev objsC (ps : List (Option Addr)) (ss : List SetD) : List Chk := List.zipWith setC ps ss
theorem objs_focus : ∀ {ps : List (Option Addr)} {ss : List SetD} {i : Nat} {p : Option Addr} {s : SetD}, ps[i]? = some p → ss[i]? = some s →
    ∃ rest, (objsC ps ss).Perm (setC p s :: rest) ∧ ∀ p' s', (objsC (ps.set i p') (ss.set i s')).Perm (setC p' s' :: rest) := by
  intro ps
  induction ps with
  | nil => intro ss i p s h; simp at h
  | cons q ps ih =>
    intro ss i p s hp hs
    cases ss with
    | nil => simp at hs
    | cons t ss =>
      cases i with
      | zero =>
        simp only [List.getElem?_cons_zero, Option.some.injEq] at hp hs
        subst hp hs
        exact ⟨objsC ps ss, List.Perm.refl _, fun p' s' => List.Perm.refl _⟩
      | succ i =>
        obtain ⟨rest, h1, h2⟩ := ih (by simpa using hp) (by simpa using hs)
        exact ⟨setC q t :: rest, (List.Perm.cons _ h1).trans (List.Perm.swap _ _ _), fun p' s' => (List.Perm.cons _ (h2 p' s')).trans (List.Perm.swap _ _ _)⟩
theorem objs_put {ps : List (Option Addr)} {ss : List SetD} {i : Nat} {p : Option Addr} {s : SetD} (hp : ps[i]? = some p) (hs : ss[i]? = some s) :
    ∃ rest, (objsC ps ss).Perm (setC p s :: rest) ∧ ∀ s', (objsC ps (ss.set i s')).Perm (setC p s' :: rest) := by
  obtain ⟨rest, h1, h2⟩ := objs_focus hp hs
  refine ⟨rest, h1, fun s' => ?_⟩
  have := h2 p s'
  have e : ps.set i p = ps := List.ext_getElem? fun k => by
    rw [List.getElem?_set]
    split
    · rename_i h
      subst h
      rw [hp]
      split
      · rfl
      · rename_i h; rw [List.getElem?_eq_none (by omega)] at hp; cases hp
    · rfl
  rwa [e] at this
theorem objs_snoc {ps : List (Option Addr)} {ss : List SetD} (hl : ps.length = ss.length) (p : Option Addr) (s : SetD) : objsC (ps ++ [p]) (ss ++ [s]) = objsC ps ss ++ [setC p s] := by
  unfold objsC
  rw [List.zipWith_append hl]
  rfl
/-- That the table of de Bruijn's numbers lies there, as a piece. -/
def globRo : Ro Unit where
  sz := 0
  is φ cs _ := cs = [] ∧ Glob φ
  len h := by rw [h.1]; rfl
  mono hs h := ⟨h.1, h.2.mono hs⟩
  plain h v hv := by rw [h.1] at hv; cases hv
abbrev globC : Chk := ⟨Rep.ro globRo, [], ()⟩
theorem glob_take {φ : Snap} {h : Heap} {F : List Chk} (s : St φ (globC :: F) h) : Glob φ ∧ St φ F h := ⟨(St.ro s).1.2, (St.ro s).2⟩
theorem glob_put {φ : Snap} {h : Heap} {F : List Chk} (g : Glob φ) (s : St φ F h) : St φ (globC :: F) h := St.unro s ⟨rfl, g⟩
/-- What Solve holds while one walks: where the row lies, the pointers, the sets. -/
structure AllS where
  o : Slc
  ps : List (Option Addr)
  ss : List SetD
  eq : ps.length = ss.length
abbrev allK (c : Nat) (v : AllS) : List Chk := globC :: ⟨Rep.raw 35, [.pointer (some ⟨c, 0, none⟩)], [.slice v.o.1 v.o.2.1 v.o.2.2]⟩ :: ⟨Rep.row 37 Ro.pt, [.slice v.o.1 v.o.2.1 v.o.2.2], v.ps⟩ :: objsC v.ps v.ss
noncomputable instance (s o : SetD) : Decidable (OkS s ∧ OkS o) := Classical.propDecidable _
noncomputable def ledS (a : List SetD) (x to : Int) : Option (List SetD) :=
  (idx a x).bind fun s => (idx a to).bind fun o => need (OkS s ∧ OkS o) <| setI a x (unionD s o)
noncomputable def partS (a : List SetD) (l : List Int) : Option (List SetD) :=
  (idx l 0).bind fun l0 =>
  (forS 0 (((l.drop 1).length : Nat) : Int) a fun i a => (idx (l.drop 1) i).bind fun y => ledS a l0 y).bind fun a =>
  forS 0 (((l.drop 1).length : Nat) : Int) a fun i a => (idx (l.drop 1) i).bind fun y => (idx a l0).bind fun s => (bitset_Set_Copy_D s).bind fun s => setI a y s
theorem idx_of {α β : Type} {ps : List α} {ss : List β} (hl : ps.length = ss.length) {i : Int} {s : β} (h : idx ss i = some s) : 0 ≤ i ∧ ss[i.toNat]? = some s ∧ ∃ p, ps[i.toNat]? = some p ∧ idx ps i = some p := by
  obtain ⟨h0, h1, h2⟩ := idx_some h
  have hlt : i.toNat < ps.length := by omega
  exact ⟨h0, h2, ps[i.toNat], List.getElem?_eq_getElem hlt, by rw [idx_get h0 hlt]⟩
/-- A union of two of them, wherever they lie. -/
theorem union_at {φ : Snap} {h : Heap} {F : List Chk} {c : Nat} {v : AllS} {x to : Int} {s o : SetD} {p q : Option Addr} (hs : v.ss[x.toNat]? = some s) (ho : v.ss[to.toNat]? = some o) (hp : v.ps[x.toNat]? = some p) (hq : v.ps[to.toNat]? = some q) (ks : OkS s) (ko : OkS o)
    (s0 : St φ (allK c v ++ F) h) : CallsH Tryd.prog 39 [.pointer p, .pointer q] h (Back fun u h' => ∃ (ψ : Snap) (g : Bool), Sub φ ψ ∧ u = ((.one (.atom .bool)) : Sh).val g ∧
      ∀ v' : AllS, v'.o = v.o → v'.ps = v.ps → v'.ss = v.ss.set x.toNat (unionD s o) → St ψ (allK c v' ++ F) h') := by
  obtain ⟨g, s1⟩ := glob_take s0
  obtain ⟨r1, a1, a2⟩ := objs_put hp hs
  obtain ⟨r2, b1, _⟩ := objs_put hq ho
  obtain ⟨B, hB⟩ : ∃ B : List Chk, B = [⟨Rep.raw 35, [.pointer (some ⟨c, 0, none⟩)], [.slice v.o.1 v.o.2.1 v.o.2.2]⟩, ⟨Rep.row 37 Ro.pt, [.slice v.o.1 v.o.2.1 v.o.2.2], v.ps⟩] := ⟨_, rfl⟩
  have s2 : St φ (B ++ (objsC v.ps v.ss ++ F)) h := by rw [hB]; exact s1
  have mv : ∀ (p : Option Addr) (s : SetD) (r : List Chk) (L : List Chk), L.Perm (setC p s :: r) → (B ++ (L ++ F)).Perm (setC p s :: (B ++ (r ++ F))) := fun p s r L hL => ((List.Perm.append_left B (List.Perm.append_right F hL)).trans List.perm_middle)
  have s3 := s2.perm (mv p s r1 _ a1)
  have hpm := (mv p s r1 _ a1).symm.trans (mv q o r2 _ b1)
  refine (union_gen g ks ko hpm s3).mono ?_
  rintro e h' ⟨u, rfl, ψ, gr, le, rfl, s4⟩
  refine ⟨_, rfl, ψ, gr, le, rfl, ?_⟩
  rintro ⟨o', ps', ss', eq'⟩ rfl rfl rfl
  refine glob_put (g.mono le) ?_
  have s5 := s4.perm (mv p (unionD s o) r1 _ (a2 _)).symm
  rw [hB] at s5
  exact s5
theorem solve1_sim {φ : Snap} {h : Heap} {F : List Chk} {c : Nat} {v : AllS} {x to : Int} {a' : List SetD} (hd : ledS v.ss x to = some a') (s0 : St φ (allK c v ++ F) h) :
    CallsH Tryd.prog 38 [.int .i64 x, .int .i64 to, .pointer (some ⟨c, 0, none⟩)] h (Back fun u h' => u = .tuple #[] ∧ ∃ (ψ : Snap) (v' : AllS), Sub φ ψ ∧ v'.ss = a' ∧ St ψ (allK c v' ++ F) h') := by
  unfold ledS at hd
  obtain ⟨s, hs, hd⟩ := Option.bind_eq_some_iff.1 hd
  obtain ⟨o, ho, hd⟩ := Option.bind_eq_some_iff.1 hd
  obtain ⟨⟨ks, ko⟩, hd⟩ := need_some hd
  obtain ⟨_, hs1, p, hp, hp'⟩ := idx_of v.eq hs
  obtain ⟨_, ho1, q, hq, hq'⟩ := idx_of v.eq ho
  refine calls_of mixed Tryd.func38 ?_
  rw [digraph_Solve_1_den]
  unfold digraph_Solve_1_T
  have s1 := (glob_take s0).2
  refine s_loadR (b := c) (j := 0) (x := v.o) s1 rfl ?_
  obtain ⟨A1, cs1, ea1, hi1, r1, cl1⟩ := St.get (s1.at1) hp'
  refine t_deref _ ea1 (t_chk hi1 ?_)
  obtain rfl := r1
  refine s_load (x := p) (cl1 0 _ rfl) rfl ?_
  refine s_loadR (b := c) (j := 0) (x := v.o) s1 rfl ?_
  obtain ⟨A2, cs2, ea2, hi2, r2, cl2⟩ := St.get (s1.at1) hq'
  refine t_deref _ ea2 (t_chk hi2 ?_)
  obtain rfl := r2
  refine s_load (x := q) (cl2 0 _ rfl) rfl ?_
  refine s_call (union_at hs1 ho1 hp hq ks ko s0) ?_
  rintro _ h1 ⟨ψ, g, le, rfl, H⟩
  refine ⟨g, rfl, ?_⟩
  obtain ⟨h0, h1', rfl⟩ := setI_some hd
  exact finOf_back ⟨rfl, ψ, ⟨v.o, v.ps, v.ss.set x.toNat (unionD s o), by rw [List.length_set]; exact v.eq⟩, le, rfl, H _ rfl rfl rfl⟩
set_option maxHeartbeats 1000000 in
theorem solve2_sim {φ : Snap} {h : Heap} {F : List Chk} {c : Nat} {v : AllS} {t : Slc} {l : List Int} {a' : List SetD} (hd : partS v.ss l = some a') (s0 : St φ (⟨Rep.row 3 (Ro.int .i64), [.slice t.1 t.2.1 t.2.2], l⟩ :: (allK c v ++ F)) h) :
    CallsH Tryd.prog 40 [.slice t.1 t.2.1 t.2.2, .pointer (some ⟨c, 0, none⟩)] h (Back fun u h' => u = .tuple #[] ∧ ∃ (ψ : Snap) (v' : AllS), Sub φ ψ ∧ v'.ss = a' ∧ St ψ (allK c v' ++ F) h') := by
  unfold partS at hd
  obtain ⟨l0, hl0, hd⟩ := Option.bind_eq_some_iff.1 hd
  obtain ⟨a1, ha1, hd⟩ := Option.bind_eq_some_iff.1 hd
  obtain ⟨ψ0, le0, k0, s1⟩ := s0.freezeRow
  have hlen := k0.length
  obtain ⟨_, hl1, _⟩ := idx_some hl0
  have hcut : cut l 1 (t.2.1 : Int) = some (l.drop 1) := by
    unfold cut
    rw [if_pos ⟨by omega, by omega, by omega⟩, Int.toNat_natCast, hlen, List.take_length]
    rfl
  obtain ⟨q1, kt⟩ := k0.cut hcut (sz := 1) rfl
  refine calls_of mixed Tryd.func40 ?_
  rw [digraph_Solve_2_den]
  unfold digraph_Solve_2_T
  refine t_chk q1 ?_
  have ntl := kt.length
  dsimp only at ntl
  refine s_block (fun (z : Int × Unit) w (g : List SetD) => ∃ (ψ : Snap) (v' : AllS), Sub ψ0 ψ ∧ v'.ss = g ∧ St ψ (allK c v' ++ F) w) (g := a1) ?_ ?_
  · refine s_forS ha1 (fun i (z : Int × Unit) w g => z.1 = i ∧ ∃ (ψ : Snap) (v' : AllS), Sub ψ0 ψ ∧ v'.ss = g ∧ St ψ (allK c v' ++ F) w) ((0 : Int), ()) rfl ⟨rfl, ψ0, v, Sub.refl _, rfl, s1⟩ ?_ ?_
    · rintro i z w g e ⟨hz, ψ, v', le, hal, st⟩ he h0 hlt hw
      subst hz
      subst hal
      refine t_true (by rw [ntl]; exact decide_eq_true hlt) ?_
      obtain ⟨y, hy, he⟩ := Option.bind_eq_some_iff.1 he
      obtain ⟨A1, cs1, ea1, hi1, r1, cl1⟩ := (kt.mono le).get hy
      refine t_deref _ ea1 (t_chk hi1 ?_)
      obtain rfl := r1
      refine s_load (x := y) (cellS_mono st.sub (cl1 0 _ rfl)) rfl ?_
      unfold ledS at he
      obtain ⟨s, hs, he⟩ := Option.bind_eq_some_iff.1 he
      obtain ⟨o, ho, he⟩ := Option.bind_eq_some_iff.1 he
      obtain ⟨⟨ks, ko⟩, he⟩ := need_some he
      obtain ⟨_, hs1, p, hp, hp'⟩ := idx_of v'.eq hs
      obtain ⟨_, ho1, q, hq, hq'⟩ := idx_of v'.eq ho
      have st1 := (glob_take st).2
      refine s_loadR (b := c) (j := 0) (x := v'.o) st1 rfl ?_
      obtain ⟨A0, cs0, ea0, hi0, r0, cl0⟩ := (k0.mono le).get hl0
      refine t_deref _ ea0 (t_chk hi0 ?_)
      obtain rfl := r0
      refine s_load (x := l0) (cellS_mono st.sub (cl0 0 _ rfl)) rfl ?_
      obtain ⟨A2, cs2, ea2, hi2, r2, cl2⟩ := St.get (st1.at1) hp'
      refine t_deref _ ea2 (t_chk hi2 ?_)
      obtain rfl := r2
      refine s_load (x := p) (cl2 0 _ rfl) rfl ?_
      refine s_loadR (b := c) (j := 0) (x := v'.o) st1 rfl ?_
      obtain ⟨A3, cs3, ea3, hi3, r3, cl3⟩ := St.get (st1.at1) hq'
      refine t_deref _ ea3 (t_chk hi3 ?_)
      obtain rfl := r3
      refine s_load (x := q) (cl3 0 _ rfl) rfl ?_
      refine s_call (union_at hs1 ho1 hp hq ks ko st) ?_
      rintro _ h1 ⟨ψ2, g2, le2, rfl, H⟩
      refine ⟨g2, rfl, ?_⟩
      obtain ⟨h0', h1', rfl⟩ := setI_some he
      exact s_next (IntKind.wrap .i64 (z.1 + (1 : Int)), ()) _ rfl rfl ⟨hw, ψ2, ⟨v'.o, v'.ps, v'.ss.set l0.toNat (unionD s o), by rw [List.length_set]; exact v'.eq⟩, le.trans le2, rfl, H _ rfl rfl rfl⟩
    · rintro i z w ⟨hz, H⟩ hge
      subst hz
      refine t_false (by rw [ntl]; exact decide_eq_false (Int.not_lt.2 hge)) ?_
      exact around_brk (meetB_brk (z.1, ()) rfl H)
  · rintro _ h2 ⟨ψ1, v1, le1, rfl, st1⟩
    refine t_chk q1 ?_
    refine s_block (fun (z : Int × Unit) w (g : List SetD) => ∃ (ψ : Snap) (v' : AllS), Sub ψ1 ψ ∧ v'.ss = g ∧ St ψ (allK c v' ++ F) w) (g := a') ?_ ?_
    · refine s_forS hd (fun i (z : Int × Unit) w g => z.1 = i ∧ ∃ (ψ : Snap) (v' : AllS), Sub ψ1 ψ ∧ v'.ss = g ∧ St ψ (allK c v' ++ F) w) ((0 : Int), ()) rfl ⟨rfl, ψ1, v1, Sub.refl _, rfl, st1⟩ ?_ ?_
      · rintro i z w g e ⟨hz, ψ, v', le', hal, st⟩ he h0 hlt hw
        have le := le1.trans le'
        subst hz
        subst hal
        refine t_true (by rw [ntl]; exact decide_eq_true hlt) ?_
        obtain ⟨y, hy, he⟩ := Option.bind_eq_some_iff.1 he
        obtain ⟨A1, cs1, ea1, hi1, r1, cl1⟩ := (kt.mono le).get hy
        refine t_deref _ ea1 (t_chk hi1 ?_)
        obtain rfl := r1
        refine s_load (x := y) (cellS_mono st.sub (cl1 0 _ rfl)) rfl ?_
        obtain ⟨s, hs, he⟩ := Option.bind_eq_some_iff.1 he
        obtain ⟨s', hs', he⟩ := Option.bind_eq_some_iff.1 he
        obtain ⟨_, hs1, p, hp, hp'⟩ := idx_of v'.eq hs
        obtain ⟨g0, st2⟩ := glob_take st
        refine s_loadR (b := c) (j := 0) (x := v'.o) st2 rfl ?_
        refine s_loadR (b := c) (j := 0) (x := v'.o) st2 rfl ?_
        obtain ⟨A0, cs0, ea0, hi0, r0, cl0⟩ := (k0.mono le).get hl0
        refine t_deref _ ea0 (t_chk hi0 ?_)
        obtain rfl := r0
        refine s_load (x := l0) (cellS_mono st.sub (cl0 0 _ rfl)) rfl ?_
        obtain ⟨A2, cs2, ea2, hi2, r2, cl2⟩ := St.get (st2.at1) hp'
        refine t_deref _ ea2 (t_chk hi2 ?_)
        obtain rfl := r2
        refine s_load (x := p) (cl2 0 _ rfl) rfl ?_
        obtain ⟨rr, a1', a2'⟩ := objs_put hp hs1
        obtain ⟨B, hB⟩ : ∃ B : List Chk, B = [⟨Rep.raw 35, [.pointer (some ⟨c, 0, none⟩)], [.slice v'.o.1 v'.o.2.1 v'.o.2.2]⟩, ⟨Rep.row 37 Ro.pt, [.slice v'.o.1 v'.o.2.1 v'.o.2.2], v'.ps⟩] := ⟨_, rfl⟩
        have st3 : St ψ (B ++ (objsC v'.ps v'.ss ++ F)) w := by rw [hB]; exact st2
        have mv : (B ++ (objsC v'.ps v'.ss ++ F)).Perm (setC p s :: (B ++ (rr ++ F))) := (List.Perm.append_left B (List.Perm.append_right F a1')).trans List.perm_middle
        refine s_call (bitset_Set_Copy_sim (st3.perm mv) hs') ?_
        rintro _ h3 ⟨ψ2, p2, s2, le2, rfl, rfl, st4⟩
        refine ⟨p2, rfl, ?_⟩
        have st5 : St ψ2 (setC p2 s2 :: (B ++ (objsC v'.ps v'.ss ++ F))) h3 := st4.perm (List.Perm.cons _ mv.symm)
        have st6 : St ψ2 (⟨Rep.raw 35, [.pointer (some ⟨c, 0, none⟩)], [.slice v'.o.1 v'.o.2.1 v'.o.2.2]⟩ :: ⟨Rep.row 37 Ro.pt, [.slice v'.o.1 v'.o.2.1 v'.o.2.2], v'.ps⟩ :: setC p2 s2 :: (objsC v'.ps v'.ss ++ F)) h3 := by
          rw [hB] at st5
          exact st5.perm ((List.Perm.swap _ _ _).trans (List.Perm.cons _ (List.Perm.swap _ _ _)))
        refine t_still (st6.cell rfl) ?_
        obtain ⟨y0, y1, rfl⟩ := setI_some he
        have hyl : y.toNat < v'.ps.length := by have := v'.eq; omega
        have hset : setI v'.ps y p2 = some (v'.ps.set y.toNat p2) := by unfold setI; rw [if_pos ⟨y0, by have := v'.eq; omega⟩]
        obtain ⟨A4, ea4, q4⟩ := St.there (st6.at1) hset
        refine t_deref _ ea4 (t_chk q4 (s_set (st6.at1) hset (v := .pointer p2) rfl ea4 ?_))
        intro h4 st7
        have hyp : v'.ps[y.toNat]? = some v'.ps[y.toNat] := List.getElem?_eq_getElem hyl
        have hys : v'.ss[y.toNat]? = some (v'.ss[y.toNat]'(by have := v'.eq; omega)) := List.getElem?_eq_getElem _
        obtain ⟨r3, c1, c2⟩ := objs_focus hyp hys
        refine s_next (IntKind.wrap .i64 (z.1 + (1 : Int)), ()) _ rfl rfl ⟨hw, ψ2, ⟨v'.o, v'.ps.set y.toNat p2, v'.ss.set y.toNat s2, by rw [List.length_set, List.length_set]; exact v'.eq⟩, le'.trans le2, rfl, ?_⟩
        refine glob_put (g0.mono le2) ?_
        have st8 : St ψ2 (setC p2 s2 :: (objsC v'.ps v'.ss ++ (⟨Rep.raw 35, [.pointer (some ⟨c, 0, none⟩)], [.slice v'.o.1 v'.o.2.1 v'.o.2.2]⟩ :: ⟨Rep.row 37 Ro.pt, [.slice v'.o.1 v'.o.2.1 v'.o.2.2], v'.ps.set y.toNat p2⟩ :: F))) h4 := by
          refine st7.perm ?_
          refine ((List.Perm.cons _ (List.Perm.swap _ _ _)).trans (List.Perm.swap _ _ _)).trans (List.Perm.cons _ ?_)
          refine (List.Perm.trans ?_ (List.perm_middle (l₁ := objsC v'.ps v'.ss)).symm)
          refine (List.Perm.trans (List.Perm.swap _ _ _) (List.Perm.cons _ ?_))
          exact (List.perm_middle (l₁ := objsC v'.ps v'.ss)).symm
        have st9 := st8.perm (List.Perm.cons _ (List.Perm.append_right _ c1))
        have st10 := (st9.at 1).tail
        have st11 := st10.perm (((List.Perm.append_right _ (c2 p2 s2)).symm : (setC p2 s2 :: r3 ++ _).Perm _))
        refine st11.perm ?_
        exact (List.perm_middle (l₁ := objsC _ _)).trans (List.Perm.cons _ (List.perm_middle (l₁ := objsC _ _)))
      · rintro i z w ⟨hz, H⟩ hge
        subst hz
        refine t_false (by rw [ntl]; exact decide_eq_false (Int.not_lt.2 hge)) ?_
        exact around_brk (meetB_brk (z.1, ()) rfl H)
    · rintro _ h3 ⟨ψ2, v2, le2, hal2, st3⟩
      exact finOf_back ⟨rfl, ψ2, v2, (le0.trans le1).trans le2, hal2, st3⟩
end Go.Proofs.YtbpbfoemghcfaaaDoor

/-
  DIGRAPH, PLAIN: walk goes through all places; what Solve's sets and Parts' lists are then.
  Conditions: at most a thousand places.
-/
namespace Go.Proofs.YtbpbfoemghcfaaaDoor
open Go Go.Eng
set_option linter.unusedVariables false
section
variable {ll : List (List Int)} {n : Int} {A : Type} {ledA : A → Int → Int → Option A} {partA : A → List Int → Option A} (S : Told ll n ledA partA)
theorem walk_spec (h0 : 0 ≤ n) (hn : n ≤ 1000) (hll : ∀ l ∈ ll, l.length ≤ 1073741824) {a : A} (hI : S.I (fun _ => False) a) {fuel : Nat} (hf : n.toNat ≤ fuel) : ∃ st', walkD ll n ledA partA fuel a = some st' ∧ S.I (fun v => 0 ≤ v ∧ v < n) st'.2.2 := by
  unfold walkD
  rw [need_ok ⟨h0, by omega⟩]
  have hrep : ∀ v, lv (List.replicate n.toNat (0 : Int)) v = 0 := fun v => by
    unfold lv idx
    split
    · rw [List.getElem?_replicate]
      split <;> rfl
    · rfl
  have hn' : n = ((n.toNat : Nat) : Int) := by omega
  have hloop := forS_inv (f := fun i (st : WalkS A) => (idx st.1 i).bind fun e => cond (e == 0) (visitD ll n ledA partA fuel st i) (some st)) (n := n.toNat)
    (fun k st => ∃ low a', st = (low, [], a') ∧ Inv ll n low [] ∧ (∀ v : Int, 0 ≤ v → v < k → lv low v ≠ 0) ∧ S.I (Dn low) a') (by omega) (s := (List.replicate n.toNat (0 : Int), [], a))
    ⟨_, _, rfl, ⟨by simp; omega, fun i v hv => by simp at hv, fun v _ _ _ => .inl (hrep v), .nil, fun i v hv => by simp at hv, fun v w hv => by rw [hrep] at hv; simp [MaxI] at hv⟩, fun v g0 g1 => by omega, by
      have : Dn (List.replicate n.toNat (0 : Int)) = fun _ => False := by
        funext v
        apply propext
        show lv _ v = MaxI ↔ False
        rw [hrep]
        exact ⟨fun h => (by simp [MaxI] at h), fun h => h.elim⟩
      rw [this]; exact hI⟩ (fun k st hk ⟨low, a1, e, H, hseen, hok⟩ => by
        subst e
        have hlen := H.len
        dsimp only
        rw [idx_lv (by omega) (by omega), Option.bind_some]
        by_cases hz : lv low (k : Int) = 0
        · rw [show (lv low (k : Int) == 0) = true by simp [hz], cond_true]
          have hcl : low.count 0 ≤ low.length := List.count_le_length
          obtain ⟨low', ext, a2, g1, Po⟩ := visit_spec S hn hll fuel low [] a1 k H (by omega) (by omega) hz (fun u hu => by cases hu) hok (by omega)
          have hext : ext = [] := by
            cases ext with
            | nil => rfl
            | cons v r =>
              have h1 := (Po.strict 0 v rfl).2
              have h2 := (Po.inv.on 0 v rfl).2.2.1
              simp at h1
              omega
          subst hext
          refine ⟨_, g1, low', a2, rfl, Po.inv, fun v g0 g2 => ?_, Po.ok⟩
          by_cases hv : v = (k : Int)
          · subst hv; exact Po.seen
          · have := hseen v g0 (by omega)
            rw [Po.keep v this]; exact this
        · rw [show (lv low (k : Int) == 0) = false by simp [hz], cond_false]
          refine ⟨_, rfl, low, a1, rfl, H, fun v g0 g2 => ?_, hok⟩
          by_cases hv : v = (k : Int)
          · subst hv; exact hz
          · exact hseen v g0 (by omega))
  rw [← hn'] at hloop
  obtain ⟨st', e1, low, a', rfl, H, hseen, hok⟩ := hloop
  refine ⟨_, e1, ?_⟩
  have hlen := H.len
  have : Dn low = fun v => 0 ≤ v ∧ v < n := by
    funext v
    apply propext
    show lv low v = MaxI ↔ _
    constructor
    · intro h
      rcases Int.lt_or_le v 0 with g | g
      · rw [lv_out (.inl g)] at h; cases h
      · refine ⟨g, ?_⟩
        rcases Int.lt_or_le v n with g' | g'
        · exact g'
        · rw [lv_out (.inr (by omega))] at h; cases h
    · rintro ⟨g0, g1⟩
      rcases H.off v g0 g1 (by simp) with h | h
      · exact absurd h (hseen v g0 (by omega))
      · exact h
  rw [← this]
  exact hok
end
/-! ## Solve's sets -/
def gv (a : List SetD) (v : Int) : SetD := (idx a v).getD (0, [])
theorem idx_gv {a : List SetD} {v : Int} (h0 : 0 ≤ v) (h1 : v < (a.length : Int)) : idx a v = some (gv a v) := by
  have : idx a v = some a[v.toNat] := idx_get h0 (by omega)
  unfold gv
  rw [this]; rfl
theorem gv_set {a : List SetD} {x : Int} {s : SetD} (h0 : 0 ≤ x) (h1 : x < (a.length : Int)) (v : Int) : gv (a.set x.toNat s) v = if v = x then s else gv a v := by
  by_cases hv : v = x
  · subst hv
    rw [if_pos rfl]
    unfold gv idx
    rw [if_pos h0, List.getElem?_set, if_pos rfl, if_pos (by omega)]
    rfl
  · rw [if_neg hv]
    unfold gv idx
    split
    · rw [List.getElem?_set, if_neg (by omega)]
    · rfl
section
variable (ll : List (List Int)) (n wide : Int) (B : List SetD)
/-- What a place is to get. -/
def Full (v j : Int) : Prop := ∃ z, Reach ll n v z ∧ mem (gv B z) j = true
structure SetsI (a : List SetD) : Prop where
  len : (a.length : Int) = n
  ok : ∀ v, 0 ≤ v → v < n → OkS (gv a v) ∧ (gv a v).1 = wide
  base : ∀ v j, 0 ≤ v → v < n → mem (gv B v) j = true → mem (gv a v) j = true
  sound : ∀ v j, 0 ≤ v → v < n → mem (gv a v) j = true → Full ll n B v j
variable {ll n wide B}
theorem Full.back {v w j : Int} (h : Reach ll n v w) (k : Full ll n B w j) : Full ll n B v j := by
  obtain ⟨z, h1, h2⟩ := k
  exact ⟨z, h.trans h1, h2⟩
theorem wide_of {a : List SetD} (H : SetsI ll n wide B a) {v j : Int} (h0 : 0 ≤ v) (h1 : v < n) (h : mem (gv a v) j = true) : j < wide := by
  obtain ⟨k1, k2⟩ := H.ok v h0 h1
  have := (mem_lt k1 h).2
  omega
/-- One union keeps that. -/
theorem SetsI.led {a : List SetD} (H : SetsI ll n wide B a) {x to : Int} (h0 : 0 ≤ x) (h1 : x < n) (t0 : 0 ≤ to) (t1 : to < n) (hr : Reach ll n x to) : ∃ a', ledS a x to = some a' ∧ SetsI ll n wide B a' ∧ (∀ v, v ≠ x → gv a' v = gv a v) ∧ (∀ j, mem (gv a' x) j = (mem (gv a x) j || mem (gv a to) j)) := by
  have hlen := H.len
  obtain ⟨kx, wx⟩ := H.ok x h0 h1
  obtain ⟨kt, wt⟩ := H.ok to t0 t1
  obtain ⟨u1, u2, u3⟩ := union_ok kx kt
  have hs := fun v => gv_set (a := a) (x := x) (s := unionD (gv a x) (gv a to)) h0 (by omega) v
  have hm : ∀ j, mem (unionD (gv a x) (gv a to)) j = (mem (gv a x) j || mem (gv a to) j) := fun j => by
    rw [u3]
    by_cases h : mem (gv a to) j = true
    · have := wide_of H t0 t1 h
      rw [decide_eq_true (by omega), Bool.and_true]
    · rw [Bool.not_eq_true] at h
      rw [h]; rfl
  refine ⟨a.set x.toNat (unionD (gv a x) (gv a to)), ?_, ⟨by rw [List.length_set]; exact hlen, ?_, ?_, ?_⟩, fun v hv => by rw [hs, if_neg hv], fun j => by rw [hs, if_pos rfl, hm]⟩
  · unfold ledS
    rw [idx_gv h0 (by omega), Option.bind_some, idx_gv t0 (by omega), Option.bind_some, need_ok ⟨kx, kt⟩, setI_ok h0 (by omega)]
  · intro v g0 g1
    rw [hs]
    split
    · exact ⟨u1, by rw [u2, wx]⟩
    · exact H.ok v g0 g1
  · intro v j g0 g1 h
    rw [hs]
    split
    · rename_i e
      subst e
      rw [hm, H.base v j g0 g1 h]; rfl
    · exact H.base v j g0 g1 h
  · intro v j g0 g1 h
    rw [hs] at h
    split at h
    · rename_i e
      subst e
      rw [hm, Bool.or_eq_true] at h
      rcases h with h | h
      · exact H.sound v j g0 g1 h
      · exact (H.sound to j t0 t1 h).back hr
    · exact H.sound v j g0 g1 h
theorem copy_ok {s : SetD} (H : OkS s) : bitset_Set_Copy_D s = some s := by
  unfold bitset_Set_Copy_D cloneD
  have h1 := H.len
  have h2 := H.hi
  rw [if_pos (by omega)]
  rfl
/-- What is done with a part. -/
theorem SetsI.part {a : List SetD} (H : SetsI ll n wide B a) {l0 : Int} {l : List Int} (hin : ∀ v ∈ l0 :: l, 0 ≤ v ∧ v < n) (hnd : (l0 :: l).Nodup) (hb : l.length ≤ 1000) (hr : ∀ v ∈ l0 :: l, ∀ w ∈ l0 :: l, Reach ll n v w) :
    ∃ a', partS a (l0 :: l) = some a' ∧ SetsI ll n wide B a' ∧ (∀ v, v ∉ l0 :: l → gv a' v = gv a v) ∧ ∀ v ∈ l0 :: l, ∀ w ∈ l0 :: l, ∀ j, mem (gv a w) j = true → mem (gv a' v) j = true := by
  have i0 := hin l0 (by simp)
  have hnl : l0 ∉ l := (List.nodup_cons.1 hnd).1
  obtain ⟨a1, e1, H1, o1, m1, n1⟩ := forS_inv (f := fun i (a : List SetD) => (idx l i).bind fun y => ledS a l0 y) (n := l.length)
    (fun k b => SetsI ll n wide B b ∧ (∀ v, v ≠ l0 → gv b v = gv a v) ∧ (∀ j, mem (gv a l0) j = true → mem (gv b l0) j = true) ∧ ∀ w ∈ l.take k, ∀ j, mem (gv a w) j = true → mem (gv b l0) j = true) (by omega) (s := a)
    ⟨H, fun _ _ => rfl, fun _ h => h, fun w hw => by simp at hw⟩ (fun k b hk ⟨Hb, ob, mb, nb⟩ => by
      have hy : l[k] ∈ l := List.getElem_mem hk
      obtain ⟨y0, y1⟩ := hin _ (List.mem_cons_of_mem _ hy)
      obtain ⟨b', g1, g2, g3, g4⟩ := Hb.led i0.1 i0.2 y0 y1 (hr _ (by simp) _ (List.mem_cons_of_mem _ hy))
      refine ⟨b', by rw [idx_lt hk]; exact g1, g2, fun v hv => (g3 v hv).trans (ob v hv), fun j h => by rw [g4, mb j h]; rfl, fun w hw j h => ?_⟩
      rw [List.take_succ_eq_append_getElem hk] at hw
      rw [g4]
      rcases List.mem_append.1 hw with hw | hw
      · rw [nb w hw j h]; rfl
      · have hw := List.mem_singleton.1 hw
        rw [hw] at h
        have h2 := ob l[k] (fun e => hnl (by rw [← e]; exact hy))
        rw [h2, h, Bool.or_true])
  rw [List.take_length] at n1
  have hl1 := H1.len
  have k1 := H1.ok l0 i0.1 i0.2
  obtain ⟨a2, e2, H2, o2, m2⟩ := forS_inv (f := fun i (a : List SetD) => (idx l i).bind fun y => (idx a l0).bind fun s => (bitset_Set_Copy_D s).bind fun s => setI a y s) (n := l.length)
    (fun k b => SetsI ll n wide B b ∧ (∀ v, v ∉ l.take k → gv b v = gv a1 v) ∧ ∀ v ∈ l.take k, gv b v = gv a1 l0) (by omega) (s := a1)
    ⟨H1, fun _ _ => rfl, fun w hw => by simp at hw⟩ (fun k b hk ⟨Hb, ob, mb⟩ => by
      have hy : l[k] ∈ l := List.getElem_mem hk
      have hlb := Hb.len
      obtain ⟨y0, y1⟩ := hin _ (List.mem_cons_of_mem _ hy)
      have hb0 : gv b l0 = gv a1 l0 := ob l0 fun h => hnl (List.mem_of_mem_take h)
      have hs := fun v => gv_set (a := b) (x := l[k]) (s := gv a1 l0) y0 (by omega) v
      refine ⟨b.set (l[k]).toNat (gv a1 l0), ?_, ⟨by rw [List.length_set]; exact hlb, ?_, ?_, ?_⟩, ?_, ?_⟩
      · rw [idx_lt hk, Option.bind_some, idx_gv i0.1 (by omega), Option.bind_some, hb0, copy_ok k1.1, Option.bind_some, setI_ok y0 (by omega)]
      · intro v g0 g1
        rw [hs]
        split
        · exact k1
        · exact Hb.ok v g0 g1
      · intro v j g0 g1 h
        rw [hs]
        split
        · rename_i e
          subst e
          exact n1 _ hy j (H.base _ j g0 g1 h)
        · exact Hb.base v j g0 g1 h
      · intro v j g0 g1 h
        rw [hs] at h
        split at h
        · rename_i e
          subst e
          exact (H1.sound l0 j i0.1 i0.2 h).back (hr _ (List.mem_cons_of_mem _ hy) _ (by simp))
        · exact Hb.sound v j g0 g1 h
      · intro v hv
        rw [List.take_succ_eq_append_getElem hk] at hv
        have h1 : v ∉ l.take k := fun h => hv (List.mem_append_left _ h)
        have h2 : v ≠ l[k] := fun h => hv (List.mem_append_right _ (List.mem_singleton.2 h))
        rw [hs, if_neg h2]
        exact ob v h1
      · intro v hv
        rw [List.take_succ_eq_append_getElem hk] at hv
        rw [hs]
        split
        · rfl
        · rename_i h2
          rcases List.mem_append.1 hv with h | h
          · exact mb v h
          · exact absurd (List.mem_singleton.1 h) h2)
  rw [List.take_length] at o2 m2
  refine ⟨a2, ?_, H2, fun v hv => ?_, fun v hv w hw j h => ?_⟩
  · unfold partS
    rw [show idx (l0 :: l) 0 = some l0 from rfl, Option.bind_some, show (l0 :: l).drop 1 = l from rfl, e1, Option.bind_some, e2]
  · rw [List.mem_cons, not_or] at hv
    rw [o2 v hv.2, o1 v hv.1]
  · have hv' : gv a2 v = gv a1 l0 := by
      rcases List.mem_cons.1 hv with e | e
      · rw [e]; exact o2 l0 hnl
      · exact m2 v e
    rw [hv']
    rcases List.mem_cons.1 hw with e | e
    · subst e; exact m1 j h
    · exact n1 w e j h
/-- Solve is told. -/
def solveTold (hn : n ≤ 1000) : Told ll n ledS partS where
  I D a := SetsI ll n wide B a ∧ ∀ v, D v → 0 ≤ v → v < n → ∀ j, Full ll n B v j → mem (gv a v) j = true
  Q a y z := ¬ Reach ll n z y → ∀ j, Full ll n B z j → mem (gv a y) j = true
  led := by
    rintro D a x to ⟨H, hD⟩ h0 h1 hto hr hx
    obtain ⟨t0, t1⟩ := from_range hto
    obtain ⟨a', e, H', o, m⟩ := H.led h0 h1 t0 t1 (.one hto)
    have grow : ∀ v j, mem (gv a v) j = true → mem (gv a' v) j = true := fun v j h => by
      by_cases hv : v = x
      · subst hv; rw [m, h]; rfl
      · rw [o v hv]; exact h
    refine ⟨a', e, ⟨H', fun v hv g0 g1 j hj => grow v j (hD v hv g0 g1 j hj)⟩, fun hnr j hj => ?_, fun y z h hnr j hj => grow y j (h hnr j hj)⟩
    rcases hr with g | g
    · rw [m, hD to g t0 t1 j hj, Bool.or_true]
    · exact absurd g hnr
  part := by
    rintro D a l ⟨H, hD⟩ hne hnd hin hq hscc
    obtain ⟨l0, l', rfl⟩ : ∃ l0 l', l = l0 :: l' := by
      cases l with
      | nil => exact absurd rfl hne
      | cons a l => exact ⟨a, l, rfl⟩
    have hlen : (l0 :: l').length ≤ 1000 := by
      have h := List.Nodup.length_le_of_subset (l₂ := (List.range n.toNat).map fun k : Nat => (k : Int)) hnd (fun v hv => by
        have := hin v hv
        exact List.mem_map.2 ⟨v.toNat, List.mem_range.2 (by omega), by omega⟩)
      simp at h ⊢
      omega
    obtain ⟨a', e, H', o, m⟩ := H.part (fun v hv => ⟨(hin v hv).1, (hin v hv).2.1⟩) hnd (by simp at hlen; omega) (fun v hv w hw => ((hscc v hv w).1 hw).1)
    have grow : ∀ v j, mem (gv a v) j = true → mem (gv a' v) j = true := fun v j h => by
      by_cases hv : v ∈ l0 :: l'
      · exact m v hv v hv j h
      · rw [o v hv]; exact h
    have key : ∀ {y z : Int}, Reach ll n y z → ∀ j, mem (gv B z) j = true → y ∈ l0 :: l' → ∃ w ∈ l0 :: l', mem (gv a w) j = true := fun {y z} hr j hj => by
      induction hr with
      | refl y =>
        intro hy
        exact ⟨y, hy, H.base y j (hin y hy).1 (hin y hy).2.1 hj⟩
      | @step y w z he hr ih =>
        intro hy
        by_cases hw : w ∈ l0 :: l'
        · exact ih hj hw
        · refine ⟨y, hy, (hq y hy w he).1 (fun hwy => hw ((hscc y hy w).2 ⟨.one he, hwy⟩)) j ⟨z, hr, hj⟩⟩
    refine ⟨a', e, ⟨H', fun v hv g0 g1 j hj => ?_⟩, fun y z h hnr j hj => grow y j (h hnr j hj)⟩
    rcases hv with hv | hv
    · exact grow v j (hD v hv g0 g1 j hj)
    · obtain ⟨z, hz1, hz2⟩ := hj
      obtain ⟨w, hw, hm⟩ := key hz1 j hz2 hv
      exact m v hv w hw j hm
end
end Go.Proofs.YtbpbfoemghcfaaaDoor

/-
  The shelf's premises at this program: printed by lays2.py. Conditions: none.
-/
namespace Go.Proofs.YtbpbfoemghcfaaaDoor
open Go Go.Shelf Go.Proofs
set_option maxRecDepth 100000

def renLaysn189 : Ren := ⟨fun x => bif Nat.beq x 125 then 48 else bif Nat.beq x 128 then 67 else bif Nat.beq x 129 then 68 else bif Nat.beq x 189 then 31 else bif Nat.beq x 215 then 83 else bif Nat.beq x 216 then 64 else bif Nat.beq x 257 then 47 else bif Nat.beq x 294 then 58 else bif Nat.beq x 295 then 59 else bif Nat.beq x 296 then 60 else bif Nat.beq x 297 then 61 else bif Nat.beq x 298 then 62 else bif Nat.beq x 299 then 63 else bif Nat.beq x 300 then 65 else bif Nat.beq x 301 then 66 else bif Nat.beq x 328 then 78 else bif Nat.beq x 329 then 79 else bif Nat.beq x 330 then 80 else bif Nat.beq x 331 then 81 else bif Nat.beq x 332 then 82 else bif Nat.beq x 343 then 87 else 0, fun x => bif Nat.beq x 0 then 0 else bif Nat.beq x 3 then 3 else bif Nat.beq x 4 then 4 else bif Nat.beq x 5 then 5 else bif Nat.beq x 9 then 9 else bif Nat.beq x 28 then 28 else bif Nat.beq x 46 then 65 else bif Nat.beq x 51 then 84 else bif Nat.beq x 53 then 56 else bif Nat.beq x 131 then 81 else bif Nat.beq x 182 then 75 else bif Nat.beq x 183 then 76 else bif Nat.beq x 218 then 92 else bif Nat.beq x 222 then 96 else bif Nat.beq x 228 then 100 else bif Nat.beq x 229 then 101 else 0, fun _ => 0⟩

theorem laysLaysn189 : Lays.n189 Tryd.prog renLaysn189 where
  mixed := by kernel_rfl
  f125 := Tryd.func48.trans (congrArg some (show Tryd.f48 = Body.n125 renLaysn189 by kernel_rfl))
  f128 := Tryd.func67.trans (congrArg some (show Tryd.f67 = Body.n128 renLaysn189 by kernel_rfl))
  f129 := Tryd.func68.trans (congrArg some (show Tryd.f68 = Body.n129 renLaysn189 by kernel_rfl))
  f189 := Tryd.func31.trans (congrArg some (show Tryd.f31 = Body.n189 renLaysn189 by kernel_rfl))
  f215 := Tryd.func83.trans (congrArg some (show Tryd.f83 = Body.n215 renLaysn189 by kernel_rfl))
  f216 := Tryd.func64.trans (congrArg some (show Tryd.f64 = Body.n216 renLaysn189 by kernel_rfl))
  f257 := Tryd.func47.trans (congrArg some (show Tryd.f47 = Body.n257 renLaysn189 by kernel_rfl))
  f294 := Tryd.func58.trans (congrArg some (show Tryd.f58 = Body.n294 renLaysn189 by kernel_rfl))
  f295 := Tryd.func59.trans (congrArg some (show Tryd.f59 = Body.n295 renLaysn189 by kernel_rfl))
  f296 := Tryd.func60.trans (congrArg some (show Tryd.f60 = Body.n296 renLaysn189 by kernel_rfl))
  f297 := Tryd.func61.trans (congrArg some (show Tryd.f61 = Body.n297 renLaysn189 by kernel_rfl))
  f298 := Tryd.func62.trans (congrArg some (show Tryd.f62 = Body.n298 renLaysn189 by kernel_rfl))
  f299 := Tryd.func63.trans (congrArg some (show Tryd.f63 = Body.n299 renLaysn189 by kernel_rfl))
  f300 := Tryd.func65.trans (congrArg some (show Tryd.f65 = Body.n300 renLaysn189 by kernel_rfl))
  f301 := Tryd.func66.trans (congrArg some (show Tryd.f66 = Body.n301 renLaysn189 by kernel_rfl))
  f328 := Tryd.func78.trans (congrArg some (show Tryd.f78 = Body.n328 renLaysn189 by kernel_rfl))
  f329 := Tryd.func79.trans (congrArg some (show Tryd.f79 = Body.n329 renLaysn189 by kernel_rfl))
  f330 := Tryd.func80.trans (congrArg some (show Tryd.f80 = Body.n330 renLaysn189 by kernel_rfl))
  f331 := Tryd.func81.trans (congrArg some (show Tryd.f81 = Body.n331 renLaysn189 by kernel_rfl))
  f332 := Tryd.func82.trans (congrArg some (show Tryd.f82 = Body.n332 renLaysn189 by kernel_rfl))
  f343 := Tryd.func87.trans (congrArg some (show Tryd.f87 = Body.n343 renLaysn189 by kernel_rfl))
  t0 := Tryd.underlying0
  a0 := Tryd.isAgg0
  z0 := Tryd.sizeOf0
  v0 := Tryd.zeroValue0
  t3 := Tryd.underlying3
  a3 := Tryd.isAgg3
  z3 := Tryd.sizeOf3
  v3 := Tryd.zeroValue3
  t4 := Tryd.underlying4
  a4 := Tryd.isAgg4
  z4 := Tryd.sizeOf4
  v4 := Tryd.zeroValue4
  t5 := Tryd.underlying5
  a5 := Tryd.isAgg5
  z5 := Tryd.sizeOf5
  v5 := Tryd.zeroValue5
  t9 := Tryd.underlying9
  a9 := Tryd.isAgg9
  z9 := Tryd.sizeOf9
  v9 := Tryd.zeroValue9
  t28 := Tryd.underlying28
  a28 := Tryd.isAgg28
  z28 := Tryd.sizeOf28
  v28 := Tryd.zeroValue28
  t46 := Tryd.underlying65
  a46 := Tryd.isAgg65
  z46 := Tryd.sizeOf65
  v46 := Tryd.zeroValue65
  t51 := Tryd.underlying84
  a51 := Tryd.isAgg84
  z51 := Tryd.sizeOf84
  v51 := Tryd.zeroValue84
  t53 := Tryd.underlying56
  a53 := Tryd.isAgg56
  z53 := Tryd.sizeOf56
  v53 := Tryd.zeroValue56
  t131 := Tryd.underlying81
  a131 := Tryd.isAgg81
  z131 := Tryd.sizeOf81
  v131 := Tryd.zeroValue81
  t182 := Tryd.underlying75
  a182 := Tryd.isAgg75
  z182 := Tryd.sizeOf75
  v182 := Tryd.zeroValue75
  t183 := Tryd.underlying76
  a183 := Tryd.isAgg76
  z183 := Tryd.sizeOf76
  v183 := Tryd.zeroValue76
  t218 := Tryd.underlying92
  a218 := Tryd.isAgg92
  z218 := Tryd.sizeOf92
  v218 := Tryd.zeroValue92
  t222 := Tryd.underlying96
  a222 := Tryd.isAgg96
  z222 := Tryd.sizeOf96
  v222 := Tryd.zeroValue96
  t228 := Tryd.underlying100
  a228 := Tryd.isAgg100
  z228 := Tryd.sizeOf100
  v228 := Tryd.zeroValue100
  t229 := Tryd.underlying101
  a229 := Tryd.isAgg101
  z229 := Tryd.sizeOf101
  v229 := Tryd.zeroValue101

def renSlLaysFn6 : Ren := ⟨fun x => bif Nat.beq x 6 then 32 else bif Nat.beq x 14 then 49 else bif Nat.beq x 15 then 48 else bif Nat.beq x 20 then 69 else bif Nat.beq x 21 then 70 else bif Nat.beq x 22 then 71 else bif Nat.beq x 23 then 72 else bif Nat.beq x 24 then 73 else bif Nat.beq x 25 then 74 else bif Nat.beq x 26 then 75 else bif Nat.beq x 27 then 76 else bif Nat.beq x 28 then 67 else bif Nat.beq x 29 then 68 else bif Nat.beq x 46 then 84 else bif Nat.beq x 47 then 79 else bif Nat.beq x 48 then 80 else bif Nat.beq x 49 then 85 else bif Nat.beq x 50 then 86 else bif Nat.beq x 57 then 88 else 0, fun x => bif Nat.beq x 0 then 0 else bif Nat.beq x 3 then 3 else bif Nat.beq x 4 then 4 else bif Nat.beq x 5 then 5 else bif Nat.beq x 9 then 9 else bif Nat.beq x 22 then 22 else bif Nat.beq x 24 then 28 else bif Nat.beq x 25 then 48 else bif Nat.beq x 39 then 65 else bif Nat.beq x 45 then 75 else bif Nat.beq x 46 then 76 else bif Nat.beq x 50 then 81 else bif Nat.beq x 53 then 84 else bif Nat.beq x 55 then 56 else bif Nat.beq x 66 then 92 else bif Nat.beq x 70 then 96 else bif Nat.beq x 76 then 100 else bif Nat.beq x 77 then 101 else 0, fun _ => 0⟩

theorem laysSlLaysFn6 : SlLaysF.n6 Tryd.prog renSlLaysFn6 where
  mixed := by kernel_rfl
  f6 := ⟨ "slices.SortFunc[[][]int,[]int]", by decide, Tryd.func32.trans (congrArg some (by kernel_rfl))⟩
  f14 := ⟨ "slices.pdqsortCmpFunc[[]int]", by decide, Tryd.func49.trans (congrArg some (by kernel_rfl))⟩
  f15 := Tryd.func48.trans (congrArg some (show Tryd.f48 = SlBodyF.n15 renSlLaysFn6 by kernel_rfl))
  f20 := ⟨ "slices.insertionSortCmpFunc[[]int]", by decide, Tryd.func69.trans (congrArg some (by kernel_rfl))⟩
  f21 := ⟨ "slices.heapSortCmpFunc[[]int]", by decide, Tryd.func70.trans (congrArg some (by kernel_rfl))⟩
  f22 := ⟨ "slices.breakPatternsCmpFunc[[]int]", by decide, Tryd.func71.trans (congrArg some (by kernel_rfl))⟩
  f23 := ⟨ "slices.choosePivotCmpFunc[[]int]", by decide, Tryd.func72.trans (congrArg some (by kernel_rfl))⟩
  f24 := ⟨ "slices.reverseRangeCmpFunc[[]int]", by decide, Tryd.func73.trans (congrArg some (by kernel_rfl))⟩
  f25 := ⟨ "slices.partialInsertionSortCmpFunc[[]int]", by decide, Tryd.func74.trans (congrArg some (by kernel_rfl))⟩
  f26 := ⟨ "slices.partitionEqualCmpFunc[[]int]", by decide, Tryd.func75.trans (congrArg some (by kernel_rfl))⟩
  f27 := ⟨ "slices.partitionCmpFunc[[]int]", by decide, Tryd.func76.trans (congrArg some (by kernel_rfl))⟩
  f28 := Tryd.func67.trans (congrArg some (show Tryd.f67 = SlBodyF.n28 renSlLaysFn6 by kernel_rfl))
  f29 := Tryd.func68.trans (congrArg some (show Tryd.f68 = SlBodyF.n29 renSlLaysFn6 by kernel_rfl))
  f46 := ⟨ "slices.siftDownCmpFunc[[]int]", by decide, Tryd.func84.trans (congrArg some (by kernel_rfl))⟩
  f47 := Tryd.func79.trans (congrArg some (show Tryd.f79 = SlBodyF.n47 renSlLaysFn6 by kernel_rfl))
  f48 := Tryd.func80.trans (congrArg some (show Tryd.f80 = SlBodyF.n48 renSlLaysFn6 by kernel_rfl))
  f49 := ⟨ "slices.medianAdjacentCmpFunc[[]int]", by decide, Tryd.func85.trans (congrArg some (by kernel_rfl))⟩
  f50 := ⟨ "slices.medianCmpFunc[[]int]", by decide, Tryd.func86.trans (congrArg some (by kernel_rfl))⟩
  f57 := ⟨ "slices.order2CmpFunc[[]int]", by decide, Tryd.func88.trans (congrArg some (by kernel_rfl))⟩
  t0 := Tryd.underlying0
  a0 := Tryd.isAgg0
  z0 := Tryd.sizeOf0
  v0 := Tryd.zeroValue0
  t3 := Tryd.underlying3
  a3 := Tryd.isAgg3
  z3 := Tryd.sizeOf3
  v3 := Tryd.zeroValue3
  t4 := Tryd.underlying4
  a4 := Tryd.isAgg4
  z4 := Tryd.sizeOf4
  v4 := Tryd.zeroValue4
  t5 := Tryd.underlying5
  a5 := Tryd.isAgg5
  z5 := Tryd.sizeOf5
  v5 := Tryd.zeroValue5
  t9 := Tryd.underlying9
  a9 := Tryd.isAgg9
  z9 := Tryd.sizeOf9
  v9 := Tryd.zeroValue9
  t22 := Tryd.underlying22
  a22 := Tryd.isAgg22
  z22 := Tryd.sizeOf22
  v22 := Tryd.zeroValue22
  a24 := Tryd.isAgg28
  z24 := Tryd.sizeOf28
  t25 := Tryd.underlying48
  a25 := Tryd.isAgg48
  z25 := Tryd.sizeOf48
  v25 := Tryd.zeroValue48
  t39 := Tryd.underlying65
  a39 := Tryd.isAgg65
  z39 := Tryd.sizeOf65
  v39 := Tryd.zeroValue65
  t45 := Tryd.underlying75
  a45 := Tryd.isAgg75
  z45 := Tryd.sizeOf75
  v45 := Tryd.zeroValue75
  t46 := Tryd.underlying76
  a46 := Tryd.isAgg76
  z46 := Tryd.sizeOf76
  v46 := Tryd.zeroValue76
  t50 := Tryd.underlying81
  a50 := Tryd.isAgg81
  z50 := Tryd.sizeOf81
  v50 := Tryd.zeroValue81
  t53 := Tryd.underlying84
  a53 := Tryd.isAgg84
  z53 := Tryd.sizeOf84
  v53 := Tryd.zeroValue84
  t55 := Tryd.underlying56
  a55 := Tryd.isAgg56
  z55 := Tryd.sizeOf56
  v55 := Tryd.zeroValue56
  t66 := Tryd.underlying92
  a66 := Tryd.isAgg92
  z66 := Tryd.sizeOf92
  v66 := Tryd.zeroValue92
  t70 := Tryd.underlying96
  a70 := Tryd.isAgg96
  z70 := Tryd.sizeOf96
  v70 := Tryd.zeroValue96
  t76 := Tryd.underlying100
  a76 := Tryd.isAgg100
  z76 := Tryd.sizeOf100
  v76 := Tryd.zeroValue100
  t77 := Tryd.underlying101
  a77 := Tryd.isAgg101
  z77 := Tryd.sizeOf101
  v77 := Tryd.zeroValue101

end Go.Proofs.YtbpbfoemghcfaaaDoor

/-
  DIGRAPH: slices.Sort at []int: the shelf's contract in the words of pieces.
  Conditions: less than 2^62 numbers.
-/
namespace Go.Proofs.YtbpbfoemghcfaaaDoor
open Go Go.Eng
set_option linter.unusedVariables false
set_option maxRecDepth 100000

def sortI (l : List Int) : List Int := l.mergeSort fun x y => decide (x ≤ y)
theorem int_inj {k : IntKind} {a b : List Int} (h : a.map (Value.int k) = b.map (Value.int k)) : a = b :=
  (List.map_inj_right (f := Value.int k) fun x y hxy => by cases hxy; rfl).1 h
section
variable {φ : Snap} {h : Heap} {F : List Chk}
theorem sort31 {t : Slc} {l : List Int} (s0 : St φ (⟨Rep.row 3 (Ro.int .i64), [.slice t.1 t.2.1 t.2.2], l⟩ :: F) h) (hb : l.length < 4611686018427387904) :
    CallsH Tryd.prog 31 [.slice t.1 t.2.1 t.2.2] h (Back fun v h' => v = .tuple #[] ∧ St φ (⟨Rep.row 3 (Ro.int .i64), [.slice t.1 t.2.1 t.2.2], sortI l⟩ :: F) h') := by
  intro w hw
  subst hw
  rcases s0.rowHolds rfl (Value.int .i64) (fun vs ha => ⟨l, all_atom ha⟩) with ⟨hl, hn⟩ | ⟨b, off, bs, ht, hall, hn, hlen, hlt, hfit, hH⟩
  · subst hl
    rw [hn]
    have hc := Any.slices_Sort_int_none laysLaysn189 t.1 t.2.2 w
    refine (show Calls Tryd.prog 31 #[.slice t.1 0 t.2.2] w _ from hc).mono ?_
    rintro e w' ⟨rfl, rfl⟩
    rw [hn] at s0
    exact ⟨Same.refl _, _, rfl, rfl, by rw [show sortI [] = [] from List.mergeSort_nil]; exact s0⟩
  · have hbl : bs = l := int_inj (all_atom hall)
    subst hbl
    rw [ht, hn]
    have hc := Any.slices_Sort_int laysLaysn189 b off t.2.2 bs w hH hlt hb
    refine (show Calls Tryd.prog 31 #[.slice (some ⟨b, off, none⟩) bs.length t.2.2] w _ from hc).mono ?_
    rintro e w' ⟨rfl, k, os, rfl⟩
    refine ⟨⟨rfl, rfl, rfl, by rw [Go.Sort.size_grow, Go.Sort.size_putRow]; exact Nat.le_add_right _ _⟩, _, rfl, rfl, ?_⟩
    have s1 := s0.rowSorted ht (Value.int .i64) (sortI bs) (all_ints _) (List.length_mergeSort _) (List.length_mergeSort _) hfit k os
    rw [ht, hn] at s1
    exact s1
end
end Go.Proofs.YtbpbfoemghcfaaaDoor

/-
  DIGRAPH: slices.SortFunc at [][]int by the heads.
  Conditions: none of the lists is empty; the heads are apart and small; less than 2^62 lists.
-/
namespace Go.Proofs.YtbpbfoemghcfaaaDoor
open Go Go.Eng Go.RowKit Go.Shelf Go.Sort
set_option linter.unusedVariables false
attribute [local go_sem] Oper.semAt_some
set_option maxRecDepth 100000
/-- Parts' comparison. -/
theorem cmp33 {W : World} {a b : Addr} {na nb ca cb : Nat} {x y : Int} (ha : W.cell? a = some (.int .i64 x)) (hb : W.cell? b = some (.int .i64 y)) :
    Calls Tryd.prog 33 #[.slice (some a) (na + 1) ca, .slice (some b) (nb + 1) cb] W fun e w' => e = .returned (.int .i64 (wrap64 (x - y))) ∧ ∃ q, w' = W.drewN q := by
  refine (callsIn_wide (n := 3)).1 ?_
  refine callsIn_of_wp Tryd.func33 rfl trivial ?_ rfl
  simp only [Tryd.ntmps33, List.size_toArray, List.length_cons, List.length_nil, Nat.reduceAdd, Nat.reduceSub, Array.replicate_succ, Array.replicate_zero, List.push_toArray, List.append_toArray, List.nil_append, List.cons_append]
  gi_wp2
  have hmx : Tryd.prog.follows .mixedOrders = true := mixed
  gi_region
  all_goals gi_wp2
  all_goals go_ret
  all_goals exact ⟨rfl, 1, rfl⟩
def encS (t : Slc) : Value := .slice t.1 t.2.1 t.2.2
theorem encS_inj {a b : List Slc} (h : a.map encS = b.map encS) : a = b :=
  (List.map_inj_right (f := encS) fun x y hxy => by
    obtain ⟨x1, x2, x3⟩ := x
    obtain ⟨y1, y2, y3⟩ := y
    simp only [encS, Value.slice.injEq] at hxy
    obtain ⟨rfl, rfl, rfl⟩ := hxy
    rfl).1 h
theorem all_list {α : Type} {r : Ro α} {φ : Snap} {vs : List Value} {ll : List (List α)} (H : (Ro.list r).All φ vs ll) :
    ∃ bs : List Slc, vs = bs.map encS ∧ bs.length = ll.length ∧ ∀ (i : Nat) (h1 : i < bs.length) (h2 : i < ll.length), Ro.SliceIs r φ bs[i] ll[i] := by
  induction H with
  | nil => exact ⟨[], rfl, rfl, fun i h => by cases h⟩
  | @cons a b x l h hb ih =>
    obtain ⟨t, rfl, ht⟩ := h
    obtain ⟨bs, rfl, hl, hi⟩ := ih
    refine ⟨t :: bs, rfl, by simp [hl], fun i h1 h2 => ?_⟩
    cases i with
    | zero => exact ht
    | succ i => exact hi i (by simpa using h1) (by simpa using h2)
theorem all_pick {α : Type} {r : Ro α} {φ : Snap} {n : Nat} {B : Fin n → Slc} {A : Fin n → List α} (h : ∀ i, Ro.SliceIs r φ (B i) (A i)) : ∀ is : List (Fin n), (Ro.list r).All φ (is.map fun i => encS (B i)) (is.map A)
  | [] => .nil
  | i :: is => .cons (a := [encS (B i)]) ⟨B i, rfl, h i⟩ (all_pick h is)
def headI (l : List Int) : Int := l.headD 0
def sortH (ll : List (List Int)) : List (List Int) := ll.mergeSort fun a b => decide (headI a ≤ headI b)
structure HeadsOk (ll : List (List Int)) : Prop where
  full : ∀ l ∈ ll, l ≠ []
  apart : (ll.map headI).Nodup
  small : ∀ l ∈ ll, 0 ≤ headI l ∧ headI l < 4294967296
theorem sort32 {φ : Snap} {h : Heap} {F : List Chk} {t : Slc} {ll : List (List Int)} (s0 : St φ (⟨Rep.row 28 (Ro.list (Ro.int .i64)), [.slice t.1 t.2.1 t.2.2], ll⟩ :: F) h) (hk : HeadsOk ll) (hb : ll.length < 4611686018427387904) :
    CallsH Tryd.prog 32 [.slice t.1 t.2.1 t.2.2, .func (.func 33) #[] #[]] h (Back fun v h' => v = .tuple #[] ∧ St φ (⟨Rep.row 28 (Ro.list (Ro.int .i64)), [.slice t.1 t.2.1 t.2.2], sortH ll⟩ :: F) h') := by
  intro w hw
  subst hw
  rcases s0.rowHolds rfl encS (fun vs ha => let ⟨bs, e, _⟩ := all_list ha; ⟨bs, e⟩) with ⟨hl, hn⟩ | ⟨b, off, bs, ht, hall, hn, hlen, hlt, hfit, hH⟩
  · subst hl
    rw [hn]
    have hc := AnyF.slices_SortFunc_none { laysSlLaysFn6 with } t.1 t.2.2 (.func (.func 33) #[] #[]) w
    refine (show Calls Tryd.prog 32 #[.slice t.1 0 t.2.2, _] w _ from hc).mono ?_
    rintro e w' ⟨rfl, rfl⟩
    rw [hn] at s0
    exact ⟨Same.refl _, _, rfl, rfl, by rw [show sortH [] = [] from List.mergeSort_nil]; exact s0⟩
  · cases hz : ll with
    | nil =>
      subst hz
      have hn0 : t.2.1 = 0 := by rw [hn, ← hlen]; rfl
      rw [hn0]
      have hc := AnyF.slices_SortFunc_none { laysSlLaysFn6 with } t.1 t.2.2 (.func (.func 33) #[] #[]) w
      refine (show Calls Tryd.prog 32 #[.slice t.1 0 t.2.2, _] w _ from hc).mono ?_
      rintro e w' ⟨rfl, rfl⟩
      rw [hn0] at s0
      exact ⟨Same.refl _, _, rfl, rfl, by rw [show sortH [] = [] from List.mergeSort_nil]; exact s0⟩
    | cons l0 lr =>
      have hpos : 0 < ll.length := by rw [hz]; exact Nat.succ_pos _
      rw [← hz]
      clear hz
      haveI : Inhabited (Fin ll.length) := ⟨⟨0, hpos⟩⟩
      obtain ⟨bs', hbs, hl', hpt⟩ := all_list hall
      obtain rfl := encS_inj hbs
      obtain ⟨B, hB⟩ : ∃ B : Fin ll.length → Slc, B = fun i => bs[i.1]'(by have := i.2; omega) := ⟨_, rfl⟩
      obtain ⟨A, hA⟩ : ∃ A : Fin ll.length → List Int, A = fun i => ll[i.1] := ⟨_, rfl⟩
      have hAB : ∀ i, Ro.SliceIs (Ro.int .i64) φ (B i) (A i) := fun i => by rw [hA, hB]; exact hpt _ _ _
      have hd0 : (List.ofFn fun i : Fin ll.length => i).map A = ll := List.ext_getElem (by simp) fun i h1 h2 => by simp [hA]
      have hdB : (List.ofFn fun i : Fin ll.length => i).map (fun i => encS (B i)) = bs.map encS := List.ext_getElem (by simp [hlen]) fun i h1 h2 => by simp [hB]
      obtain ⟨d, hd⟩ : ∃ d : Array (Fin ll.length), d = Array.ofFn fun i => i := ⟨_, rfl⟩
      have hds : d.size = ll.length := by rw [hd]; simp
      have hdl : d.toList = List.ofFn fun i => i := by rw [hd]; simp
      have hsm : ∀ i, 0 ≤ headI (A i) ∧ headI (A i) < 4294967296 := fun i => by rw [hA]; exact hk.small _ (List.getElem_mem _)
      have hlt' : ∀ i j, ltOf (fun i j : Fin ll.length => wrap64 (headI (A i) - headI (A j))) i j = decide (headI (A i) < headI (A j)) := fun i j => by
        have h1 := hsm i
        have h2 := hsm j
        have h3 : wrap64 (headI (A i) - headI (A j)) = headI (A i) - headI (A j) := by unfold wrap64; omega
        show decide (wrap64 (headI (A i) - headI (A j)) < 0) = _
        rw [h3]
        exact decide_eq_decide.2 (by omega)
      have hHd : Holds (fun i => encS (B i)) w b off d := fun j hj => by
        have h1 := hH j (by simp; omega)
        have h2 : d[j]! = ⟨j, by omega⟩ := by rw [getElem!_pos _ j hj]; simp [hd]
        have h3 : bs.toArray[j]! = bs[j]'(by omega) := by rw [getElem!_pos _ j (by simp; omega)]; simp
        rw [h3] at h1
        rw [h2, hB]
        exact h1
      have hsw : ∀ (m : Nat) (os : Array Obj) (dk : Array (Fin ll.length)), dk.size = d.size → St φ (⟨Rep.row 28 (Ro.list (Ro.int .i64)), [.slice t.1 t.2.1 t.2.2], dk.toList.map A⟩ :: F) (sortWorld (fun i => encS (B i)) w b off m dk os).heap := fun m os dk hdk =>
        s0.rowSorted ht (fun i => encS (B i)) dk.toList (all_pick hAB _) (by simp; omega) (by simp; omega) hfit m os
      have hcell : ∀ (W : World) i, Sub φ (snap W.heap) → ∃ a n, B i = (some a, n + 1, (B i).2.2) ∧ W.cell? a = some (.int .i64 (headI (A i))) := fun W i hs => by
        obtain ⟨g1, g2, g3, g4, vs, g5, g6⟩ := hAB i
        have hne : A i ≠ [] := by rw [hA]; exact hk.full _ (List.getElem_mem _)
        obtain ⟨x, xs, hx⟩ : ∃ x xs, A i = x :: xs := by
          cases hAi : A i with
          | nil => exact absurd hAi hne
          | cons x xs => exact ⟨x, xs, rfl⟩
        rw [hx] at g1 g4 g5
        have hvs := all_atom g5
        obtain ⟨a, ha, hc⟩ := g6 0 (.int .i64 x) (by rw [hvs]; rfl)
        refine ⟨a, xs.length, ?_, ?_⟩
        · rw [← ha]
          have : (B i).2.1 = xs.length + 1 := by rw [← g1]; rfl
          rw [← this]
        · rw [hx]
          have h1 := cellS_mono hs hc
          have e0 : a.add 0 = a := by cases a; rfl
          rw [e0] at h1
          exact h1
      have hSWO : SWO (ltOf fun i j : Fin ll.length => wrap64 (headI (A i) - headI (A j))) := by
        refine ⟨fun x => ?_, fun x y z h1 h2 => ?_, fun x y z h1 h2 => ?_⟩
        · rw [hlt']; exact decide_eq_false (by omega)
        · rw [hlt'] at *
          exact decide_eq_true (Int.lt_trans (of_decide_eq_true h1) (of_decide_eq_true h2))
        · rw [hlt'] at *
          have h3 := of_decide_eq_false h1
          have h4 := of_decide_eq_false h2
          exact decide_eq_false (by omega)
      have hT : ∀ x y, (ltOf fun i j : Fin ll.length => wrap64 (headI (A i) - headI (A j))) x y = false → (ltOf fun i j : Fin ll.length => wrap64 (headI (A i) - headI (A j))) y x = false → x = y := fun x y h1 h2 => by
        rw [hlt'] at h1 h2
        have h3 := of_decide_eq_false h1
        have h4 := of_decide_eq_false h2
        have h5 : (ll.map headI)[x.1]'(by simp) = (ll.map headI)[y.1]'(by simp) := by
          rw [List.getElem_map, List.getElem_map]
          have h3' : ¬ headI ll[x.1] < headI ll[y.1] := by rw [hA] at h3; exact h3
          have h4' : ¬ headI ll[y.1] < headI ll[x.1] := by rw [hA] at h4; exact h4
          exact Int.le_antisymm (Int.not_lt.1 h4') (Int.not_lt.1 h3')
        have hp := List.pairwise_iff_getElem.1 hk.apart
        rcases Nat.lt_trichotomy x.1 y.1 with g | g | g
        · exact absurd h5 (hp _ _ (by simp) (by simp) g)
        · exact Fin.ext g
        · exact absurd h5.symm (hp _ _ (by simp) (by simp) g)
      have hc := Any.slices_SortFunc_total laysSlLaysFn6 (fun i => encS (B i)) (fun i => rfl) (fun i j => wrap64 (headI (A i) - headI (A j))) hSWO 33 #[] b off t.2.2 d w
        (enters_of Tryd.func33 (by kernel_rfl) rfl) (fun m os dk hdk x y => by
          have hs := (hsw m os dk hdk).sub
          obtain ⟨a1, n1, e1, c1⟩ := hcell _ x hs
          obtain ⟨a2, n2, e2, c2⟩ := hcell _ y hs
          have h1 := cmp33 (na := n1) (nb := n2) (ca := (B x).2.2) (cb := (B y).2.2) c1 c2
          have e1' : encS (B x) = .slice (some a1) (n1 + 1) (B x).2.2 := by rw [e1]; rfl
          have e2' : encS (B y) = .slice (some a2) (n2 + 1) (B y).2.2 := by rw [e2]; rfl
          refine (show Calls Tryd.prog 33 (#[encS (B x), encS (B y)] ++ #[]) _ _ from by rw [e1', e2']; exact h1).mono ?_
          rintro e w' ⟨rfl, q, rfl⟩
          exact ⟨rfl, q, #[], by rw [grow_empty]⟩) hHd hlt (by omega) hT
      have hn2 : t.2.1 = d.size := by rw [hn, ← hlen, hds]
      rw [ht, hn2]
      refine (show Calls Tryd.prog 32 #[.slice (some ⟨b, off, none⟩) d.size t.2.2, _] w _ from hc).mono ?_
      rintro e w' ⟨rfl, k, os, rfl⟩
      have hsrt : (d.toList.mergeSort fun x y => !(ltOf fun i j : Fin ll.length => wrap64 (headI (A i) - headI (A j))) y x).map A = sortH ll := by
        rw [List.map_mergeSort (s := fun a b => decide (headI a ≤ headI b)) (fun x _ y _ => by
          rw [hlt', ← decide_not]
          exact decide_eq_decide.2 (by omega)), hdl, hd0]
        rfl
      have hs2 := hsw k os (d.toList.mergeSort fun x y => !(ltOf fun i j : Fin ll.length => wrap64 (headI (A i) - headI (A j))) y x).toArray (by simp)
      rw [List.toList_toArray, hsrt, ht, hn2] at hs2
      exact ⟨⟨rfl, rfl, rfl, by unfold sortWorld; rw [size_grow, size_putRow]; exact Nat.le_add_right _ _⟩, _, rfl, rfl, hs2⟩
end Go.Proofs.YtbpbfoemghcfaaaDoor

/-
  DIGRAPH: Parts' closures as plain functions.
  Conditions: none.
-/
namespace Go.Proofs.YtbpbfoemghcfaaaDoor
open Go Go.Eng
set_option linter.unusedVariables false
noncomputable def ledP (a : List (List Int)) (x to : Int) : Option (List (List Int)) := some a
noncomputable def partP (a : List (List Int)) (l : List Int) : Option (List (List Int)) := need (l.length < 1073741824 ∧ a.length < 1073741824) <| some (a ++ [sortI l])
end Go.Proofs.YtbpbfoemghcfaaaDoor

/-
  DIGRAPH, PLAIN: Parts' lists by walk.
  Conditions: at most a thousand places.
-/
namespace Go.Proofs.YtbpbfoemghcfaaaDoor
open Go Go.Eng
set_option linter.unusedVariables false
section
variable (ll : List (List Int)) (n : Int)
/-- Places that reach one another, rising. -/
structure IsPart (p : List Int) : Prop where
  ne : p ≠ []
  up : p.Pairwise (· < ·)
  range : ∀ v ∈ p, 0 ≤ v ∧ v < n
  scc : ∀ v ∈ p, ∀ z, z ∈ p ↔ Reach ll n v z ∧ Reach ll n z v
structure PartsI (D : Int → Prop) (a : List (List Int)) : Prop where
  parts : ∀ p ∈ a, IsPart ll n p
  cover : ∀ v, D v ↔ ∃ p ∈ a, v ∈ p
  apart : a.Pairwise fun p q => ∀ v ∈ p, v ∉ q
variable {ll n}
theorem head_mem {p : List Int} (h : p ≠ []) : headI p ∈ p := by
  cases p with
  | nil => exact absurd rfl h
  | cons x p => exact List.mem_cons_self
theorem PartsI.heads {D : Int → Prop} {a : List (List Int)} (H : PartsI ll n D a) : (a.map headI).Nodup := by
  have key : ∀ b : List (List Int), (∀ p ∈ b, IsPart ll n p) → (b.Pairwise fun p q => ∀ v ∈ p, v ∉ q) → (b.map headI).Nodup := by
    intro b
    induction b with
    | nil => intro _ _; exact .nil
    | cons p b ih =>
      intro hp hd
      have hd' := List.pairwise_cons.1 hd
      rw [List.map_cons, List.nodup_cons]
      refine ⟨fun hm => ?_, ih (fun q hq => hp q (List.mem_cons_of_mem _ hq)) hd'.2⟩
      obtain ⟨q, hq, e⟩ := List.mem_map.1 hm
      have h1 := head_mem (hp p (by simp)).ne
      have h2 := head_mem (hp q (List.mem_cons_of_mem _ hq)).ne
      rw [e] at h2
      exact hd'.1 q hq _ h1 h2
  exact key a H.parts H.apart
theorem PartsI.size {D : Int → Prop} {a : List (List Int)} (H : PartsI ll n D a) : a.length ≤ n.toNat := by
  have h := List.Nodup.length_le_of_subset (l₂ := (List.range n.toNat).map fun k : Nat => (k : Int)) H.heads (fun v hv => by
    obtain ⟨p, hp, rfl⟩ := List.mem_map.1 hv
    have hP := H.parts p hp
    have := hP.range _ (head_mem hP.ne)
    exact List.mem_map.2 ⟨(headI p).toNat, List.mem_range.2 (by omega), by omega⟩)
  simpa using h
theorem sortI_up {l : List Int} (h : l.Nodup) : (sortI l).Pairwise (· < ·) := by
  have h1 : (sortI l).Pairwise fun a b => decide (a ≤ b) = true := List.pairwise_mergeSort (fun a b c h1 h2 => by simp at h1 h2 ⊢; omega) (fun a b => by simp; omega) l
  have h2 : (sortI l).Nodup := (List.mergeSort_perm l _).nodup_iff.2 h
  exact h1.imp₂ (fun a b h1 h2 => by simp at h1; omega) h2
theorem mem_sortI {l : List Int} {v : Int} : v ∈ sortI l ↔ v ∈ l := (List.mergeSort_perm l _).mem_iff
/-- Parts is told. -/
def partsTold (hn : n ≤ 1000) : Told ll n ledP partP where
  I D a := PartsI ll n D a
  Q _ _ _ := True
  led := by
    rintro D a x to H _ _ _ _ _
    exact ⟨a, rfl, H, trivial, fun _ _ _ => trivial⟩
  part := by
    rintro D a l H hne hnd hin hq hscc
    have hlen : l.length ≤ 1000 := by
      have h := List.Nodup.length_le_of_subset (l₂ := (List.range n.toNat).map fun k : Nat => (k : Int)) hnd (fun v hv => by
        have := hin v hv
        exact List.mem_map.2 ⟨v.toNat, List.mem_range.2 (by omega), by omega⟩)
      simp at h
      omega
    have hsz := H.size
    refine ⟨a ++ [sortI l], by unfold partP; rw [need_ok ⟨by omega, by omega⟩], ⟨?_, ?_, ?_⟩, fun _ _ _ => trivial⟩
    · intro p hp
      rcases List.mem_append.1 hp with h | h
      · exact H.parts p h
      · rw [List.mem_singleton.1 h]
        refine ⟨?_, sortI_up hnd, fun v hv => ?_, fun v hv z => ?_⟩
        · intro h0
          obtain ⟨v, hv⟩ := List.exists_mem_of_ne_nil _ hne
          have := mem_sortI.2 hv
          rw [h0] at this
          cases this
        · have := hin v (mem_sortI.1 hv); exact ⟨this.1, this.2.1⟩
        · rw [mem_sortI]; exact hscc v (mem_sortI.1 hv) z
    · intro v
      constructor
      · rintro (h | h)
        · obtain ⟨p, hp, hv⟩ := (H.cover v).1 h
          exact ⟨p, List.mem_append_left _ hp, hv⟩
        · exact ⟨sortI l, by simp, mem_sortI.2 h⟩
      · rintro ⟨p, hp, hv⟩
        rcases List.mem_append.1 hp with h | h
        · exact .inl ((H.cover v).2 ⟨p, h, hv⟩)
        · rw [List.mem_singleton.1 h] at hv
          exact .inr (mem_sortI.1 hv)
    · rw [List.pairwise_append]
      refine ⟨H.apart, by simp, fun p hp q hq v hv hv' => ?_⟩
      rw [List.mem_singleton.1 hq] at hv'
      exact (hin v (mem_sortI.1 hv')).2.2 ((H.cover v).2 ⟨p, hp, hv⟩)
theorem partsI_nil : PartsI ll n (fun _ => False) [] := ⟨fun p hp => (by cases hp), fun v => ⟨False.elim, fun ⟨p, hp, _⟩ => (by cases hp)⟩, .nil⟩
/-- Two rising lists of the same numbers are one. -/
theorem asc_ext : ∀ {l m : List Int}, l.Pairwise (· < ·) → m.Pairwise (· < ·) → (∀ x, x ∈ l ↔ x ∈ m) → l = m := by
  intro l
  induction l with
  | nil =>
    intro m _ _ h
    cases m with
    | nil => rfl
    | cons y m => have := (h y).2 (by simp); cases this
  | cons x l ih =>
    intro m hl hm h
    cases m with
    | nil => have := (h x).1 (by simp); cases this
    | cons y m =>
      have hl' := List.pairwise_cons.1 hl
      have hm' := List.pairwise_cons.1 hm
      have e : x = y := by
        rcases List.mem_cons.1 ((h x).1 (by simp)) with h1 | h1
        · exact h1
        · rcases List.mem_cons.1 ((h y).2 (by simp)) with h2 | h2
          · exact h2.symm
          · have := hl'.1 y h2
            have := hm'.1 x h1
            omega
      subst e
      rw [ih hl'.2 hm'.2 fun z => ?_]
      constructor
      · intro hz
        rcases List.mem_cons.1 ((h z).1 (List.mem_cons_of_mem _ hz)) with h1 | h1
        · have := hl'.1 z hz; omega
        · exact h1
      · intro hz
        rcases List.mem_cons.1 ((h z).2 (List.mem_cons_of_mem _ hz)) with h1 | h1
        · have := hm'.1 z hz; omega
        · exact h1
/-- The parts, in the order of their least places. -/
structure AllParts (ll : List (List Int)) (n : Int) (a : List (List Int)) : Prop where
  parts : ∀ p ∈ a, IsPart ll n p
  cover : ∀ v, (0 ≤ v ∧ v < n) ↔ ∃ p ∈ a, v ∈ p
  up : (a.map headI).Pairwise (· < ·)
theorem head_le {p : List Int} (h : p.Pairwise (· < ·)) {v : Int} (hv : v ∈ p) : headI p ≤ v := by
  cases p with
  | nil => cases hv
  | cons x p =>
    rcases List.mem_cons.1 hv with e | e
    · rw [e]; exact Int.le_refl _
    · have := (List.pairwise_cons.1 h).1 v e
      show x ≤ v
      omega
theorem part_eq {p q : List Int} (hp : IsPart ll n p) (hq : IsPart ll n q) {v : Int} (h1 : v ∈ p) (h2 : v ∈ q) : p = q :=
  asc_ext hp.up hq.up fun z => (hp.scc v h1 z).trans (hq.scc v h2 z).symm
theorem parts_ext {a b : List (List Int)} (ha : AllParts ll n a) (hb : AllParts ll n b) : a = b := by
  have sub : ∀ {a b : List (List Int)}, AllParts ll n a → AllParts ll n b → ∀ p ∈ a, p ∈ b := fun {a b} ha hb p hp => by
    have hP := ha.parts p hp
    have hh := head_mem hP.ne
    obtain ⟨q, hq, hv⟩ := (hb.cover _).1 (hP.range _ hh)
    rw [part_eq hP (hb.parts q hq) hh hv]
    exact hq
  have he : a.map headI = b.map headI := asc_ext ha.up hb.up fun x => by
    constructor
    · intro h
      obtain ⟨p, hp, rfl⟩ := List.mem_map.1 h
      exact List.mem_map_of_mem (sub ha hb p hp)
    · intro h
      obtain ⟨p, hp, rfl⟩ := List.mem_map.1 h
      exact List.mem_map_of_mem (sub hb ha p hp)
  have hlen : a.length = b.length := by have := congrArg List.length he; simpa using this
  refine List.ext_getElem hlen fun i h1 h2 => ?_
  have e : headI a[i] = headI b[i] := by
    have h3 : (a.map headI)[i]'(by simpa using h1) = (b.map headI)[i]'(by simpa using h2) := by simp only [he]
    rwa [List.getElem_map, List.getElem_map] at h3
  have hA := ha.parts _ (List.getElem_mem h1)
  have hB := hb.parts _ (List.getElem_mem h2)
  refine part_eq hA hB (v := headI a[i]) (head_mem hA.ne) ?_
  rw [e]; exact head_mem hB.ne
theorem heads_ok {D : Int → Prop} {a : List (List Int)} (hn : n ≤ 1000) (H : PartsI ll n D a) : HeadsOk a :=
  ⟨fun l hl => (H.parts l hl).ne, H.heads, fun l hl => by
    have hP := H.parts l hl
    have := hP.range _ (head_mem hP.ne)
    omega⟩
theorem sortH_parts {a : List (List Int)} (H : PartsI ll n (fun v => 0 ≤ v ∧ v < n) a) : AllParts ll n (sortH a) := by
  have hp : (sortH a).Perm a := List.mergeSort_perm a _
  refine ⟨fun p hp' => H.parts p (hp.mem_iff.1 hp'), fun v => ?_, ?_⟩
  · rw [H.cover]
    constructor
    · rintro ⟨p, h1, h2⟩; exact ⟨p, hp.mem_iff.2 h1, h2⟩
    · rintro ⟨p, h1, h2⟩; exact ⟨p, hp.mem_iff.1 h1, h2⟩
  · have h1 : (sortH a).Pairwise fun x y => decide (headI x ≤ headI y) = true := List.pairwise_mergeSort (fun a b c h1 h2 => by simp at h1 h2 ⊢; omega) (fun a b => by simp; omega) a
    have h2 : ((sortH a).map headI).Nodup := (hp.map headI).nodup_iff.2 H.heads
    rw [List.pairwise_map]
    exact h1.imp₂ (fun a b h1 h2 => by simp at h1; omega) (List.pairwise_map.1 h2)
end
end Go.Proofs.YtbpbfoemghcfaaaDoor
