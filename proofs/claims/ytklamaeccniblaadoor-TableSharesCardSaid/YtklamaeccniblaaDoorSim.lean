import Derived.Test.YtklamaeccniblaaDoorStr2
import Derived.Test.YtklamaeccniblaaDoorDen
import Derived.KernelRfl
namespace Go.Proofs.YtklamaeccniblaaDoor
open Go Go.Eng
set_option linter.unusedVariables false
set_option maxRecDepth 100000


theorem appT_22_22 : AppT Tryd.prog 22 22 26 1 := ⟨Tryd.underlying22, .inl Tryd.underlying22, ⟨Tryd.t26, by kernel_rfl, rfl, ⟨_, rfl, rfl⟩, by decide, by decide⟩, by decide⟩
theorem appT_23_23 : AppT Tryd.prog 23 23 5 1 := ⟨Tryd.underlying23, .inl Tryd.underlying23, ⟨Tryd.t5, by kernel_rfl, rfl, ⟨_, rfl, rfl⟩, by decide, by decide⟩, by decide⟩
theorem appT_26_26 : AppT Tryd.prog 26 26 3 1 := ⟨Tryd.underlying26, .inl Tryd.underlying26, ⟨Tryd.t3, by kernel_rfl, rfl, ⟨_, rfl, rfl⟩, by decide, by decide⟩, by decide⟩
noncomputable def tronageref01_Ints_D (a_0 : List Int) (b_1 : List Int) : Option Bool :=
  cond ((((List.length a_0) : Nat) : Int) != (((List.length b_1) : Nat) : Int))
  (some false)
  ((forN (σ := Unit) (β := Bool) (0 : Int) (((List.length a_0) : Nat) : Int) () fun i_z2 z2 =>
      (idx a_0 i_z2).bind fun e25 =>
      (idx b_1 i_z2).bind fun e34 =>
      cond (e25 != e34)
      (some (Step.done false))
      (some (Step.next ()))).bind fun e_z1 => match e_z1 with
    | .next z1 =>
      some true
    | .done q47 => some q47)
theorem tronageref01_Ints_sim {φ : Snap} {h : Heap} {F : List Chk} {a_0 : Slc} {d_a_0 : List Int} {b_1 : Slc} {d_b_1 : List Int} (k1_ : Ro.SliceIs (Ro.int .i64) φ a_0 d_a_0) (k3_ : Ro.SliceIs (Ro.int .i64) φ b_1 d_b_1) (s0 : St φ (F) h) {r : Bool} (hd : tronageref01_Ints_D d_a_0 d_b_1 = some r) :
    CallsH Tryd.prog 11 [(.slice a_0.1 a_0.2.1 a_0.2.2), (.slice b_1.1 b_1.2.1 b_1.2.2)] h (Back fun v h' => ∃ ψ : Snap, ∃ y : Bool, Sub φ ψ ∧ v = ((.one (.atom .bool)) : Sh).val y ∧ y = r ∧ St ψ (F) h') := by
  refine calls_of mixed Tryd.func11 ?_
  rw [tronageref01_Ints_den]
  unfold tronageref01_Ints_T
  unfold tronageref01_Ints_D at hd
  have n2_ : a_0.2.1 = List.length d_a_0 := k1_.length
  have n4_ : b_1.2.1 = List.length d_b_1 := k3_.length
  refine s_cond hd (by rw [n2_, n4_]) (fun hb48_ hd => ?_) (fun hb48_ hd => ?_)
  · obtain rfl := Option.some.inj hd
    exact finOf_back ⟨φ, false, (Sub.refl _), rfl, rfl, s0⟩
  · obtain ⟨g5_, hx6_, hd⟩ := Option.bind_eq_some_iff.1 hd
    refine s_block (fun (y : Int × Bool × Unit) w_ g => ∃ ψ : Snap, Sub φ ψ ∧ Step.next () = g ∧ St ψ (F) w_) (g := g5_) ?_ ?_
    · refine s_forN hx6_ (fun i7_ (y : Int × Bool × Unit) w_ g => ∃ ψ : Snap, Sub φ ψ ∧ y.1 = i7_ ∧ () = g ∧ St ψ (F) w_) ((0 : Int), false, ()) rfl ⟨φ, (Sub.refl _), rfl, rfl, s0⟩ ?_ ?_
      · rintro _ z2 h13_ _ _ ⟨f10_, le11_, rfl, rfl, s12_⟩ he8_ h115_ h216_ hw14_ hb9_
        try dsimp only at he8_ h115_ h216_ hw14_
        refine t_true (by rw [n2_]; exact decide_eq_true h216_) ?_
        obtain ⟨x17_, hx18_, he8_⟩ := Option.bind_eq_some_iff.1 he8_
        obtain ⟨a19_, cs20_, ea21_, hi22_, q23_, cl24_⟩ := (k1_.mono le11_).get hx18_
        refine t_deref _ ea21_ (t_chk hi22_ ?_)
        obtain rfl := q23_
        refine s_load (x := x17_) (cellS_heap (Sub.trans (Sub.refl _) s12_.sub) (cl24_ 0 _ rfl)) rfl ?_
        obtain ⟨x26_, hx27_, he8_⟩ := Option.bind_eq_some_iff.1 he8_
        obtain ⟨a28_, cs29_, ea30_, hi31_, q32_, cl33_⟩ := (k3_.mono le11_).get hx27_
        refine t_deref _ ea30_ (t_chk hi31_ ?_)
        obtain rfl := q32_
        refine s_load (x := x26_) (cellS_heap (Sub.trans (Sub.refl _) s12_.sub) (cl33_ 0 _ rfl)) rfl ?_
        refine s_cond he8_ rfl (fun hb35_ he8_ => ?_) (fun hb35_ he8_ => ?_)
        · obtain rfl := Option.some.inj he8_
          obtain rfl := hb9_ _ rfl
          try dsimp only at hd
          obtain rfl := Option.some.inj hd
          exact around_ret (meetB_ret (finOf_back ⟨f10_, false, le11_, rfl, rfl, s12_⟩))
        · obtain rfl := Option.some.inj he8_
          exact s_next ((IntKind.wrap .i64 (z2.1 + (1 : Int))), z2.2.1, ()) _ rfl rfl ⟨f10_, le11_, hw14_, rfl, s12_⟩
      · rintro _ z2 h39_ _ ⟨f36_, le37_, rfl, rfl, s38_⟩ hge40_ hr41_
        subst hr41_
        refine t_false (by rw [n2_]; exact decide_eq_false (Int.not_lt.2 hge40_)) ?_
        exact around_brk (meetB_brk (z2.1, z2.2.1, ()) rfl ⟨f36_, le37_, rfl, s38_⟩)
    · rintro z1 h42_ ⟨f43_, le44_, rfl, s45_⟩
      try dsimp only at hd
      obtain rfl := Option.some.inj hd
      exact finOf_back ⟨f43_, true, le44_, rfl, rfl, s45_⟩

noncomputable def tronageref01_Lists_D (a_0 : List (List Int)) (b_1 : List (List Int)) : Option Bool :=
  cond ((((List.length a_0) : Nat) : Int) != (((List.length b_1) : Nat) : Int))
  (some false)
  ((forN (σ := Unit) (β := Bool) (0 : Int) (((List.length a_0) : Nat) : Int) () fun i_z2 z2 =>
      (idx a_0 i_z2).bind fun e25 =>
      (idx b_1 i_z2).bind fun e37 =>
      (tronageref01_Ints_D e25 e37).bind fun t7 =>
      cond (!t7)
      (some (Step.done false))
      (some (Step.next ()))).bind fun e_z1 => match e_z1 with
    | .next z1 =>
      some true
    | .done q59 => some q59)
theorem tronageref01_Lists_sim {φ : Snap} {h : Heap} {F : List Chk} {a_0 : Slc} {d_a_0 : List (List Int)} {b_1 : Slc} {d_b_1 : List (List Int)} (k1_ : Ro.SliceIs (Ro.list (Ro.int .i64)) φ a_0 d_a_0) (k3_ : Ro.SliceIs (Ro.list (Ro.int .i64)) φ b_1 d_b_1) (s0 : St φ (F) h) {r : Bool} (hd : tronageref01_Lists_D d_a_0 d_b_1 = some r) :
    CallsH Tryd.prog 13 [(.slice a_0.1 a_0.2.1 a_0.2.2), (.slice b_1.1 b_1.2.1 b_1.2.2)] h (Back fun v h' => ∃ ψ : Snap, ∃ y : Bool, Sub φ ψ ∧ v = ((.one (.atom .bool)) : Sh).val y ∧ y = r ∧ St ψ (F) h') := by
  refine calls_of mixed Tryd.func13 ?_
  rw [tronageref01_Lists_den]
  unfold tronageref01_Lists_T
  unfold tronageref01_Lists_D at hd
  have n2_ : a_0.2.1 = List.length d_a_0 := k1_.length
  have n4_ : b_1.2.1 = List.length d_b_1 := k3_.length
  refine s_cond hd (by rw [n2_, n4_]) (fun hb60_ hd => ?_) (fun hb60_ hd => ?_)
  · obtain rfl := Option.some.inj hd
    exact finOf_back ⟨φ, false, (Sub.refl _), rfl, rfl, s0⟩
  · obtain ⟨g5_, hx6_, hd⟩ := Option.bind_eq_some_iff.1 hd
    refine s_block (fun (y : Int × Bool × Unit) w_ g => ∃ ψ : Snap, Sub φ ψ ∧ Step.next () = g ∧ St ψ (F) w_) (g := g5_) ?_ ?_
    · refine s_forN hx6_ (fun i7_ (y : Int × Bool × Unit) w_ g => ∃ ψ : Snap, Sub φ ψ ∧ y.1 = i7_ ∧ () = g ∧ St ψ (F) w_) ((0 : Int), false, ()) rfl ⟨φ, (Sub.refl _), rfl, rfl, s0⟩ ?_ ?_
      · rintro _ z2 h13_ _ _ ⟨f10_, le11_, rfl, rfl, s12_⟩ he8_ h115_ h216_ hw14_ hb9_
        try dsimp only at he8_ h115_ h216_ hw14_
        refine t_true (by rw [n2_]; exact decide_eq_true h216_) ?_
        obtain ⟨x17_, hx18_, he8_⟩ := Option.bind_eq_some_iff.1 he8_
        obtain ⟨a19_, cs20_, ea21_, hi22_, q23_, cl24_⟩ := (k1_.mono le11_).get hx18_
        refine t_deref _ ea21_ (t_chk hi22_ ?_)
        obtain ⟨t26_, rfl, k27_⟩ := q23_
        have n28_ := k27_.length
        refine s_load (x := t26_) (cellS_heap (Sub.trans (Sub.refl _) s12_.sub) (cl24_ 0 _ rfl)) rfl ?_
        obtain ⟨x29_, hx30_, he8_⟩ := Option.bind_eq_some_iff.1 he8_
        obtain ⟨a31_, cs32_, ea33_, hi34_, q35_, cl36_⟩ := (k3_.mono le11_).get hx30_
        refine t_deref _ ea33_ (t_chk hi34_ ?_)
        obtain ⟨t38_, rfl, k39_⟩ := q35_
        have n40_ := k39_.length
        refine s_load (x := t38_) (cellS_heap (Sub.trans (Sub.refl _) s12_.sub) (cl36_ 0 _ rfl)) rfl ?_
        obtain ⟨r41_, hr42_, he8_⟩ := Option.bind_eq_some_iff.1 he8_
        refine s_call (tronageref01_Ints_sim k27_ k39_ s12_ hr42_) ?_
        rintro _ h43_ ⟨f44_, t7, le46_, rfl, rfl, s45_⟩
        refine ⟨t7, rfl, ?_⟩
        refine s_cond he8_ rfl (fun hb47_ he8_ => ?_) (fun hb47_ he8_ => ?_)
        · obtain rfl := Option.some.inj he8_
          obtain rfl := hb9_ _ rfl
          try dsimp only at hd
          obtain rfl := Option.some.inj hd
          exact around_ret (meetB_ret (finOf_back ⟨f44_, false, (le11_.trans le46_), rfl, rfl, s45_⟩))
        · obtain rfl := Option.some.inj he8_
          exact s_next ((IntKind.wrap .i64 (z2.1 + (1 : Int))), z2.2.1, ()) _ rfl rfl ⟨f44_, (le11_.trans le46_), hw14_, rfl, s45_⟩
      · rintro _ z2 h51_ _ ⟨f48_, le49_, rfl, rfl, s50_⟩ hge52_ hr53_
        subst hr53_
        refine t_false (by rw [n2_]; exact decide_eq_false (Int.not_lt.2 hge52_)) ?_
        exact around_brk (meetB_brk (z2.1, z2.2.1, ()) rfl ⟨f48_, le49_, rfl, s50_⟩)
    · rintro z1 h54_ ⟨f55_, le56_, rfl, s57_⟩
      try dsimp only at hd
      obtain rfl := Option.some.inj hd
      exact finOf_back ⟨f55_, true, le56_, rfl, rfl, s57_⟩

noncomputable def tronagelaw15_few_D (rows_0 : List (List Int)) : Option Bool :=
  cond (decide ((((List.length rows_0) : Nat) : Int) > (25 : Int)))
  (some false)
  ((forN (σ := Unit) (β := Bool) (0 : Int) (((List.length rows_0) : Nat) : Int) () fun i_z2 z2 =>
      (idx rows_0 i_z2).bind fun e23 =>
      cond (decide ((((List.length e23) : Nat) : Int) > (25 : Int)))
      (some (Step.done false))
      (some (Step.next ()))).bind fun e_z1 => match e_z1 with
    | .next z1 =>
      some true
    | .done q39 => some q39)
theorem tronagelaw15_few_sim {φ : Snap} {h : Heap} {F : List Chk} {rows_0 : Slc} {d_rows_0 : List (List Int)} (k1_ : Ro.SliceIs (Ro.list (Ro.int .i64)) φ rows_0 d_rows_0) (s0 : St φ (F) h) {r : Bool} (hd : tronagelaw15_few_D d_rows_0 = some r) :
    CallsH Tryd.prog 9 [(.slice rows_0.1 rows_0.2.1 rows_0.2.2)] h (Back fun v h' => ∃ ψ : Snap, ∃ y : Bool, Sub φ ψ ∧ v = ((.one (.atom .bool)) : Sh).val y ∧ y = r ∧ St ψ (F) h') := by
  refine calls_of mixed Tryd.func9 ?_
  rw [tronagelaw15_few_den]
  unfold tronagelaw15_few_T
  unfold tronagelaw15_few_D at hd
  have n2_ : rows_0.2.1 = List.length d_rows_0 := k1_.length
  refine s_cond hd (by rw [n2_]) (fun hb40_ hd => ?_) (fun hb40_ hd => ?_)
  · obtain rfl := Option.some.inj hd
    exact finOf_back ⟨φ, false, (Sub.refl _), rfl, rfl, s0⟩
  · obtain ⟨g3_, hx4_, hd⟩ := Option.bind_eq_some_iff.1 hd
    refine s_block (fun (y : Int × Bool × Unit) w_ g => ∃ ψ : Snap, Sub φ ψ ∧ Step.next () = g ∧ St ψ (F) w_) (g := g3_) ?_ ?_
    · refine s_forN hx4_ (fun i5_ (y : Int × Bool × Unit) w_ g => ∃ ψ : Snap, Sub φ ψ ∧ y.1 = i5_ ∧ () = g ∧ St ψ (F) w_) ((0 : Int), false, ()) rfl ⟨φ, (Sub.refl _), rfl, rfl, s0⟩ ?_ ?_
      · rintro _ z2 h11_ _ _ ⟨f8_, le9_, rfl, rfl, s10_⟩ he6_ h113_ h214_ hw12_ hb7_
        try dsimp only at he6_ h113_ h214_ hw12_
        refine t_true (by rw [n2_]; exact decide_eq_true h214_) ?_
        obtain ⟨x15_, hx16_, he6_⟩ := Option.bind_eq_some_iff.1 he6_
        obtain ⟨a17_, cs18_, ea19_, hi20_, q21_, cl22_⟩ := (k1_.mono le9_).get hx16_
        refine t_deref _ ea19_ (t_chk hi20_ ?_)
        obtain ⟨t24_, rfl, k25_⟩ := q21_
        have n26_ := k25_.length
        refine s_load (x := t24_) (cellS_heap (Sub.trans (Sub.refl _) s10_.sub) (cl22_ 0 _ rfl)) rfl ?_
        refine s_cond he6_ (by rw [n26_]) (fun hb27_ he6_ => ?_) (fun hb27_ he6_ => ?_)
        · obtain rfl := Option.some.inj he6_
          obtain rfl := hb7_ _ rfl
          try dsimp only at hd
          obtain rfl := Option.some.inj hd
          exact around_ret (meetB_ret (finOf_back ⟨f8_, false, le9_, rfl, rfl, s10_⟩))
        · obtain rfl := Option.some.inj he6_
          exact s_next ((IntKind.wrap .i64 (z2.1 + (1 : Int))), z2.2.1, ()) _ rfl rfl ⟨f8_, le9_, hw12_, rfl, s10_⟩
      · rintro _ z2 h31_ _ ⟨f28_, le29_, rfl, rfl, s30_⟩ hge32_ hr33_
        subst hr33_
        refine t_false (by rw [n2_]; exact decide_eq_false (Int.not_lt.2 hge32_)) ?_
        exact around_brk (meetB_brk (z2.1, z2.2.1, ()) rfl ⟨f28_, le29_, rfl, s30_⟩)
    · rintro z1 h34_ ⟨f35_, le36_, rfl, s37_⟩
      try dsimp only at hd
      obtain rfl := Option.some.inj hd
      exact finOf_back ⟨f35_, true, le36_, rfl, rfl, s37_⟩

noncomputable def table_trim_D (row_0 : List Int) : Option (List Int) :=
  (loop (σ := Int) (β := Int) (((List.length row_0) : Nat) : Int) fun z2 =>
    (cond (decide (z2 > (0 : Int)))
    ((idx row_0 (IntKind.wrap .i64 (z2 - (1 : Int)))).bind fun e21 =>
      some (e21 == (0 : Int)))
    (some false)).bind fun z3 =>
    cond z3
    (some (Step.next (IntKind.wrap .i64 (z2 - (1 : Int)))))
    (some (Step.done z2))).bind fun z1 =>
  (cut row_0 (0 : Int) z1).bind fun c40 =>
  (app ([] : List Int) c40).bind fun t7 =>
  some t7
theorem table_trim_sim {φ : Snap} {h : Heap} {F : List Chk} {row_0 : Slc} {d_row_0 : List Int} (k1_ : Ro.SliceIs (Ro.int .i64) φ row_0 d_row_0) (s0 : St φ (F) h) {r : List Int} (hd : table_trim_D d_row_0 = some r) :
    CallsH Tryd.prog 20 [(.slice row_0.1 row_0.2.1 row_0.2.2)] h (Back fun v h' => ∃ ψ : Snap, ∃ y : Option Addr × Nat × Nat, ∃ l55_ : List Int, Sub φ ψ ∧ v = ((.one (.atom .slice)) : Sh).val y ∧ l55_ = r ∧ Ro.SliceIs (Ro.int .i64) ψ y l55_ ∧ St ψ (F) h') := by
  refine calls_of mixed Tryd.func20 ?_
  rw [table_trim_den]
  unfold table_trim_T
  unfold table_trim_D at hd
  have n2_ : row_0.2.1 = List.length d_row_0 := k1_.length
  obtain ⟨g3_, hx4_, hd⟩ := Option.bind_eq_some_iff.1 hd
  refine s_block (fun (y : Int × Unit) w_ g => ∃ ψ : Snap, Sub φ ψ ∧ y.1 = g ∧ St ψ (F) w_) (g := g3_) ?_ ?_
  · refine s_loop hx4_ (fun (y : Int × Unit) w_ g => ∃ ψ : Snap, Sub φ ψ ∧ y.1 = g ∧ St ψ (F) w_) (((row_0.2.1 : Nat) : Int), ()) rfl ⟨φ, (Sub.refl _), (by rw [n2_]), s0⟩ ?_
    · rintro z2 h10_ _ _ ⟨f7_, le8_, rfl, s9_⟩ he5_ hb6_
      try dsimp only at he5_
      obtain ⟨g11_, hx12_, he5_⟩ := Option.bind_eq_some_iff.1 he5_
      refine s_join (fun (y : Bool × Unit) w_ g => ∃ ψ : Snap, Sub f7_ ψ ∧ y.1 = g ∧ St ψ (F) w_) (g := g11_) ?_ ?_
      · refine s_cond hx12_ rfl (fun hb22_ hx12_ => ?_) (fun hb22_ hx12_ => ?_)
        · obtain ⟨x13_, hx14_, hx12_⟩ := Option.bind_eq_some_iff.1 hx12_
          obtain ⟨a15_, cs16_, ea17_, hi18_, q19_, cl20_⟩ := (k1_.mono le8_).get hx14_
          refine t_deref _ ea17_ (t_chk hi18_ ?_)
          obtain rfl := q19_
          refine s_load (x := x13_) (cellS_heap (Sub.trans (Sub.refl _) s9_.sub) (cl20_ 0 _ rfl)) rfl ?_
          obtain rfl := Option.some.inj hx12_
          exact s_out ((x13_ == (0 : Int)), ()) rfl ⟨f7_, (Sub.refl _), rfl, s9_⟩
        · obtain rfl := Option.some.inj hx12_
          exact s_out (false, ()) rfl ⟨f7_, (Sub.refl _), rfl, s9_⟩
      · rintro z3 h23_ ⟨f24_, le25_, rfl, s26_⟩
        try dsimp only at he5_
        refine s_cond he5_ rfl (fun hb27_ he5_ => ?_) (fun hb27_ he5_ => ?_)
        · obtain rfl := Option.some.inj he5_
          exact s_next ((IntKind.wrap .i64 (z2.1 - (1 : Int))), ()) _ rfl rfl ⟨f24_, (le8_.trans le25_), rfl, s26_⟩
        · obtain rfl := Option.some.inj he5_
          obtain rfl := hb6_ _ rfl
          exact around_brk (meetB_brk (z2.1, ()) rfl ⟨f24_, (le8_.trans le25_), rfl, s26_⟩)
  · rintro z1 h28_ ⟨f29_, le30_, rfl, s31_⟩
    try dsimp only at hd
    refine s_new (vs := []) s31_ ?_
    intro r6 h34_ s33_
    obtain ⟨y35_, hy36_, hd⟩ := Option.bind_eq_some_iff.1 hd
    obtain ⟨hc37_, k38_⟩ := (k1_.mono le30_).cut (sz := 1) hy36_ rfl
    refine t_chk hc37_ ?_
    have n39_ := k38_.length
    obtain ⟨ws43_, al42_, cw41_⟩ := k38_.heap s33_.sub
    have s44_ := St.lit (r := (Ro.int .i64)) (l := ([] : List Int)) (n := 0) s33_ .nil rfl (by decide)
    obtain ⟨y45_, hy46_, hd⟩ := Option.bind_eq_some_iff.1 hd
    refine s_append (r := (Ro.int .i64)) (ms := y35_) appT_26_26 s44_ rfl cw41_ al42_ n39_.symm hy46_ ?_
    intro t7 h47_ s48_
    have n49_ := s48_.rowLen
    obtain ⟨f51_, le52_, k53_, s54_⟩ := St.freezeRow (t := t7) s48_
    obtain rfl := Option.some.inj hd
    exact finOf_back ⟨f51_, t7, y45_, (le30_.trans le52_), rfl, rfl, k53_, s54_⟩

noncomputable def table_key_D (row_0 : List Int) : Option ByteArray :=
  (forS (σ := List Int) (0 : Int) (((List.length row_0) : Nat) : Int) ([] : List Int) fun i_z2 z2 =>
    (idx row_0 i_z2).bind fun e28 =>
    (appendIntD z2 e28 (10 : Int)).bind fun t5 =>
    (app t5 ([(32 : Int)] : List Int)).bind fun t7 =>
    some t7).bind fun z1 =>
  (toStr z1).bind fun t8 =>
  some t8
theorem table_key_solo {h : Heap} {row_0 : Slc} {d_row_0 : List Int} (gk : Glob (snap h)) (k1_ : Ro.SliceIs (Ro.int .i64) (snap h) row_0 d_row_0) (s0 : St (snap h) [] h) {r : ByteArray} (hd : table_key_D d_row_0 = some r) :
    CallsH Tryd.prog 21 [(.slice row_0.1 row_0.2.1 row_0.2.2)] h (Back fun v h' => ∃ ψ : Snap, ∃ y : ByteArray, Sub (snap h) ψ ∧ v = ((.one (.atom .string)) : Sh).val y ∧ y = r ∧ St ψ [] h') := by
  refine calls_of mixed Tryd.func21 ?_
  rw [table_key_den]
  unfold table_key_T
  unfold table_key_D at hd
  have n2_ : row_0.2.1 = List.length d_row_0 := k1_.length
  have s5_ := s0.nil 5 (Ro.int .u8)
  obtain ⟨g3_, hx4_, hd⟩ := Option.bind_eq_some_iff.1 hd
  refine s_block (fun (y : Int × (Option Addr × Nat × Nat) × Unit) w_ g => ∃ ψ : Snap, ∃ l6_ : List Int, Sub (snap h) ψ ∧ ψ = (snap h) ∧ l6_ = g ∧ St ψ (⟨Rep.row 5 (Ro.int .u8), [.slice y.2.1.1 y.2.1.2.1 y.2.1.2.2], l6_⟩ :: []) w_) (g := g3_) ?_ ?_
  · refine s_forS hx4_ (fun i8_ (y : Int × (Option Addr × Nat × Nat) × Unit) w_ g => ∃ ψ : Snap, ∃ l7_ : List Int, Sub (snap h) ψ ∧ ψ = (snap h) ∧ y.1 = i8_ ∧ l7_ = g ∧ St ψ (⟨Rep.row 5 (Ro.int .u8), [.slice y.2.1.1 y.2.1.2.1 y.2.1.2.2], l7_⟩ :: []) w_) ((0 : Int), ((none, 0, 0) : Slc), ()) rfl ⟨(snap h), ([] : List Int), (Sub.refl _), rfl, rfl, rfl, s5_⟩ ?_ ?_
    · rintro _ z2 h14_ _ _ ⟨f11_, d15_, le12_, rfl, rfl, rfl, s13_⟩ he9_ h118_ h219_ hw17_
      try dsimp only at he9_ h118_ h219_ hw17_
      have n16_ := s13_.rowLen
      refine t_true (by rw [n2_]; exact decide_eq_true h219_) ?_
      obtain ⟨x20_, hx21_, he9_⟩ := Option.bind_eq_some_iff.1 he9_
      obtain ⟨a22_, cs23_, ea24_, hi25_, q26_, cl27_⟩ := (k1_.mono le12_).get hx21_
      refine t_deref _ ea24_ (t_chk hi25_ ?_)
      obtain rfl := q26_
      refine s_load (x := x20_) (cellS_heap (Sub.trans (Sub.refl _) s13_.sub) (cl27_ 0 _ rfl)) rfl ?_
      obtain ⟨r30_, hr31_, he9_⟩ := Option.bind_eq_some_iff.1 he9_
      refine s_call (appendInt_sim gk  s13_ hr31_) ?_
      rintro _ h32_ ⟨f33_, t5, d36_, le35_, rfl, rfl, rfl, s34_⟩
      refine ⟨t5, rfl, ?_⟩
      have n37_ := s34_.rowLen
      refine s_new (vs := [.int .u8 (32 : Int)]) s34_ ?_
      intro r6 h39_ s38_
      have cw40_ := St.cells s38_
      have s42_ := s38_.tail
      obtain ⟨y44_, hy45_, he9_⟩ := Option.bind_eq_some_iff.1 he9_
      refine s_append (r := (Ro.int .u8)) (ms := ([(32 : Int)] : List Int)) appT_23_23 s42_ rfl cw40_ (.cons (a := [_]) rfl .nil) rfl hy45_ ?_
      intro t7 h46_ s47_
      have n48_ := s47_.rowLen
      obtain rfl := Option.some.inj he9_
      exact s_next ((IntKind.wrap .i64 (z2.1 + (1 : Int))), t7, ()) _ rfl rfl ⟨(snap h), y44_, (le12_.trans le35_), rfl, hw17_, rfl, s47_⟩
    · rintro _ z2 h53_ ⟨f50_, d54_, le51_, rfl, rfl, rfl, s52_⟩ hge56_
      have n55_ := s52_.rowLen
      refine t_false (by rw [n2_]; exact decide_eq_false (Int.not_lt.2 hge56_)) ?_
      exact around_brk (meetB_brk (z2.1, z2.2.1, ()) rfl ⟨(snap h), d54_, le51_, rfl, rfl, s52_⟩)
  · rintro z1 h59_ ⟨f60_, d63_, le61_, rfl, rfl, s62_⟩
    try dsimp only at hd
    have n64_ := s62_.rowLen
    have cw66_ := St.bytes s62_
    obtain ⟨y67_, hy68_, hd⟩ := Option.bind_eq_some_iff.1 hd
    refine s_toString (x := y67_) Tryd.underlying23 Tryd.underlying5 Tryd.underlying9 cw66_ hy68_ ?_
    obtain rfl := Option.some.inj hd
    have s69_ := s62_.tail
    exact finOf_back ⟨(snap h), y67_, le61_, rfl, rfl, s69_⟩
theorem table_key_sim {φ : Snap} {h : Heap} {F : List Chk} {row_0 : Slc} {d_row_0 : List Int} (gk : Glob φ) (k1_ : Ro.SliceIs (Ro.int .i64) φ row_0 d_row_0) (s0 : St φ (F) h) {r : ByteArray} (hd : table_key_D d_row_0 = some r) :
    CallsH Tryd.prog 21 [(.slice row_0.1 row_0.2.1 row_0.2.2)] h (Back fun v h' => ∃ ψ : Snap, ∃ y : ByteArray, Sub φ ψ ∧ v = ((.one (.atom .string)) : Sh).val y ∧ y = r ∧ St ψ (F) h') := by
  refine CallsH.mono (table_key_solo (gk.mono s0.sub) (k1_.mono s0.sub) (Sub.refl _) hd) ?_
  rintro e h' ⟨v, rfl, ψ, y, hs, rfl, rfl, s1⟩
  exact ⟨_, rfl, φ, y, Sub.refl _, rfl, rfl, s0.keep (hs.trans s1.sub)⟩

noncomputable def table_Share_D (rows_0 : List (List Int)) : Option (List Int × List (List Int)) :=
  (forS (σ := (List (List Int) × List Int × List (ByteArray × Int))) (0 : Int) (((List.length rows_0) : Nat) : Int) (([] : List (List Int)), ([] : List Int), ([] : List (ByteArray × Int))) fun i_z3 z3 =>
    (idx rows_0 i_z3).bind fun e41 =>
    (table_trim_D e41).bind fun t6 =>
    (table_key_D t6).bind fun t7 =>
    (some (mget t7 z3.2.2)).bind fun t8 =>
    (cond (!(Option.isSome t8))
    ((table_key_D t6).bind fun t10 =>
      (app z3.1 ([t6] : List (List Int))).bind fun t13 =>
      some ((((List.length z3.1) : Nat) : Int), t13, (mset t10 (((List.length z3.1) : Nat) : Int) z3.2.2)))
    (some ((Option.getD t8 0), z3.1, z3.2.2))).bind fun z9 =>
    (app z3.2.1 ([z9.1] : List Int)).bind fun t15 =>
    some (z9.2.1, t15, z9.2.2)).bind fun z2 =>
  some (z2.2.1, z2.1)
theorem table_Share_sim {φ : Snap} {h : Heap} {F : List Chk} {rows_0 : Slc} {d_rows_0 : List (List Int)} (gk : Glob φ) (k1_ : Ro.SliceIs (Ro.list (Ro.int .i64)) φ rows_0 d_rows_0) (s0 : St φ (F) h) {r : (List Int × List (List Int))} (hd : table_Share_D d_rows_0 = some r) :
    CallsH Tryd.prog 10 [(.slice rows_0.1 rows_0.2.1 rows_0.2.2)] h (Back fun v h' => ∃ ψ : Snap, ∃ y : (Option Addr × Nat × Nat) × (Option Addr × Nat × Nat) × Unit, ∃ l157_ : List Int, ∃ l158_ : List (List Int), Sub φ ψ ∧ v = ((.tuple [(.atom .slice), (.atom .slice)]) : Sh).val y ∧ (l157_, l158_) = r ∧ Ro.SliceIs (Ro.int .i64) ψ y.1 l157_ ∧ Ro.SliceIs (Ro.list (Ro.int .i64)) ψ y.2.1 l158_ ∧ St ψ (F) h') := by
  refine calls_of mixed Tryd.func10 ?_
  rw [table_Share_den]
  unfold table_Share_T
  unfold table_Share_D at hd
  have n2_ : rows_0.2.1 = List.length d_rows_0 := k1_.length
  refine s_newmap (vv := (Ro.int .i64)) s0 ?_
  intro r1 h4_ s3_
  have s7_ := s3_.nil 26 (Ro.list (Ro.int .i64))
  have s8_ := s7_.nil 3 (Ro.int .i64)
  have s9_ := s8_.at2
  have s10_ := s9_.at1
  have s11_ := s10_.at2
  obtain ⟨g5_, hx6_, hd⟩ := Option.bind_eq_some_iff.1 hd
  refine s_block (fun (y : Int × (Option Addr × Nat × Nat) × (Option Addr × Nat × Nat) × Unit) w_ g => ∃ ψ : Snap, ∃ l12_ : List (List Int), ∃ l13_ : List Int, ∃ l14_ : List (ByteArray × Int), Sub φ ψ ∧ (l12_, l13_, l14_) = g ∧ St ψ (⟨Rep.row 26 (Ro.list (Ro.int .i64)), [.slice y.2.1.1 y.2.1.2.1 y.2.1.2.2], l12_⟩ :: ⟨Rep.row 3 (Ro.int .i64), [.slice y.2.2.1.1 y.2.2.1.2.1 y.2.2.1.2.2], l13_⟩ :: ⟨Rep.smap (Ro.int .i64), [.map (some r1)], l14_⟩ :: F) w_) (g := g5_) ?_ ?_
  · refine s_forS hx6_ (fun i18_ (y : Int × (Option Addr × Nat × Nat) × (Option Addr × Nat × Nat) × Unit) w_ g => ∃ ψ : Snap, ∃ l15_ : List (List Int), ∃ l16_ : List Int, ∃ l17_ : List (ByteArray × Int), Sub φ ψ ∧ y.1 = i18_ ∧ (l15_, l16_, l17_) = g ∧ St ψ (⟨Rep.row 26 (Ro.list (Ro.int .i64)), [.slice y.2.1.1 y.2.1.2.1 y.2.1.2.2], l15_⟩ :: ⟨Rep.row 3 (Ro.int .i64), [.slice y.2.2.1.1 y.2.2.1.2.1 y.2.2.1.2.2], l16_⟩ :: ⟨Rep.smap (Ro.int .i64), [.map (some r1)], l17_⟩ :: F) w_) ((0 : Int), ((none, 0, 0) : Slc), ((none, 0, 0) : Slc), ()) rfl ⟨φ, ([] : List (List Int)), ([] : List Int), ([] : List (ByteArray × Int)), (Sub.refl _), rfl, rfl, s11_⟩ ?_ ?_
    · rintro _ z3 h24_ _ _ ⟨f21_, d25_, d27_, d29_, le22_, rfl, rfl, s23_⟩ he19_ h131_ h232_ hw30_
      try dsimp only at he19_ h131_ h232_ hw30_
      have n26_ := s23_.rowLen
      have n28_ := s23_.at1.rowLen
      refine t_true (by rw [n2_]; exact decide_eq_true h232_) ?_
      obtain ⟨x33_, hx34_, he19_⟩ := Option.bind_eq_some_iff.1 he19_
      obtain ⟨a35_, cs36_, ea37_, hi38_, q39_, cl40_⟩ := (k1_.mono le22_).get hx34_
      refine t_deref _ ea37_ (t_chk hi38_ ?_)
      obtain ⟨t42_, rfl, k43_⟩ := q39_
      have n44_ := k43_.length
      refine s_load (x := t42_) (cellS_heap (Sub.trans (Sub.refl _) s23_.sub) (cl40_ 0 _ rfl)) rfl ?_
      obtain ⟨r45_, hr46_, he19_⟩ := Option.bind_eq_some_iff.1 he19_
      refine s_call (table_trim_sim k43_ s23_ hr46_) ?_
      rintro _ h47_ ⟨f48_, t6, d51_, le50_, rfl, rfl, k53_, s49_⟩
      refine ⟨t6, rfl, ?_⟩
      have n52_ := k53_.length
      obtain ⟨r54_, hr55_, he19_⟩ := Option.bind_eq_some_iff.1 he19_
      refine s_call (table_key_sim (gk.mono (le22_.trans le50_)) k53_ s49_ hr55_) ?_
      rintro _ h56_ ⟨f57_, t7, le59_, rfl, rfl, s58_⟩
      refine ⟨t7, rfl, ?_⟩
      obtain ⟨o60_, ho61_, he19_⟩ := Option.bind_eq_some_iff.1 he19_
      obtain rfl := Option.some.inj ho61_
      refine s_lookupI (i := Tryd.t3) Tryd.underlying43 Tryd.underlying9 (by kernel_rfl) rfl s58_.at2 ?_
      intro t8 ht62_
      have n63_ : t8.1 = (mget t7 d29_).getD 0 := by rw [ht62_]
      have n64_ : t8.2.1 = (mget t7 d29_).isSome := by rw [ht62_]
      obtain ⟨g65_, hx66_, he19_⟩ := Option.bind_eq_some_iff.1 he19_
      refine s_join (fun (y : Int × (Option Addr × Nat × Nat) × Unit) w_ g => ∃ ψ : Snap, ∃ l67_ : List (List Int), ∃ l68_ : List (ByteArray × Int), Sub f57_ ψ ∧ (y.1, l67_, l68_) = g ∧ St ψ (⟨Rep.row 26 (Ro.list (Ro.int .i64)), [.slice y.2.1.1 y.2.1.2.1 y.2.1.2.2], l67_⟩ :: ⟨Rep.smap (Ro.int .i64), [.map (some r1)], l68_⟩ :: ⟨Rep.row 3 (Ro.int .i64), [.slice z3.2.2.1.1 z3.2.2.1.2.1 z3.2.2.1.2.2], d27_⟩ :: F) w_) (g := g65_) ?_ ?_
      · refine s_cond hx66_ (by rw [n64_]) (fun hb96_ hx66_ => ?_) (fun hb96_ hx66_ => ?_)
        · obtain ⟨r69_, hr70_, hx66_⟩ := Option.bind_eq_some_iff.1 hx66_
          refine s_call (table_key_sim (gk.mono ((le22_.trans le50_).trans le59_)) (k53_.mono le59_) s58_ hr70_) ?_
          rintro _ h71_ ⟨f72_, t10, le74_, rfl, rfl, s73_⟩
          refine ⟨t10, rfl, ?_⟩
          refine s_mapset (y := (((List.length d25_) : Nat) : Int)) Tryd.underlying43 Tryd.underlying9 s73_.at2 (show _ = _ by rw [n26_]; rfl) ?_
          intro h76_ s75_
          refine s_new (vs := [.slice t6.1 t6.2.1 t6.2.2]) s75_ ?_
          intro r12 h78_ s77_
          have cw79_ := St.cells s77_
          have s81_ := s77_.tail
          have s82_ := s81_.at1
          obtain ⟨y83_, hy84_, hx66_⟩ := Option.bind_eq_some_iff.1 hx66_
          refine s_append (r := (Ro.list (Ro.int .i64))) (ms := ([d51_] : List (List Int))) appT_22_22 s82_ rfl cw79_ (.cons (a := [_]) ⟨t6, rfl, (k53_.mono (le59_.trans le74_))⟩ .nil) rfl hy84_ ?_
          intro t13 h85_ s86_
          have n87_ := s86_.rowLen
          have s89_ := s86_.at2
          have s90_ := s89_.at2
          have s91_ := s90_.at2
          obtain rfl := Option.some.inj hx66_
          exact s_out (((z3.2.1.2.1 : Nat) : Int), t13, ()) rfl ⟨f72_, y83_, (mset t10 (((List.length d25_) : Nat) : Int) d29_), le74_, (by rw [n26_]), s91_⟩
        · have s93_ := s58_.at1
          have s94_ := s93_.at2
          have s95_ := s94_.at2
          obtain rfl := Option.some.inj hx66_
          exact s_out (t8.1, z3.2.1, ()) rfl ⟨f57_, d25_, d29_, (Sub.refl _), (by rw [n63_]), s95_⟩
      · rintro z9 h97_ ⟨f98_, d101_, d103_, le99_, rfl, s100_⟩
        try dsimp only at he19_
        have n102_ := s100_.rowLen
        refine s_new (vs := [.int .i64 z9.1]) s100_ ?_
        intro r14 h105_ s104_
        have cw106_ := St.cells s104_
        have s108_ := s104_.tail
        have s109_ := s108_.at2
        obtain ⟨y110_, hy111_, he19_⟩ := Option.bind_eq_some_iff.1 he19_
        refine s_append (r := (Ro.int .i64)) (ms := ([z9.1] : List Int)) appT_26_26 s109_ rfl cw106_ (.cons (a := [_]) rfl .nil) rfl hy111_ ?_
        intro t15 h112_ s113_
        have n114_ := s113_.rowLen
        have s115_ := s113_.at1
        have s116_ := s115_.at1
        have s117_ := s116_.at2
        have s118_ := s117_.at1
        have s119_ := s118_.at2
        obtain rfl := Option.some.inj he19_
        exact s_next ((IntKind.wrap .i64 (z3.1 + (1 : Int))), z9.2.1, t15, ()) _ rfl rfl ⟨f98_, d101_, y110_, d103_, (((le22_.trans le50_).trans le59_).trans le99_), hw30_, rfl, s119_⟩
    · rintro _ z3 h123_ ⟨f120_, d124_, d126_, d128_, le121_, rfl, rfl, s122_⟩ hge129_
      have n125_ := s122_.rowLen
      have n127_ := s122_.at1.rowLen
      refine t_false (by rw [n2_]; exact decide_eq_false (Int.not_lt.2 hge129_)) ?_
      have s132_ := s122_.at1
      have s133_ := s132_.at2
      have s134_ := s133_.at1
      have s135_ := s134_.at2
      exact around_brk (meetB_brk (z3.1, z3.2.1, z3.2.2.1, ()) rfl ⟨f120_, d124_, d126_, d128_, le121_, rfl, s135_⟩)
  · rintro z2 h136_ ⟨f137_, d140_, d142_, d144_, le138_, rfl, s139_⟩
    try dsimp only at hd
    have n141_ := s139_.rowLen
    have n143_ := s139_.at1.rowLen
    have s146_ := s139_.at1
    obtain ⟨f147_, le148_, k149_, s150_⟩ := St.freezeRow (t := z2.2.2.1) s146_
    obtain ⟨f152_, le153_, k154_, s155_⟩ := St.freezeRow (t := z2.2.1) s150_
    obtain rfl := Option.some.inj hd
    have s156_ := s155_.tail
    exact finOf_back ⟨f152_, (z2.2.2.1, z2.2.1, ()), d142_, d140_, ((le138_.trans le148_).trans le153_), rfl, rfl, (k149_.mono le153_), k154_, s156_⟩

noncomputable def table_Packed_owner_D (p_0 : (List Int × List Int × List Int × List Int)) (at_1 : Int) : Option Int :=
  cond (decide (at_1 ≥ (((List.length p_0.2.2.2) : Nat) : Int)))
  (some (0 : Int))
  ((idx p_0.2.2.2 at_1).bind fun e56 =>
    some e56)
theorem table_Packed_owner_sim {φ : Snap} {h : Heap} {F : List Chk} {p_0 : Option Addr} {d_p_0 : (List Int × List Int × List Int × List Int)} {at_1 : Int}  (s0 : St φ (⟨Rep.obj 34 (Rep.prod (Rep.ro (Ro.list (Ro.int .i64))) (Rep.prod (Rep.row 3 (Ro.int .i64)) (Rep.prod (Rep.row 3 (Ro.int .i64)) (Rep.row 3 (Ro.int .i64))))), [.pointer p_0], d_p_0⟩ :: F) h) {r : Int} (hd : table_Packed_owner_D d_p_0 at_1 = some r) :
    CallsH Tryd.prog 26 [(.pointer p_0), (.int .i64 at_1)] h (Back fun v h' => ∃ ψ : Snap, ∃ y : Int, Sub φ ψ ∧ v = ((.one (.atom (.int .i64))) : Sh).val y ∧ y = r ∧ St ψ (⟨Rep.obj 34 (Rep.prod (Rep.ro (Ro.list (Ro.int .i64))) (Rep.prod (Rep.row 3 (Ro.int .i64)) (Rep.prod (Rep.row 3 (Ro.int .i64)) (Rep.row 3 (Ro.int .i64))))), [.pointer p_0], d_p_0⟩ :: F) h') := by
  refine calls_of mixed Tryd.func26 ?_
  rw [table_Packed_owner_den]
  unfold table_Packed_owner_T
  unfold table_Packed_owner_D at hd
  obtain ⟨b1_, vs2_, e3_, hl4_, s5_⟩ := s0.open
  obtain rfl : p_0 = some ⟨b1_, 0, none⟩ := by simpa using e3_
  clear e3_
  have s6_ := s5_.at1
  obtain ⟨v7_, w8_, rfl, hl10_, s9_⟩ := s6_.pair
  obtain ⟨g11_, s12_⟩ := s9_.ro
  obtain ⟨t13_, e14_, k15_⟩ := g11_
  subst e14_
  have n16_ := k15_.length
  obtain ⟨v17_, w18_, rfl, hl20_, s19_⟩ := s12_.pair
  obtain ⟨t21_, e22_⟩ := s19_.rowCs
  subst e22_
  have n23_ := s19_.rowLen
  have s24_ := s19_.at1
  obtain ⟨v25_, w26_, rfl, hl28_, s27_⟩ := s24_.pair
  obtain ⟨t29_, e30_⟩ := s27_.rowCs
  subst e30_
  have n31_ := s27_.rowLen
  have s32_ := s27_.at1
  obtain ⟨t33_, e34_⟩ := s32_.rowCs
  subst e34_
  have n35_ := s32_.rowLen
  have s36_ : St φ (⟨Rep.row 3 (Ro.int .i64), [.slice t33_.1 t33_.2.1 t33_.2.2], d_p_0.2.2.2⟩ :: ⟨Rep.row 3 (Ro.int .i64), [.slice t29_.1 t29_.2.1 t29_.2.2], d_p_0.2.2.1⟩ :: ⟨Rep.row 3 (Ro.int .i64), [.slice t21_.1 t21_.2.1 t21_.2.2], d_p_0.2.1⟩ :: ⟨Rep.raw 34, [.pointer (some ⟨b1_, 0, none⟩)], [.slice t13_.1 t13_.2.1 t13_.2.2, .slice t21_.1 t21_.2.1 t21_.2.2, .slice t29_.1 t29_.2.1 t29_.2.2, .slice t33_.1 t33_.2.1 t33_.2.2]⟩ :: F) _ := s32_
  refine t_deref _ rfl ?_
  refine s_loadR (b := b1_) (j := 3) (x := t33_) s36_.at3 rfl ?_
  refine s_cond hd (by rw [n35_]) (fun hb68_ hd => ?_) (fun hb68_ hd => ?_)
  · have s37_ := s36_.at2
    have s38_ := s37_.at2
    have s39_ := s38_.at2
    have s41_ := s39_.at1
    have s42_ := St.unpair s41_
    have s43_ := s42_.at1
    have s44_ := St.unpair s43_
    have s45_ := St.unro (r := (Ro.list (Ro.int .i64))) (cs := [.slice t13_.1 t13_.2.1 t13_.2.2]) (x := d_p_0.1) s44_ ⟨t13_, rfl, k15_⟩
    have s46_ := St.unpair s45_
    have s47_ : St φ (⟨Rep.obj 34 (Rep.prod (Rep.ro (Ro.list (Ro.int .i64))) (Rep.prod (Rep.row 3 (Ro.int .i64)) (Rep.prod (Rep.row 3 (Ro.int .i64)) (Rep.row 3 (Ro.int .i64))))), [.pointer (some ⟨b1_, 0, none⟩)], (d_p_0.1, d_p_0.2.1, d_p_0.2.2.1, d_p_0.2.2.2)⟩ :: F) _ := St.shut s46_.at1
    obtain rfl := Option.some.inj hd
    exact finOf_back ⟨φ, (0 : Int), (Sub.refl _), rfl, rfl, s47_⟩
  · refine t_deref _ rfl ?_
    refine s_loadR (b := b1_) (j := 3) (x := t33_) s36_.at3 rfl ?_
    obtain ⟨x48_, hx49_, hd⟩ := Option.bind_eq_some_iff.1 hd
    obtain ⟨a50_, cs51_, ea52_, hi53_, q54_, cl55_⟩ := (s36_).get hx49_
    refine t_deref _ ea52_ (t_chk hi53_ ?_)
    obtain rfl := q54_
    refine s_load (x := x48_) (cl55_ 0 _ rfl) rfl ?_
    have s57_ := s36_.at2
    have s58_ := s57_.at2
    have s59_ := s58_.at2
    have s61_ := s59_.at1
    have s62_ := St.unpair s61_
    have s63_ := s62_.at1
    have s64_ := St.unpair s63_
    have s65_ := St.unro (r := (Ro.list (Ro.int .i64))) (cs := [.slice t13_.1 t13_.2.1 t13_.2.2]) (x := d_p_0.1) s64_ ⟨t13_, rfl, k15_⟩
    have s66_ := St.unpair s65_
    have s67_ : St φ (⟨Rep.obj 34 (Rep.prod (Rep.ro (Ro.list (Ro.int .i64))) (Rep.prod (Rep.row 3 (Ro.int .i64)) (Rep.prod (Rep.row 3 (Ro.int .i64)) (Rep.row 3 (Ro.int .i64))))), [.pointer (some ⟨b1_, 0, none⟩)], (d_p_0.1, d_p_0.2.1, d_p_0.2.2.1, d_p_0.2.2.2)⟩ :: F) _ := St.shut s66_.at1
    obtain rfl := Option.some.inj hd
    exact finOf_back ⟨φ, x48_, (Sub.refl _), rfl, rfl, s67_⟩

noncomputable def table_Packed_fit_D (p_0 : (List Int × List Int × List Int × List Int)) (row_1 : List Int) : Option Int :=
  (loop (σ := Int) (β := Int) (0 : Int) fun z1 =>
    (((forN (σ := Unit) (β := Unit) (0 : Int) (((List.length row_1) : Nat) : Int) () fun i_z4 z4 =>
      (idx row_1 i_z4).bind fun e33 =>
      (cond (e33 != (0 : Int))
      ((table_Packed_owner_D p_0 (IntKind.wrap .i64 (z1 + i_z4))).bind fun t8 =>
        some (t8 != (0 : Int)))
      (some false)).bind fun z7 =>
      cond z7
      (some (Step.done ()))
      (some (Step.next ()))).bind fun e_z3 => match e_z3 with
    | .next z3 =>
      some (Step.done z1)
    | .done q59 => some (Step.next q59)) : Option (Step Unit Int)).bind fun e_z2 => match e_z2 with
    | .next z2 =>
      some (Step.next (IntKind.wrap .i64 (z1 + (1 : Int))))
    | .done q64 => some (Step.done q64)).bind fun q65 =>
  some q65
theorem table_Packed_fit_sim {φ : Snap} {h : Heap} {F : List Chk} {p_0 : Option Addr} {d_p_0 : (List Int × List Int × List Int × List Int)} {row_1 : Slc} {d_row_1 : List Int} (k1_ : Ro.SliceIs (Ro.int .i64) φ row_1 d_row_1) (s0 : St φ (⟨Rep.obj 34 (Rep.prod (Rep.ro (Ro.list (Ro.int .i64))) (Rep.prod (Rep.row 3 (Ro.int .i64)) (Rep.prod (Rep.row 3 (Ro.int .i64)) (Rep.row 3 (Ro.int .i64))))), [.pointer p_0], d_p_0⟩ :: F) h) {r : Int} (hd : table_Packed_fit_D d_p_0 d_row_1 = some r) :
    CallsH Tryd.prog 22 [(.pointer p_0), (.slice row_1.1 row_1.2.1 row_1.2.2)] h (Back fun v h' => ∃ ψ : Snap, ∃ y : Int, Sub φ ψ ∧ v = ((.one (.atom (.int .i64))) : Sh).val y ∧ y = r ∧ St ψ (⟨Rep.obj 34 (Rep.prod (Rep.ro (Ro.list (Ro.int .i64))) (Rep.prod (Rep.row 3 (Ro.int .i64)) (Rep.prod (Rep.row 3 (Ro.int .i64)) (Rep.row 3 (Ro.int .i64))))), [.pointer p_0], d_p_0⟩ :: F) h') := by
  refine calls_of mixed Tryd.func22 ?_
  rw [table_Packed_fit_den]
  unfold table_Packed_fit_T
  unfold table_Packed_fit_D at hd
  have n2_ : row_1.2.1 = List.length d_row_1 := k1_.length
  obtain ⟨g3_, hx4_, hd⟩ := Option.bind_eq_some_iff.1 hd
  refine s_loop hx4_ (fun (y : Int × Int × Unit) w_ g => ∃ ψ : Snap, Sub φ ψ ∧ y.1 = g ∧ St ψ (⟨Rep.obj 34 (Rep.prod (Rep.ro (Ro.list (Ro.int .i64))) (Rep.prod (Rep.row 3 (Ro.int .i64)) (Rep.prod (Rep.row 3 (Ro.int .i64)) (Rep.row 3 (Ro.int .i64))))), [.pointer p_0], d_p_0⟩ :: F) w_) ((0 : Int), (0 : Int), ()) rfl ⟨φ, (Sub.refl _), rfl, s0⟩ ?_
  rintro z1 h10_ _ _ ⟨f7_, le8_, rfl, s9_⟩ he5_ hb6_
  try dsimp only at he5_
  obtain ⟨g11_, hx12_, he5_⟩ := Option.bind_eq_some_iff.1 he5_
  refine s_block (fun (y : Int × Unit) w_ g => ∃ ψ : Snap, Sub f7_ ψ ∧ Step.next () = g ∧ St ψ (⟨Rep.obj 34 (Rep.prod (Rep.ro (Ro.list (Ro.int .i64))) (Rep.prod (Rep.row 3 (Ro.int .i64)) (Rep.prod (Rep.row 3 (Ro.int .i64)) (Rep.row 3 (Ro.int .i64))))), [.pointer p_0], d_p_0⟩ :: F) w_) (g := g11_) ?_ ?_
  · obtain ⟨g13_, hx14_, hx12_⟩ := Option.bind_eq_some_iff.1 hx12_
    refine s_block (fun (y : Int × Unit) w_ g => ∃ ψ : Snap, Sub f7_ ψ ∧ Step.next () = g ∧ St ψ (⟨Rep.obj 34 (Rep.prod (Rep.ro (Ro.list (Ro.int .i64))) (Rep.prod (Rep.row 3 (Ro.int .i64)) (Rep.prod (Rep.row 3 (Ro.int .i64)) (Rep.row 3 (Ro.int .i64))))), [.pointer p_0], d_p_0⟩ :: F) w_) (g := g13_) ?_ ?_
    · refine s_forN hx14_ (fun i15_ (y : Int × Unit) w_ g => ∃ ψ : Snap, Sub f7_ ψ ∧ y.1 = i15_ ∧ () = g ∧ St ψ (⟨Rep.obj 34 (Rep.prod (Rep.ro (Ro.list (Ro.int .i64))) (Rep.prod (Rep.row 3 (Ro.int .i64)) (Rep.prod (Rep.row 3 (Ro.int .i64)) (Rep.row 3 (Ro.int .i64))))), [.pointer p_0], d_p_0⟩ :: F) w_) ((0 : Int), ()) rfl ⟨f7_, (Sub.refl _), rfl, rfl, s9_⟩ ?_ ?_
      · rintro _ z4 h21_ _ _ ⟨f18_, le19_, rfl, rfl, s20_⟩ he16_ h123_ h224_ hw22_ hb17_
        try dsimp only at he16_ h123_ h224_ hw22_
        refine t_true (by rw [n2_]; exact decide_eq_true h224_) ?_
        obtain ⟨x25_, hx26_, he16_⟩ := Option.bind_eq_some_iff.1 he16_
        obtain ⟨a27_, cs28_, ea29_, hi30_, q31_, cl32_⟩ := (k1_.mono (le8_.trans le19_)).get hx26_
        refine t_deref _ ea29_ (t_chk hi30_ ?_)
        obtain rfl := q31_
        refine s_load (x := x25_) (cellS_heap (Sub.trans (Sub.refl _) s20_.sub) (cl32_ 0 _ rfl)) rfl ?_
        obtain ⟨g34_, hx35_, he16_⟩ := Option.bind_eq_some_iff.1 he16_
        refine s_join (fun (y : Bool × Unit) w_ g => ∃ ψ : Snap, Sub f18_ ψ ∧ y.1 = g ∧ St ψ (⟨Rep.obj 34 (Rep.prod (Rep.ro (Ro.list (Ro.int .i64))) (Rep.prod (Rep.row 3 (Ro.int .i64)) (Rep.prod (Rep.row 3 (Ro.int .i64)) (Rep.row 3 (Ro.int .i64))))), [.pointer p_0], d_p_0⟩ :: F) w_) (g := g34_) ?_ ?_
        · refine s_cond hx35_ rfl (fun hb42_ hx35_ => ?_) (fun hb42_ hx35_ => ?_)
          · obtain ⟨r36_, hr37_, hx35_⟩ := Option.bind_eq_some_iff.1 hx35_
            refine s_call (table_Packed_owner_sim  s20_ hr37_) ?_
            rintro _ h38_ ⟨f39_, t8, le41_, rfl, rfl, s40_⟩
            refine ⟨t8, rfl, ?_⟩
            obtain rfl := Option.some.inj hx35_
            exact s_out ((t8 != (0 : Int)), ()) rfl ⟨f39_, le41_, rfl, s40_⟩
          · obtain rfl := Option.some.inj hx35_
            exact s_out (false, ()) rfl ⟨f18_, (Sub.refl _), rfl, s20_⟩
        · rintro z7 h43_ ⟨f44_, le45_, rfl, s46_⟩
          try dsimp only at he16_
          refine s_cond he16_ rfl (fun hb47_ he16_ => ?_) (fun hb47_ he16_ => ?_)
          · obtain rfl := Option.some.inj he16_
            obtain rfl := hb17_ _ rfl
            try dsimp only at hx12_
            obtain rfl := Option.some.inj hx12_
            exact around_brk (meetB_other rfl (meetB_brk (z1.2.1, ()) rfl ⟨f44_, (le19_.trans le45_), rfl, s46_⟩))
          · obtain rfl := Option.some.inj he16_
            exact s_next ((IntKind.wrap .i64 (z4.1 + (1 : Int))), ()) _ rfl rfl ⟨f44_, (le19_.trans le45_), hw22_, rfl, s46_⟩
      · rintro _ z4 h51_ _ ⟨f48_, le49_, rfl, rfl, s50_⟩ hge52_ hr53_
        subst hr53_
        refine t_false (by rw [n2_]; exact decide_eq_false (Int.not_lt.2 hge52_)) ?_
        exact around_brk (meetB_brk (z4.1, ()) rfl ⟨f48_, le49_, rfl, s50_⟩)
    · rintro z3 h54_ ⟨f55_, le56_, rfl, s57_⟩
      try dsimp only at hx12_
      obtain rfl := Option.some.inj hx12_
      try dsimp only at he5_
      obtain rfl := Option.some.inj he5_
      obtain rfl := hb6_ _ rfl
      try dsimp only at hd
      obtain rfl := Option.some.inj hd
      exact meetB_ret (around_ret (finOf_back ⟨f55_, z1.1, (le8_.trans le56_), rfl, rfl, s57_⟩))
  · rintro z2 h60_ ⟨f61_, le62_, rfl, s63_⟩
    try dsimp only at he5_
    obtain rfl := Option.some.inj he5_
    exact s_next ((IntKind.wrap .i64 (z1.1 + (1 : Int))), z2.1, ()) _ rfl rfl ⟨f61_, (le8_.trans le62_), rfl, s63_⟩

noncomputable def table_Packed_lay_D (p_0 : (List Int × List Int × List Int × List Int)) (row_1 : List Int) (at_2 : Int) (id_3 : Int) : Option (List Int × List Int × List Int × List Int) :=
  (forS (σ := (List Int × List Int × List Int × List Int)) (0 : Int) (((List.length row_1) : Nat) : Int) p_0 fun i_z2 z2 =>
    ((idx row_1 i_z2).bind fun e29 =>
    cond (e29 == (0 : Int))
    (some z2)
    ((loop (σ := (List Int × List Int × List Int × List Int)) (β := (List Int × List Int × List Int × List Int)) z2 fun z7 =>
        cond (decide ((((List.length z7.2.2.1) : Nat) : Int) ≤ (IntKind.wrap .i64 (at_2 + i_z2))))
        ((app z7.2.2.1 ([(0 : Int)] : List Int)).bind fun t15 =>
          (app z7.2.2.2 ([(0 : Int)] : List Int)).bind fun t17 =>
          some (Step.next (z7.1, z7.2.1, t15, t17)))
        (some (Step.done (z7.1, z7.2.1, z7.2.2.1, z7.2.2.2)))).bind fun z6 =>
      (setI z6.2.2.1 (IntKind.wrap .i64 (at_2 + i_z2)) e29).bind fun m252 =>
      (setI z6.2.2.2 (IntKind.wrap .i64 (at_2 + i_z2)) (IntKind.wrap .i64 (id_3 + (1 : Int)))).bind fun m267 =>
      some (z6.1, z6.2.1, m252, m267))).bind fun z3 =>
    some z3).bind fun z1 =>
  some z1
theorem table_Packed_lay_sim {φ : Snap} {h : Heap} {F : List Chk} {p_0 : Option Addr} {d_p_0 : (List Int × List Int × List Int × List Int)} {row_1 : Slc} {d_row_1 : List Int} {at_2 : Int} {id_3 : Int} (k1_ : Ro.SliceIs (Ro.int .i64) φ row_1 d_row_1) (s0 : St φ (⟨Rep.obj 34 (Rep.prod (Rep.ro (Ro.list (Ro.int .i64))) (Rep.prod (Rep.row 3 (Ro.int .i64)) (Rep.prod (Rep.row 3 (Ro.int .i64)) (Rep.row 3 (Ro.int .i64))))), [.pointer p_0], d_p_0⟩ :: F) h) {r : (List Int × List Int × List Int × List Int)} (hd : table_Packed_lay_D d_p_0 d_row_1 at_2 id_3 = some r) :
    CallsH Tryd.prog 23 [(.pointer p_0), (.slice row_1.1 row_1.2.1 row_1.2.2), (.int .i64 at_2), (.int .i64 id_3)] h (Back fun v h' => ∃ ψ : Snap, ∃ y : Unit, ∃ l300_ : (List Int × List Int × List Int × List Int), Sub φ ψ ∧ v = ((.tuple []) : Sh).val y ∧ l300_ = r ∧ St ψ (⟨Rep.obj 34 (Rep.prod (Rep.ro (Ro.list (Ro.int .i64))) (Rep.prod (Rep.row 3 (Ro.int .i64)) (Rep.prod (Rep.row 3 (Ro.int .i64)) (Rep.row 3 (Ro.int .i64))))), [.pointer p_0], l300_⟩ :: F) h') := by
  refine calls_of mixed Tryd.func23 ?_
  rw [table_Packed_lay_den]
  unfold table_Packed_lay_T
  unfold table_Packed_lay_D at hd
  have n2_ : row_1.2.1 = List.length d_row_1 := k1_.length
  obtain ⟨g3_, hx4_, hd⟩ := Option.bind_eq_some_iff.1 hd
  refine s_block (fun (y : Int × Unit) w_ g => ∃ ψ : Snap, ∃ l5_ : (List Int × List Int × List Int × List Int), Sub φ ψ ∧ l5_ = g ∧ St ψ (⟨Rep.obj 34 (Rep.prod (Rep.ro (Ro.list (Ro.int .i64))) (Rep.prod (Rep.row 3 (Ro.int .i64)) (Rep.prod (Rep.row 3 (Ro.int .i64)) (Rep.row 3 (Ro.int .i64))))), [.pointer p_0], l5_⟩ :: F) w_) (g := g3_) ?_ ?_
  · refine s_forS hx4_ (fun i7_ (y : Int × Unit) w_ g => ∃ ψ : Snap, ∃ l6_ : (List Int × List Int × List Int × List Int), Sub φ ψ ∧ y.1 = i7_ ∧ l6_ = g ∧ St ψ (⟨Rep.obj 34 (Rep.prod (Rep.ro (Ro.list (Ro.int .i64))) (Rep.prod (Rep.row 3 (Ro.int .i64)) (Rep.prod (Rep.row 3 (Ro.int .i64)) (Rep.row 3 (Ro.int .i64))))), [.pointer p_0], l6_⟩ :: F) w_) ((0 : Int), ()) rfl ⟨φ, d_p_0, (Sub.refl _), rfl, rfl, s0⟩ ?_ ?_
    · rintro _ z2 h13_ _ _ ⟨f10_, d14_, le11_, rfl, rfl, s12_⟩ he8_ h116_ h217_ hw15_
      try dsimp only at he8_ h116_ h217_ hw15_
      refine t_true (by rw [n2_]; exact decide_eq_true h217_) ?_
      obtain ⟨g18_, hx19_, he8_⟩ := Option.bind_eq_some_iff.1 he8_
      refine s_block (fun (y : Unit) w_ g => ∃ ψ : Snap, ∃ l20_ : (List Int × List Int × List Int × List Int), Sub f10_ ψ ∧ l20_ = g ∧ St ψ (⟨Rep.obj 34 (Rep.prod (Rep.ro (Ro.list (Ro.int .i64))) (Rep.prod (Rep.row 3 (Ro.int .i64)) (Rep.prod (Rep.row 3 (Ro.int .i64)) (Rep.row 3 (Ro.int .i64))))), [.pointer p_0], l20_⟩ :: F) w_) (g := g18_) ?_ ?_
      · obtain ⟨x21_, hx22_, hx19_⟩ := Option.bind_eq_some_iff.1 hx19_
        obtain ⟨a23_, cs24_, ea25_, hi26_, q27_, cl28_⟩ := (k1_.mono le11_).get hx22_
        refine t_deref _ ea25_ (t_chk hi26_ ?_)
        obtain rfl := q27_
        refine s_load (x := x21_) (cellS_heap (Sub.trans (Sub.refl _) s12_.sub) (cl28_ 0 _ rfl)) rfl ?_
        refine s_cond hx19_ rfl (fun hb281_ hx19_ => ?_) (fun hb281_ hx19_ => ?_)
        · obtain rfl := Option.some.inj hx19_
          exact meetB_brk (()) rfl ⟨f10_, d14_, (Sub.refl _), rfl, s12_⟩
        · obtain ⟨g30_, hx31_, hx19_⟩ := Option.bind_eq_some_iff.1 hx19_
          refine s_block (fun (y : Unit) w_ g => ∃ ψ : Snap, ∃ l32_ : (List Int × List Int × List Int × List Int), Sub f10_ ψ ∧ l32_ = g ∧ St ψ (⟨Rep.obj 34 (Rep.prod (Rep.ro (Ro.list (Ro.int .i64))) (Rep.prod (Rep.row 3 (Ro.int .i64)) (Rep.prod (Rep.row 3 (Ro.int .i64)) (Rep.row 3 (Ro.int .i64))))), [.pointer p_0], l32_⟩ :: F) w_) (g := g30_) ?_ ?_
          · refine s_loop hx31_ (fun (y : Unit) w_ g => ∃ ψ : Snap, ∃ l33_ : (List Int × List Int × List Int × List Int), Sub f10_ ψ ∧ l33_ = g ∧ St ψ (⟨Rep.obj 34 (Rep.prod (Rep.ro (Ro.list (Ro.int .i64))) (Rep.prod (Rep.row 3 (Ro.int .i64)) (Rep.prod (Rep.row 3 (Ro.int .i64)) (Rep.row 3 (Ro.int .i64))))), [.pointer p_0], l33_⟩ :: F) w_) (()) rfl ⟨f10_, d14_, (Sub.refl _), rfl, s12_⟩ ?_
            · rintro z7 h39_ _ _ ⟨f36_, d40_, le37_, rfl, s38_⟩ he34_ hb35_
              try dsimp only at he34_
              obtain ⟨b41_, vs42_, e43_, hl44_, s45_⟩ := s38_.open
              obtain rfl : p_0 = some ⟨b41_, 0, none⟩ := by simpa using e43_
              clear e43_
              have s46_ := s45_.at1
              obtain ⟨v47_, w48_, rfl, hl50_, s49_⟩ := s46_.pair
              obtain ⟨g51_, s52_⟩ := s49_.ro
              obtain ⟨t53_, e54_, k55_⟩ := g51_
              subst e54_
              have n56_ := k55_.length
              obtain ⟨v57_, w58_, rfl, hl60_, s59_⟩ := s52_.pair
              obtain ⟨t61_, e62_⟩ := s59_.rowCs
              subst e62_
              have n63_ := s59_.rowLen
              have s64_ := s59_.at1
              obtain ⟨v65_, w66_, rfl, hl68_, s67_⟩ := s64_.pair
              obtain ⟨t69_, e70_⟩ := s67_.rowCs
              subst e70_
              have n71_ := s67_.rowLen
              have s72_ := s67_.at1
              obtain ⟨t73_, e74_⟩ := s72_.rowCs
              subst e74_
              have n75_ := s72_.rowLen
              have s76_ : St f36_ (⟨Rep.row 3 (Ro.int .i64), [.slice t73_.1 t73_.2.1 t73_.2.2], d40_.2.2.2⟩ :: ⟨Rep.row 3 (Ro.int .i64), [.slice t69_.1 t69_.2.1 t69_.2.2], d40_.2.2.1⟩ :: ⟨Rep.row 3 (Ro.int .i64), [.slice t61_.1 t61_.2.1 t61_.2.2], d40_.2.1⟩ :: ⟨Rep.raw 34, [.pointer (some ⟨b41_, 0, none⟩)], [.slice t53_.1 t53_.2.1 t53_.2.2, .slice t61_.1 t61_.2.1 t61_.2.2, .slice t69_.1 t69_.2.1 t69_.2.2, .slice t73_.1 t73_.2.1 t73_.2.2]⟩ :: F) _ := s72_
              refine t_deref _ rfl ?_
              refine s_loadR (b := b41_) (j := 2) (x := t69_) s76_.at3 rfl ?_
              refine s_cond he34_ (by rw [n71_]) (fun hb197_ he34_ => ?_) (fun hb197_ he34_ => ?_)
              · refine t_deref _ rfl ?_
                refine s_loadR (b := b41_) (j := 2) (x := t69_) s76_.at3 rfl ?_
                refine t_deref _ rfl ?_
                refine s_loadR (b := b41_) (j := 3) (x := t73_) s76_.at3 rfl ?_
                refine t_both ?_ ?_
                · refine s_new (vs := [.int .i64 (0 : Int)]) s76_ ?_
                  intro r14 h78_ s77_
                  refine t_still (St.cell (b := b41_) (j := 3) s77_.at4 rfl) ?_
                  refine t_still (St.cell (b := b41_) (j := 2) s77_.at4 rfl) ?_
                  refine t_both ?_ ?_
                  · have cw79_ := St.cells s77_
                    have s81_ := s77_.tail
                    have s82_ := s81_.at1
                    obtain ⟨y83_, hy84_, he34_⟩ := Option.bind_eq_some_iff.1 he34_
                    refine s_append (r := (Ro.int .i64)) (ms := ([(0 : Int)] : List Int)) appT_26_26 s82_ rfl cw79_ (.cons (a := [_]) rfl .nil) rfl hy84_ ?_
                    intro t15 h85_ s86_
                    have n87_ := s86_.rowLen
                    refine t_still (St.cell (b := b41_) (j := 3) s86_.at3 rfl) ?_
                    refine s_new (vs := [.int .i64 (0 : Int)]) s86_ ?_
                    intro r16 h89_ s88_
                    refine t_still (St.cell (b := b41_) (j := 3) s88_.at4 rfl) ?_
                    have cw90_ := St.cells s88_
                    have s92_ := s88_.tail
                    have s93_ := s92_.at1
                    obtain ⟨y94_, hy95_, he34_⟩ := Option.bind_eq_some_iff.1 he34_
                    refine s_append (r := (Ro.int .i64)) (ms := ([(0 : Int)] : List Int)) appT_26_26 s93_ rfl cw90_ (.cons (a := [_]) rfl .nil) rfl hy95_ ?_
                    intro t17 h96_ s97_
                    have n98_ := s97_.rowLen
                    refine t_deref _ rfl ?_
                    refine s_put (b := b41_) (j := 2) (v := .slice t15.1 t15.2.1 t15.2.2) s97_.at3 rfl (show (2 : Nat) < 4 by decide) ?_
                    intro h100_ s99_
                    refine t_deref _ rfl ?_
                    refine s_put (b := b41_) (j := 3) (v := .slice t17.1 t17.2.1 t17.2.2) s99_ rfl (show (3 : Nat) < 4 by decide) ?_
                    intro h102_ s101_
                    have s103_ := s101_.at3
                    have s104_ := s103_.at3
                    have s105_ := s104_.at3
                    have s107_ := s105_.at1
                    have s108_ := St.unpair s107_
                    have s109_ := s108_.at1
                    have s110_ := St.unpair s109_
                    have s111_ := St.unro (r := (Ro.list (Ro.int .i64))) (cs := [.slice t53_.1 t53_.2.1 t53_.2.2]) (x := d40_.1) s110_ ⟨t53_, rfl, k55_⟩
                    have s112_ := St.unpair s111_
                    have s113_ : St f36_ (⟨Rep.obj 34 (Rep.prod (Rep.ro (Ro.list (Ro.int .i64))) (Rep.prod (Rep.row 3 (Ro.int .i64)) (Rep.prod (Rep.row 3 (Ro.int .i64)) (Rep.row 3 (Ro.int .i64))))), [.pointer (some ⟨b41_, 0, none⟩)], (d40_.1, d40_.2.1, y83_, y94_)⟩ :: F) _ := St.shut s112_.at1
                    obtain rfl := Option.some.inj he34_
                    exact s_next (()) _ rfl rfl ⟨f36_, (d40_.1, d40_.2.1, y83_, y94_), le37_, rfl, s113_⟩
                  · refine s_new (vs := [.int .i64 (0 : Int)]) s77_ ?_
                    intro r20 h115_ s114_
                    refine t_still (St.cell (b := b41_) (j := 3) s114_.at5 rfl) ?_
                    refine t_still (St.cell (b := b41_) (j := 2) s114_.at5 rfl) ?_
                    have cw116_ := St.cells s114_.at1
                    have s118_ := s114_.at1.tail
                    have s119_ := s118_.at2
                    obtain ⟨y120_, hy121_, he34_⟩ := Option.bind_eq_some_iff.1 he34_
                    refine s_append (r := (Ro.int .i64)) (ms := ([(0 : Int)] : List Int)) appT_26_26 s119_ rfl cw116_ (.cons (a := [_]) rfl .nil) rfl hy121_ ?_
                    intro t21 h122_ s123_
                    have n124_ := s123_.rowLen
                    refine t_still (St.cell (b := b41_) (j := 3) s123_.at4 rfl) ?_
                    have cw125_ := St.cells s123_.at1
                    have s127_ := s123_.at1.tail
                    have s128_ := s127_.at1
                    obtain ⟨y129_, hy130_, he34_⟩ := Option.bind_eq_some_iff.1 he34_
                    refine s_append (r := (Ro.int .i64)) (ms := ([(0 : Int)] : List Int)) appT_26_26 s128_ rfl cw125_ (.cons (a := [_]) rfl .nil) rfl hy130_ ?_
                    intro t22 h131_ s132_
                    have n133_ := s132_.rowLen
                    refine t_deref _ rfl ?_
                    refine s_put (b := b41_) (j := 2) (v := .slice t21.1 t21.2.1 t21.2.2) s132_.at3 rfl (show (2 : Nat) < 4 by decide) ?_
                    intro h135_ s134_
                    refine t_deref _ rfl ?_
                    refine s_put (b := b41_) (j := 3) (v := .slice t22.1 t22.2.1 t22.2.2) s134_ rfl (show (3 : Nat) < 4 by decide) ?_
                    intro h137_ s136_
                    have s138_ := s136_.at3
                    have s139_ := s138_.at3
                    have s140_ := s139_.at3
                    have s142_ := s140_.at1
                    have s143_ := St.unpair s142_
                    have s144_ := s143_.at1
                    have s145_ := St.unpair s144_
                    have s146_ := St.unro (r := (Ro.list (Ro.int .i64))) (cs := [.slice t53_.1 t53_.2.1 t53_.2.2]) (x := d40_.1) s145_ ⟨t53_, rfl, k55_⟩
                    have s147_ := St.unpair s146_
                    have s148_ : St f36_ (⟨Rep.obj 34 (Rep.prod (Rep.ro (Ro.list (Ro.int .i64))) (Rep.prod (Rep.row 3 (Ro.int .i64)) (Rep.prod (Rep.row 3 (Ro.int .i64)) (Rep.row 3 (Ro.int .i64))))), [.pointer (some ⟨b41_, 0, none⟩)], (d40_.1, d40_.2.1, y120_, y129_)⟩ :: F) _ := St.shut s147_.at1
                    obtain rfl := Option.some.inj he34_
                    exact s_next (()) _ rfl rfl ⟨f36_, (d40_.1, d40_.2.1, y120_, y129_), le37_, rfl, s148_⟩
                · refine s_new (vs := [.int .i64 (0 : Int)]) s76_ ?_
                  intro r25 h150_ s149_
                  refine t_still (St.cell (b := b41_) (j := 3) s149_.at4 rfl) ?_
                  refine t_still (St.cell (b := b41_) (j := 2) s149_.at4 rfl) ?_
                  refine s_new (vs := [.int .i64 (0 : Int)]) s149_ ?_
                  intro r26 h152_ s151_
                  refine t_still (St.cell (b := b41_) (j := 3) s151_.at5 rfl) ?_
                  refine t_still (St.cell (b := b41_) (j := 2) s151_.at5 rfl) ?_
                  have cw153_ := St.cells s151_
                  have s155_ := s151_.tail
                  have s156_ := s155_.at2
                  obtain ⟨y157_, hy158_, he34_⟩ := Option.bind_eq_some_iff.1 he34_
                  refine s_append (r := (Ro.int .i64)) (ms := ([(0 : Int)] : List Int)) appT_26_26 s156_ rfl cw153_ (.cons (a := [_]) rfl .nil) rfl hy158_ ?_
                  intro t27 h159_ s160_
                  have n161_ := s160_.rowLen
                  refine t_still (St.cell (b := b41_) (j := 3) s160_.at4 rfl) ?_
                  have cw162_ := St.cells s160_.at1
                  have s164_ := s160_.at1.tail
                  have s165_ := s164_.at1
                  obtain ⟨y166_, hy167_, he34_⟩ := Option.bind_eq_some_iff.1 he34_
                  refine s_append (r := (Ro.int .i64)) (ms := ([(0 : Int)] : List Int)) appT_26_26 s165_ rfl cw162_ (.cons (a := [_]) rfl .nil) rfl hy167_ ?_
                  intro t28 h168_ s169_
                  have n170_ := s169_.rowLen
                  refine t_deref _ rfl ?_
                  refine s_put (b := b41_) (j := 2) (v := .slice t27.1 t27.2.1 t27.2.2) s169_.at3 rfl (show (2 : Nat) < 4 by decide) ?_
                  intro h172_ s171_
                  refine t_deref _ rfl ?_
                  refine s_put (b := b41_) (j := 3) (v := .slice t28.1 t28.2.1 t28.2.2) s171_ rfl (show (3 : Nat) < 4 by decide) ?_
                  intro h174_ s173_
                  have s175_ := s173_.at3
                  have s176_ := s175_.at3
                  have s177_ := s176_.at3
                  have s179_ := s177_.at1
                  have s180_ := St.unpair s179_
                  have s181_ := s180_.at1
                  have s182_ := St.unpair s181_
                  have s183_ := St.unro (r := (Ro.list (Ro.int .i64))) (cs := [.slice t53_.1 t53_.2.1 t53_.2.2]) (x := d40_.1) s182_ ⟨t53_, rfl, k55_⟩
                  have s184_ := St.unpair s183_
                  have s185_ : St f36_ (⟨Rep.obj 34 (Rep.prod (Rep.ro (Ro.list (Ro.int .i64))) (Rep.prod (Rep.row 3 (Ro.int .i64)) (Rep.prod (Rep.row 3 (Ro.int .i64)) (Rep.row 3 (Ro.int .i64))))), [.pointer (some ⟨b41_, 0, none⟩)], (d40_.1, d40_.2.1, y157_, y166_)⟩ :: F) _ := St.shut s184_.at1
                  obtain rfl := Option.some.inj he34_
                  exact s_next (()) _ rfl rfl ⟨f36_, (d40_.1, d40_.2.1, y157_, y166_), le37_, rfl, s185_⟩
              · have s186_ := s76_.at2
                have s187_ := s186_.at2
                have s188_ := s187_.at2
                have s190_ := s188_.at1
                have s191_ := St.unpair s190_
                have s192_ := s191_.at1
                have s193_ := St.unpair s192_
                have s194_ := St.unro (r := (Ro.list (Ro.int .i64))) (cs := [.slice t53_.1 t53_.2.1 t53_.2.2]) (x := d40_.1) s193_ ⟨t53_, rfl, k55_⟩
                have s195_ := St.unpair s194_
                have s196_ : St f36_ (⟨Rep.obj 34 (Rep.prod (Rep.ro (Ro.list (Ro.int .i64))) (Rep.prod (Rep.row 3 (Ro.int .i64)) (Rep.prod (Rep.row 3 (Ro.int .i64)) (Rep.row 3 (Ro.int .i64))))), [.pointer (some ⟨b41_, 0, none⟩)], (d40_.1, d40_.2.1, d40_.2.2.1, d40_.2.2.2)⟩ :: F) _ := St.shut s195_.at1
                obtain rfl := Option.some.inj he34_
                obtain rfl := hb35_ _ rfl
                exact around_brk (meetB_brk (()) rfl ⟨f36_, (d40_.1, d40_.2.1, d40_.2.2.1, d40_.2.2.2), le37_, rfl, s196_⟩)
          · rintro z6 h198_ ⟨f199_, d202_, le200_, rfl, s201_⟩
            try dsimp only at hx19_
            obtain ⟨b204_, vs205_, e206_, hl207_, s208_⟩ := s201_.open
            obtain rfl : p_0 = some ⟨b204_, 0, none⟩ := by simpa using e206_
            clear e206_
            have s209_ := s208_.at1
            obtain ⟨v210_, w211_, rfl, hl213_, s212_⟩ := s209_.pair
            obtain ⟨g214_, s215_⟩ := s212_.ro
            obtain ⟨t216_, e217_, k218_⟩ := g214_
            subst e217_
            have n219_ := k218_.length
            obtain ⟨v220_, w221_, rfl, hl223_, s222_⟩ := s215_.pair
            obtain ⟨t224_, e225_⟩ := s222_.rowCs
            subst e225_
            have n226_ := s222_.rowLen
            have s227_ := s222_.at1
            obtain ⟨v228_, w229_, rfl, hl231_, s230_⟩ := s227_.pair
            obtain ⟨t232_, e233_⟩ := s230_.rowCs
            subst e233_
            have n234_ := s230_.rowLen
            have s235_ := s230_.at1
            obtain ⟨t236_, e237_⟩ := s235_.rowCs
            subst e237_
            have n238_ := s235_.rowLen
            have s239_ : St f199_ (⟨Rep.row 3 (Ro.int .i64), [.slice t236_.1 t236_.2.1 t236_.2.2], d202_.2.2.2⟩ :: ⟨Rep.row 3 (Ro.int .i64), [.slice t232_.1 t232_.2.1 t232_.2.2], d202_.2.2.1⟩ :: ⟨Rep.row 3 (Ro.int .i64), [.slice t224_.1 t224_.2.1 t224_.2.2], d202_.2.1⟩ :: ⟨Rep.raw 34, [.pointer (some ⟨b204_, 0, none⟩)], [.slice t216_.1 t216_.2.1 t216_.2.2, .slice t224_.1 t224_.2.1 t224_.2.2, .slice t232_.1 t232_.2.1 t232_.2.2, .slice t236_.1 t236_.2.1 t236_.2.2]⟩ :: F) _ := s235_
            refine t_deref _ rfl ?_
            refine s_loadR (b := b204_) (j := 2) (x := t232_) s239_.at3 rfl ?_
            refine t_deref _ rfl ?_
            refine s_loadR (b := b204_) (j := 3) (x := t236_) s239_.at3 rfl ?_
            obtain ⟨y242_, hy243_, hx19_⟩ := Option.bind_eq_some_iff.1 hx19_
            obtain ⟨a247_, ea249_, q248_⟩ := s239_.at1.there hy243_
            refine t_deref _ ea249_ (t_chk q248_ (s_set s239_.at1 hy243_ rfl ea249_ ?_))
            intro h251_ s250_
            have n253_ := s250_.rowLen
            have n254_ := s250_.rowLen
            obtain ⟨y257_, hy258_, hx19_⟩ := Option.bind_eq_some_iff.1 hx19_
            obtain ⟨a262_, ea264_, q263_⟩ := s250_.at1.there hy258_
            refine t_deref _ ea264_ (t_chk q263_ (s_set s250_.at1 hy258_ rfl ea264_ ?_))
            intro h266_ s265_
            have n268_ := s265_.rowLen
            have n269_ := s265_.rowLen
            have s270_ := s265_.at2
            have s271_ := s270_.at2
            have s272_ := s271_.at2
            have s274_ := s272_.at1
            have s275_ := St.unpair s274_
            have s276_ := s275_.at1
            have s277_ := St.unpair s276_
            have s278_ := St.unro (r := (Ro.list (Ro.int .i64))) (cs := [.slice t216_.1 t216_.2.1 t216_.2.2]) (x := d202_.1) s277_ ⟨t216_, rfl, k218_⟩
            have s279_ := St.unpair s278_
            have s280_ : St f199_ (⟨Rep.obj 34 (Rep.prod (Rep.ro (Ro.list (Ro.int .i64))) (Rep.prod (Rep.row 3 (Ro.int .i64)) (Rep.prod (Rep.row 3 (Ro.int .i64)) (Rep.row 3 (Ro.int .i64))))), [.pointer (some ⟨b204_, 0, none⟩)], (d202_.1, d202_.2.1, y242_, y257_)⟩ :: F) _ := St.shut s279_.at1
            obtain rfl := Option.some.inj hx19_
            exact s_bout (()) rfl ⟨f199_, (d202_.1, d202_.2.1, y242_, y257_), le200_, rfl, s280_⟩
      · rintro z3 h282_ ⟨f283_, d286_, le284_, rfl, s285_⟩
        try dsimp only at he8_
        obtain rfl := Option.some.inj he8_
        exact s_next ((IntKind.wrap .i64 (z2.1 + (1 : Int))), ()) _ rfl rfl ⟨f283_, d286_, (le11_.trans le284_), hw15_, rfl, s285_⟩
    · rintro _ z2 h290_ ⟨f287_, d291_, le288_, rfl, rfl, s289_⟩ hge292_
      refine t_false (by rw [n2_]; exact decide_eq_false (Int.not_lt.2 hge292_)) ?_
      exact around_brk (meetB_brk (z2.1, ()) rfl ⟨f287_, d291_, le288_, rfl, s289_⟩)
  · rintro z1 h294_ ⟨f295_, d298_, le296_, rfl, s297_⟩
    try dsimp only at hd
    obtain rfl := Option.some.inj hd
    exact finOf_back ⟨f295_, (()), d298_, le296_, rfl, rfl, s297_⟩

noncomputable def table_Pack_D (rows_0 : List (List Int)) : Option (List Int × List Int × List Int × List Int) :=
  (table_Share_D rows_0).bind fun t2 =>
  (forS (σ := (List Int × (List Int × List Int × List Int × List Int))) (0 : Int) (((List.length t2.2) : Nat) : Int) (([] : List Int), (t2.1, ([] : List Int), ([] : List Int), ([] : List Int))) fun i_z5 z5 =>
    (idx t2.2 i_z5).bind fun e69 =>
    (table_Packed_fit_D z5.2 e69).bind fun t8 =>
    (table_Packed_lay_D z5.2 e69 t8 i_z5).bind fun t9 =>
    (app z5.1 ([t8] : List Int)).bind fun t11 =>
    some (t11, t9)).bind fun z4 =>
  (forS (σ := (List Int × List Int × List Int × List Int)) (0 : Int) (((List.length t2.1) : Nat) : Int) z4.2 fun i_z13 z13 =>
    (idx t2.1 i_z13).bind fun e149 =>
    (idx z4.1 e149).bind fun e194 =>
    (app z13.2.1 ([e194] : List Int)).bind fun t20 =>
    some (z13.1, t20, z13.2.2.1, z13.2.2.2)).bind fun z12 =>
  some (z12.1, z12.2.1, z12.2.2.1, z12.2.2.2)
theorem table_Pack_sim {φ : Snap} {h : Heap} {F : List Chk} {rows_0 : Slc} {d_rows_0 : List (List Int)} (gk : Glob φ) (k1_ : Ro.SliceIs (Ro.list (Ro.int .i64)) φ rows_0 d_rows_0) (s0 : St φ (F) h) {r : (List Int × List Int × List Int × List Int)} (hd : table_Pack_D d_rows_0 = some r) :
    CallsH Tryd.prog 14 [(.slice rows_0.1 rows_0.2.1 rows_0.2.2)] h (Back fun v h' => ∃ ψ : Snap, ∃ y : (Option Addr × Nat × Nat) × (Option Addr × Nat × Nat) × (Option Addr × Nat × Nat) × (Option Addr × Nat × Nat) × Unit, ∃ l300_ : List Int, ∃ l301_ : List Int, ∃ l302_ : List Int, ∃ l303_ : List Int, Sub φ ψ ∧ v = ((.one (.agg [.slice, .slice, .slice, .slice])) : Sh).val y ∧ (l300_, l301_, l302_, l303_) = r ∧ Ro.SliceIs (Ro.int .i64) ψ y.1 l300_ ∧ Ro.SliceIs (Ro.int .i64) ψ y.2.1 l301_ ∧ Ro.SliceIs (Ro.int .i64) ψ y.2.2.1 l302_ ∧ Ro.SliceIs (Ro.int .i64) ψ y.2.2.2.1 l303_ ∧ St ψ (F) h') := by
  refine calls_of mixed Tryd.func14 ?_
  rw [table_Pack_den]
  unfold table_Pack_T
  unfold table_Pack_D at hd
  have n2_ : rows_0.2.1 = List.length d_rows_0 := k1_.length
  refine s_new (vs := [.slice none 0 0, .slice none 0 0, .slice none 0 0, .slice none 0 0]) s0 ?_
  intro r1 h4_ s3_
  obtain ⟨r5_, hr6_, hd⟩ := Option.bind_eq_some_iff.1 hd
  refine s_call (table_Share_sim gk k1_ s3_ hr6_) ?_
  rintro _ h7_ ⟨f8_, t2, d11_, d14_, le10_, rfl, rfl, k13_, k16_, s9_⟩
  refine ⟨t2, rfl, ?_⟩
  try dsimp only at hd
  have n12_ := k13_.length
  have n15_ := k16_.length
  refine s_new (vs := [.slice none 0 0, .slice none 0 0, .slice none 0 0, .slice none 0 0]) s9_ ?_
  intro r3 h18_ s17_
  refine s_put (b := r3) (j := 0) (v := .slice t2.1.1 t2.1.2.1 t2.1.2.2) s17_ rfl (show (0 : Nat) < 4 by decide) ?_
  intro h20_ s19_
  refine s_put (b := r3) (j := 1) (v := .slice none 0 0) s19_ rfl (show (1 : Nat) < 4 by decide) ?_
  intro h22_ s21_
  refine s_put (b := r3) (j := 2) (v := .slice none 0 0) s21_ rfl (show (2 : Nat) < 4 by decide) ?_
  intro h24_ s23_
  refine s_put (b := r3) (j := 3) (v := .slice none 0 0) s23_ rfl (show (3 : Nat) < 4 by decide) ?_
  intro h26_ s25_
  have s27_ := s25_.nil 3 (Ro.int .i64)
  have s28_ := s27_.nil 3 (Ro.int .i64)
  have s29_ := s28_.nil 3 (Ro.int .i64)
  have s31_ := s29_.at1
  have s32_ := St.unpair s31_
  have s33_ := s32_.at1
  have s34_ := St.unpair s33_
  have s35_ := St.unro (r := (Ro.list (Ro.int .i64))) (cs := [.slice t2.1.1 t2.1.2.1 t2.1.2.2]) (x := d11_) s34_ ⟨t2.1, rfl, k13_⟩
  have s36_ := St.unpair s35_
  have s37_ : St f8_ (⟨Rep.obj 34 (Rep.prod (Rep.ro (Ro.list (Ro.int .i64))) (Rep.prod (Rep.row 3 (Ro.int .i64)) (Rep.prod (Rep.row 3 (Ro.int .i64)) (Rep.row 3 (Ro.int .i64))))), [.pointer (some ⟨r3, 0, none⟩)], (d11_, ([] : List Int), ([] : List Int), ([] : List Int))⟩ :: ⟨Rep.raw 34, [.pointer (some ⟨r1, 0, none⟩)], [.slice none 0 0, .slice none 0 0, .slice none 0 0, .slice none 0 0]⟩ :: F) _ := St.shut s36_.at1
  have s40_ := s37_.nil 3 (Ro.int .i64)
  have s41_ := s40_.at2
  have s42_ := s41_.at2
  have s43_ := s42_.at2
  obtain ⟨g38_, hx39_, hd⟩ := Option.bind_eq_some_iff.1 hd
  refine s_block (fun (y : Int × (Option Addr × Nat × Nat) × Unit) w_ g => ∃ ψ : Snap, ∃ l44_ : List Int, ∃ l45_ : (List Int × List Int × List Int × List Int), Sub f8_ ψ ∧ (l44_, l45_) = g ∧ St ψ (⟨Rep.row 3 (Ro.int .i64), [.slice y.2.1.1 y.2.1.2.1 y.2.1.2.2], l44_⟩ :: ⟨Rep.obj 34 (Rep.prod (Rep.ro (Ro.list (Ro.int .i64))) (Rep.prod (Rep.row 3 (Ro.int .i64)) (Rep.prod (Rep.row 3 (Ro.int .i64)) (Rep.row 3 (Ro.int .i64))))), [.pointer (some ⟨r3, 0, none⟩)], l45_⟩ :: ⟨Rep.raw 34, [.pointer (some ⟨r1, 0, none⟩)], [.slice none 0 0, .slice none 0 0, .slice none 0 0, .slice none 0 0]⟩ :: F) w_) (g := g38_) ?_ ?_
  · refine s_forS hx39_ (fun i48_ (y : Int × (Option Addr × Nat × Nat) × Unit) w_ g => ∃ ψ : Snap, ∃ l46_ : List Int, ∃ l47_ : (List Int × List Int × List Int × List Int), Sub f8_ ψ ∧ y.1 = i48_ ∧ (l46_, l47_) = g ∧ St ψ (⟨Rep.row 3 (Ro.int .i64), [.slice y.2.1.1 y.2.1.2.1 y.2.1.2.2], l46_⟩ :: ⟨Rep.obj 34 (Rep.prod (Rep.ro (Ro.list (Ro.int .i64))) (Rep.prod (Rep.row 3 (Ro.int .i64)) (Rep.prod (Rep.row 3 (Ro.int .i64)) (Rep.row 3 (Ro.int .i64))))), [.pointer (some ⟨r3, 0, none⟩)], l47_⟩ :: ⟨Rep.raw 34, [.pointer (some ⟨r1, 0, none⟩)], [.slice none 0 0, .slice none 0 0, .slice none 0 0, .slice none 0 0]⟩ :: F) w_) ((0 : Int), ((none, 0, 0) : Slc), ()) rfl ⟨f8_, ([] : List Int), (d11_, ([] : List Int), ([] : List Int), ([] : List Int)), (Sub.refl _), rfl, rfl, s43_⟩ ?_ ?_
    · rintro _ z5 h54_ _ _ ⟨f51_, d55_, d57_, le52_, rfl, rfl, s53_⟩ he49_ h159_ h260_ hw58_
      try dsimp only at he49_ h159_ h260_ hw58_
      have n56_ := s53_.rowLen
      refine t_true (by rw [n15_]; exact decide_eq_true h260_) ?_
      obtain ⟨x61_, hx62_, he49_⟩ := Option.bind_eq_some_iff.1 he49_
      obtain ⟨a63_, cs64_, ea65_, hi66_, q67_, cl68_⟩ := (k16_.mono le52_).get hx62_
      refine t_deref _ ea65_ (t_chk hi66_ ?_)
      obtain ⟨t70_, rfl, k71_⟩ := q67_
      have n72_ := k71_.length
      refine s_load (x := t70_) (cellS_heap (Sub.trans (Sub.refl _) s53_.sub) (cl68_ 0 _ rfl)) rfl ?_
      have s73_ := s53_.at1
      obtain ⟨r74_, hr75_, he49_⟩ := Option.bind_eq_some_iff.1 he49_
      refine s_call (table_Packed_fit_sim k71_ s73_ hr75_) ?_
      rintro _ h76_ ⟨f77_, t8, le79_, rfl, rfl, s78_⟩
      refine ⟨t8, rfl, ?_⟩
      obtain ⟨r80_, hr81_, he49_⟩ := Option.bind_eq_some_iff.1 he49_
      refine s_call (table_Packed_lay_sim (k71_.mono le79_) s78_ hr81_) ?_
      rintro _ h82_ ⟨f83_, t9, d86_, le85_, rfl, rfl, s84_⟩
      refine ⟨t9, rfl, ?_⟩
      refine s_new (vs := [.int .i64 t8]) s84_ ?_
      intro r10 h88_ s87_
      have cw89_ := St.cells s87_
      have s91_ := s87_.tail
      have s92_ := s91_.at1
      obtain ⟨y93_, hy94_, he49_⟩ := Option.bind_eq_some_iff.1 he49_
      refine s_append (r := (Ro.int .i64)) (ms := ([t8] : List Int)) appT_26_26 s92_ rfl cw89_ (.cons (a := [_]) rfl .nil) rfl hy94_ ?_
      intro t11 h95_ s96_
      have n97_ := s96_.rowLen
      have s99_ := s96_.at2
      have s100_ := s99_.at2
      have s101_ := s100_.at2
      obtain rfl := Option.some.inj he49_
      exact s_next ((IntKind.wrap .i64 (z5.1 + (1 : Int))), t11, ()) _ rfl rfl ⟨f83_, y93_, d86_, ((le52_.trans le79_).trans le85_), hw58_, rfl, s101_⟩
    · rintro _ z5 h105_ ⟨f102_, d106_, d108_, le103_, rfl, rfl, s104_⟩ hge109_
      have n107_ := s104_.rowLen
      refine t_false (by rw [n15_]; exact decide_eq_false (Int.not_lt.2 hge109_)) ?_
      have s112_ := s104_.at2
      have s113_ := s112_.at2
      have s114_ := s113_.at2
      exact around_brk (meetB_brk (z5.1, z5.2.1, ()) rfl ⟨f102_, d106_, d108_, le103_, rfl, s114_⟩)
  · rintro z4 h115_ ⟨f116_, d119_, d121_, le117_, rfl, s118_⟩
    try dsimp only at hd
    have n120_ := s118_.rowLen
    have s125_ := s118_.at2
    have s126_ := s125_.at1
    have s127_ := s126_.at2
    obtain ⟨g123_, hx124_, hd⟩ := Option.bind_eq_some_iff.1 hd
    refine s_block (fun (y : Int × Unit) w_ g => ∃ ψ : Snap, ∃ l128_ : (List Int × List Int × List Int × List Int), Sub f116_ ψ ∧ l128_ = g ∧ St ψ (⟨Rep.obj 34 (Rep.prod (Rep.ro (Ro.list (Ro.int .i64))) (Rep.prod (Rep.row 3 (Ro.int .i64)) (Rep.prod (Rep.row 3 (Ro.int .i64)) (Rep.row 3 (Ro.int .i64))))), [.pointer (some ⟨r3, 0, none⟩)], l128_⟩ :: ⟨Rep.row 3 (Ro.int .i64), [.slice z4.2.1.1 z4.2.1.2.1 z4.2.1.2.2], d119_⟩ :: ⟨Rep.raw 34, [.pointer (some ⟨r1, 0, none⟩)], [.slice none 0 0, .slice none 0 0, .slice none 0 0, .slice none 0 0]⟩ :: F) w_) (g := g123_) ?_ ?_
    · refine s_forS hx124_ (fun i130_ (y : Int × Unit) w_ g => ∃ ψ : Snap, ∃ l129_ : (List Int × List Int × List Int × List Int), Sub f116_ ψ ∧ y.1 = i130_ ∧ l129_ = g ∧ St ψ (⟨Rep.obj 34 (Rep.prod (Rep.ro (Ro.list (Ro.int .i64))) (Rep.prod (Rep.row 3 (Ro.int .i64)) (Rep.prod (Rep.row 3 (Ro.int .i64)) (Rep.row 3 (Ro.int .i64))))), [.pointer (some ⟨r3, 0, none⟩)], l129_⟩ :: ⟨Rep.row 3 (Ro.int .i64), [.slice z4.2.1.1 z4.2.1.2.1 z4.2.1.2.2], d119_⟩ :: ⟨Rep.raw 34, [.pointer (some ⟨r1, 0, none⟩)], [.slice none 0 0, .slice none 0 0, .slice none 0 0, .slice none 0 0]⟩ :: F) w_) ((0 : Int), ()) rfl ⟨f116_, d121_, (Sub.refl _), rfl, rfl, s127_⟩ ?_ ?_
      · rintro _ z13 h136_ _ _ ⟨f133_, d137_, le134_, rfl, rfl, s135_⟩ he131_ h1139_ h2140_ hw138_
        try dsimp only at he131_ h1139_ h2140_ hw138_
        refine t_true (by rw [n12_]; exact decide_eq_true h2140_) ?_
        obtain ⟨x141_, hx142_, he131_⟩ := Option.bind_eq_some_iff.1 he131_
        obtain ⟨a143_, cs144_, ea145_, hi146_, q147_, cl148_⟩ := (k13_.mono (le117_.trans le134_)).get hx142_
        refine t_deref _ ea145_ (t_chk hi146_ ?_)
        obtain rfl := q147_
        refine s_load (x := x141_) (cellS_heap (Sub.trans (Sub.refl _) s135_.sub) (cl148_ 0 _ rfl)) rfl ?_
        obtain ⟨b150_, vs151_, e152_, hl153_, s154_⟩ := s135_.open
        obtain rfl : r3 = b150_ := by simpa using e152_
        clear e152_
        have s155_ := s154_.at1
        obtain ⟨v156_, w157_, rfl, hl159_, s158_⟩ := s155_.pair
        obtain ⟨g160_, s161_⟩ := s158_.ro
        obtain ⟨t162_, e163_, k164_⟩ := g160_
        subst e163_
        have n165_ := k164_.length
        obtain ⟨v166_, w167_, rfl, hl169_, s168_⟩ := s161_.pair
        obtain ⟨t170_, e171_⟩ := s168_.rowCs
        subst e171_
        have n172_ := s168_.rowLen
        have s173_ := s168_.at1
        obtain ⟨v174_, w175_, rfl, hl177_, s176_⟩ := s173_.pair
        obtain ⟨t178_, e179_⟩ := s176_.rowCs
        subst e179_
        have n180_ := s176_.rowLen
        have s181_ := s176_.at1
        obtain ⟨t182_, e183_⟩ := s181_.rowCs
        subst e183_
        have n184_ := s181_.rowLen
        have s185_ : St f133_ (⟨Rep.row 3 (Ro.int .i64), [.slice t182_.1 t182_.2.1 t182_.2.2], d137_.2.2.2⟩ :: ⟨Rep.row 3 (Ro.int .i64), [.slice t178_.1 t178_.2.1 t178_.2.2], d137_.2.2.1⟩ :: ⟨Rep.row 3 (Ro.int .i64), [.slice t170_.1 t170_.2.1 t170_.2.2], d137_.2.1⟩ :: ⟨Rep.raw 34, [.pointer (some ⟨r3, 0, none⟩)], [.slice t162_.1 t162_.2.1 t162_.2.2, .slice t170_.1 t170_.2.1 t170_.2.2, .slice t178_.1 t178_.2.1 t178_.2.2, .slice t182_.1 t182_.2.1 t182_.2.2]⟩ :: ⟨Rep.row 3 (Ro.int .i64), [.slice z4.2.1.1 z4.2.1.2.1 z4.2.1.2.2], d119_⟩ :: ⟨Rep.raw 34, [.pointer (some ⟨r1, 0, none⟩)], [.slice none 0 0, .slice none 0 0, .slice none 0 0, .slice none 0 0]⟩ :: F) _ := s181_
        refine s_loadR (b := r3) (j := 1) (x := t170_) s185_.at3 rfl ?_
        obtain ⟨x186_, hx187_, he131_⟩ := Option.bind_eq_some_iff.1 he131_
        obtain ⟨a188_, cs189_, ea190_, hi191_, q192_, cl193_⟩ := (s185_.at4).get hx187_
        refine t_deref _ ea190_ (t_chk hi191_ ?_)
        obtain rfl := q192_
        refine s_load (x := x186_) (cl193_ 0 _ rfl) rfl ?_
        refine s_new (vs := [.int .i64 x186_]) s185_ ?_
        intro r19 h196_ s195_
        refine t_still (St.cell (b := r3) (j := 1) s195_.at4 rfl) ?_
        have cw197_ := St.cells s195_
        have s199_ := s195_.tail
        have s200_ := s199_.at2
        obtain ⟨y201_, hy202_, he131_⟩ := Option.bind_eq_some_iff.1 he131_
        refine s_append (r := (Ro.int .i64)) (ms := ([x186_] : List Int)) appT_26_26 s200_ rfl cw197_ (.cons (a := [_]) rfl .nil) rfl hy202_ ?_
        intro t20 h203_ s204_
        have n205_ := s204_.rowLen
        refine s_put (b := r3) (j := 1) (v := .slice t20.1 t20.2.1 t20.2.2) s204_.at3 rfl (show (1 : Nat) < 4 by decide) ?_
        intro h207_ s206_
        have s208_ := s206_.at1
        have s209_ := s208_.at3
        have s210_ := s209_.at3
        have s212_ := s210_.at1
        have s213_ := St.unpair s212_
        have s214_ := s213_.at1
        have s215_ := St.unpair s214_
        have s216_ := St.unro (r := (Ro.list (Ro.int .i64))) (cs := [.slice t162_.1 t162_.2.1 t162_.2.2]) (x := d137_.1) s215_ ⟨t162_, rfl, k164_⟩
        have s217_ := St.unpair s216_
        have s218_ : St f133_ (⟨Rep.obj 34 (Rep.prod (Rep.ro (Ro.list (Ro.int .i64))) (Rep.prod (Rep.row 3 (Ro.int .i64)) (Rep.prod (Rep.row 3 (Ro.int .i64)) (Rep.row 3 (Ro.int .i64))))), [.pointer (some ⟨r3, 0, none⟩)], (d137_.1, y201_, d137_.2.2.1, d137_.2.2.2)⟩ :: ⟨Rep.row 3 (Ro.int .i64), [.slice z4.2.1.1 z4.2.1.2.1 z4.2.1.2.2], d119_⟩ :: ⟨Rep.raw 34, [.pointer (some ⟨r1, 0, none⟩)], [.slice none 0 0, .slice none 0 0, .slice none 0 0, .slice none 0 0]⟩ :: F) _ := St.shut s217_.at1
        have s219_ := s218_.at2
        have s220_ := s219_.at2
        have s221_ := s220_.at2
        obtain rfl := Option.some.inj he131_
        exact s_next ((IntKind.wrap .i64 (z13.1 + (1 : Int))), ()) _ rfl rfl ⟨f133_, (d137_.1, y201_, d137_.2.2.1, d137_.2.2.2), le134_, hw138_, rfl, s221_⟩
      · rintro _ z13 h225_ ⟨f222_, d226_, le223_, rfl, rfl, s224_⟩ hge227_
        refine t_false (by rw [n12_]; exact decide_eq_false (Int.not_lt.2 hge227_)) ?_
        have s229_ := s224_.at2
        have s230_ := s229_.at2
        have s231_ := s230_.at2
        exact around_brk (meetB_brk (z13.1, ()) rfl ⟨f222_, d226_, le223_, rfl, s231_⟩)
    · rintro z12 h232_ ⟨f233_, d236_, le234_, rfl, s235_⟩
      try dsimp only at hd
      obtain ⟨b238_, vs239_, e240_, hl241_, s242_⟩ := s235_.open
      obtain rfl : r3 = b238_ := by simpa using e240_
      clear e240_
      have s243_ := s242_.at1
      obtain ⟨v244_, w245_, rfl, hl247_, s246_⟩ := s243_.pair
      obtain ⟨g248_, s249_⟩ := s246_.ro
      obtain ⟨t250_, e251_, k252_⟩ := g248_
      subst e251_
      have n253_ := k252_.length
      obtain ⟨v254_, w255_, rfl, hl257_, s256_⟩ := s249_.pair
      obtain ⟨t258_, e259_⟩ := s256_.rowCs
      subst e259_
      have n260_ := s256_.rowLen
      have s261_ := s256_.at1
      obtain ⟨v262_, w263_, rfl, hl265_, s264_⟩ := s261_.pair
      obtain ⟨t266_, e267_⟩ := s264_.rowCs
      subst e267_
      have n268_ := s264_.rowLen
      have s269_ := s264_.at1
      obtain ⟨t270_, e271_⟩ := s269_.rowCs
      subst e271_
      have n272_ := s269_.rowLen
      have s273_ : St f233_ (⟨Rep.row 3 (Ro.int .i64), [.slice t270_.1 t270_.2.1 t270_.2.2], d236_.2.2.2⟩ :: ⟨Rep.row 3 (Ro.int .i64), [.slice t266_.1 t266_.2.1 t266_.2.2], d236_.2.2.1⟩ :: ⟨Rep.row 3 (Ro.int .i64), [.slice t258_.1 t258_.2.1 t258_.2.2], d236_.2.1⟩ :: ⟨Rep.raw 34, [.pointer (some ⟨r3, 0, none⟩)], [.slice t250_.1 t250_.2.1 t250_.2.2, .slice t258_.1 t258_.2.1 t258_.2.2, .slice t266_.1 t266_.2.1 t266_.2.2, .slice t270_.1 t270_.2.1 t270_.2.2]⟩ :: ⟨Rep.row 3 (Ro.int .i64), [.slice z4.2.1.1 z4.2.1.2.1 z4.2.1.2.2], d119_⟩ :: ⟨Rep.raw 34, [.pointer (some ⟨r1, 0, none⟩)], [.slice none 0 0, .slice none 0 0, .slice none 0 0, .slice none 0 0]⟩ :: F) _ := s269_
      refine s_loadR (b := r3) (j := 0) (x := t250_) s273_.at3 rfl ?_
      refine s_loadR (b := r3) (j := 1) (x := t258_) s273_.at3 rfl ?_
      refine s_loadR (b := r3) (j := 2) (x := t266_) s273_.at3 rfl ?_
      refine s_loadR (b := r3) (j := 3) (x := t270_) s273_.at3 rfl ?_
      refine s_put (b := r1) (j := 0) (v := .slice t250_.1 t250_.2.1 t250_.2.2) s273_.at5 rfl (show (0 : Nat) < 4 by decide) ?_
      intro h275_ s274_
      refine s_put (b := r1) (j := 1) (v := .slice t258_.1 t258_.2.1 t258_.2.2) s274_ rfl (show (1 : Nat) < 4 by decide) ?_
      intro h277_ s276_
      refine s_put (b := r1) (j := 2) (v := .slice t266_.1 t266_.2.1 t266_.2.2) s276_ rfl (show (2 : Nat) < 4 by decide) ?_
      intro h279_ s278_
      refine s_put (b := r1) (j := 3) (v := .slice t270_.1 t270_.2.1 t270_.2.2) s278_ rfl (show (3 : Nat) < 4 by decide) ?_
      intro h281_ s280_
      refine s_loadR (b := r1) (j := 0) (x := t250_) s280_ rfl ?_
      refine s_loadR (b := r1) (j := 1) (x := t258_) s280_ rfl ?_
      refine s_loadR (b := r1) (j := 2) (x := t266_) s280_ rfl ?_
      refine s_loadR (b := r1) (j := 3) (x := t270_) s280_ rfl ?_
      have s282_ := s280_.at3
      obtain ⟨f283_, le284_, k285_, s286_⟩ := St.freezeRow (t := t258_) s282_
      have s287_ := s286_.at2
      obtain ⟨f288_, le289_, k290_, s291_⟩ := St.freezeRow (t := t266_) s287_
      have s292_ := s291_.at1
      obtain ⟨f293_, le294_, k295_, s296_⟩ := St.freezeRow (t := t270_) s292_
      obtain rfl := Option.some.inj hd
      have s297_ := s296_.tail
      have s298_ := s297_.tail
      have s299_ := s298_.tail
      exact finOf_back ⟨f293_, (t250_, t258_, t266_, t270_, ()), d236_.1, d236_.2.1, d236_.2.2.1, d236_.2.2.2, (((((le10_.trans le117_).trans le234_).trans le284_).trans le289_).trans le294_), rfl, rfl, (k252_.mono ((le284_.trans le289_).trans le294_)), (k285_.mono (le289_.trans le294_)), (k290_.mono le294_), k295_, s299_⟩

noncomputable def table_Packed_Cells_D (p_0 : (List Int × List Int × List Int × List Int)) : Option Int :=
  some (((List.length p_0.2.2.1) : Nat) : Int)
theorem table_Packed_Cells_sim {φ : Snap} {h : Heap} {F : List Chk} {p_0 : (Option Addr × Nat × Nat) × (Option Addr × Nat × Nat) × (Option Addr × Nat × Nat) × (Option Addr × Nat × Nat) × Unit} {d_p_0_0 : List Int} {d_p_0_1 : List Int} {d_p_0_2 : List Int} {d_p_0_3 : List Int} (k1_ : Ro.SliceIs (Ro.int .i64) φ p_0.1 d_p_0_0) (k3_ : Ro.SliceIs (Ro.int .i64) φ p_0.2.1 d_p_0_1) (k5_ : Ro.SliceIs (Ro.int .i64) φ p_0.2.2.1 d_p_0_2) (k7_ : Ro.SliceIs (Ro.int .i64) φ p_0.2.2.2.1 d_p_0_3) (s0 : St φ (F) h) {r : Int} (hd : table_Packed_Cells_D (d_p_0_0, d_p_0_1, d_p_0_2, d_p_0_3) = some r) :
    CallsH Tryd.prog 15 [(.agg #[(.slice p_0.1.1 p_0.1.2.1 p_0.1.2.2), (.slice p_0.2.1.1 p_0.2.1.2.1 p_0.2.1.2.2), (.slice p_0.2.2.1.1 p_0.2.2.1.2.1 p_0.2.2.1.2.2), (.slice p_0.2.2.2.1.1 p_0.2.2.2.1.2.1 p_0.2.2.2.1.2.2)])] h (Back fun v h' => ∃ ψ : Snap, ∃ y : Int, Sub φ ψ ∧ v = ((.one (.atom (.int .i64))) : Sh).val y ∧ y = r ∧ St ψ (F) h') := by
  refine calls_of mixed Tryd.func15 ?_
  rw [table_Packed_Cells_den]
  unfold table_Packed_Cells_T
  unfold table_Packed_Cells_D at hd
  have n2_ : p_0.1.2.1 = List.length d_p_0_0 := k1_.length
  have n4_ : p_0.2.1.2.1 = List.length d_p_0_1 := k3_.length
  have n6_ : p_0.2.2.1.2.1 = List.length d_p_0_2 := k5_.length
  have n8_ : p_0.2.2.2.1.2.1 = List.length d_p_0_3 := k7_.length
  refine s_new (vs := [.slice p_0.1.1 p_0.1.2.1 p_0.1.2.2, .slice p_0.2.1.1 p_0.2.1.2.1 p_0.2.1.2.2, .slice p_0.2.2.1.1 p_0.2.2.1.2.1 p_0.2.2.1.2.2, .slice p_0.2.2.2.1.1 p_0.2.2.2.1.2.1 p_0.2.2.2.1.2.2]) s0 ?_
  intro r1 h10_ s9_
  refine s_loadR (b := r1) (j := 2) (x := p_0.2.2.1) s9_ rfl ?_
  obtain rfl := Option.some.inj hd
  have s11_ := s9_.tail
  exact finOf_back ⟨φ, ((p_0.2.2.1.2.1 : Nat) : Int), (Sub.refl _), rfl, (by rw [n6_]), s11_⟩

noncomputable def table_Dense_D (rows_0 : List (List Int)) : Option Int :=
  (forS (σ := Int) (0 : Int) (((List.length rows_0) : Nat) : Int) (0 : Int) fun i_z2 z2 =>
    (idx rows_0 i_z2).bind fun e23 =>
    (forS (σ := Int) (0 : Int) (((List.length e23) : Nat) : Int) z2 fun i_z6 z6 =>
      (idx e23 i_z6).bind fun e47 =>
      (cond (e47 != (0 : Int))
      (some (IntKind.wrap .i64 (z6 + (1 : Int))))
      (some z6)).bind fun z9 =>
      some z9).bind fun z5 =>
    some z5).bind fun z1 =>
  some z1
theorem table_Dense_sim {φ : Snap} {h : Heap} {F : List Chk} {rows_0 : Slc} {d_rows_0 : List (List Int)} (k1_ : Ro.SliceIs (Ro.list (Ro.int .i64)) φ rows_0 d_rows_0) (s0 : St φ (F) h) {r : Int} (hd : table_Dense_D d_rows_0 = some r) :
    CallsH Tryd.prog 18 [(.slice rows_0.1 rows_0.2.1 rows_0.2.2)] h (Back fun v h' => ∃ ψ : Snap, ∃ y : Int, Sub φ ψ ∧ v = ((.one (.atom (.int .i64))) : Sh).val y ∧ y = r ∧ St ψ (F) h') := by
  refine calls_of mixed Tryd.func18 ?_
  rw [table_Dense_den]
  unfold table_Dense_T
  unfold table_Dense_D at hd
  have n2_ : rows_0.2.1 = List.length d_rows_0 := k1_.length
  obtain ⟨g3_, hx4_, hd⟩ := Option.bind_eq_some_iff.1 hd
  refine s_block (fun (y : Int × Int × Unit) w_ g => ∃ ψ : Snap, Sub φ ψ ∧ y.2.1 = g ∧ St ψ (F) w_) (g := g3_) ?_ ?_
  · refine s_forS hx4_ (fun i5_ (y : Int × Int × Unit) w_ g => ∃ ψ : Snap, Sub φ ψ ∧ y.1 = i5_ ∧ y.2.1 = g ∧ St ψ (F) w_) ((0 : Int), (0 : Int), ()) rfl ⟨φ, (Sub.refl _), rfl, rfl, s0⟩ ?_ ?_
    · rintro _ z2 h11_ _ _ ⟨f8_, le9_, rfl, rfl, s10_⟩ he6_ h113_ h214_ hw12_
      try dsimp only at he6_ h113_ h214_ hw12_
      refine t_true (by rw [n2_]; exact decide_eq_true h214_) ?_
      obtain ⟨x15_, hx16_, he6_⟩ := Option.bind_eq_some_iff.1 he6_
      obtain ⟨a17_, cs18_, ea19_, hi20_, q21_, cl22_⟩ := (k1_.mono le9_).get hx16_
      refine t_deref _ ea19_ (t_chk hi20_ ?_)
      obtain ⟨t24_, rfl, k25_⟩ := q21_
      have n26_ := k25_.length
      refine s_load (x := t24_) (cellS_heap (Sub.trans (Sub.refl _) s10_.sub) (cl22_ 0 _ rfl)) rfl ?_
      obtain ⟨g27_, hx28_, he6_⟩ := Option.bind_eq_some_iff.1 he6_
      refine s_block (fun (y : Int × Int × Unit) w_ g => ∃ ψ : Snap, Sub f8_ ψ ∧ y.2.1 = g ∧ St ψ (F) w_) (g := g27_) ?_ ?_
      · refine s_forS hx28_ (fun i29_ (y : Int × Int × Unit) w_ g => ∃ ψ : Snap, Sub f8_ ψ ∧ y.1 = i29_ ∧ y.2.1 = g ∧ St ψ (F) w_) ((0 : Int), z2.2.1, ()) rfl ⟨f8_, (Sub.refl _), rfl, rfl, s10_⟩ ?_ ?_
        · rintro _ z6 h35_ _ _ ⟨f32_, le33_, rfl, rfl, s34_⟩ he30_ h137_ h238_ hw36_
          try dsimp only at he30_ h137_ h238_ hw36_
          refine t_true (by rw [n26_]; exact decide_eq_true h238_) ?_
          obtain ⟨x39_, hx40_, he30_⟩ := Option.bind_eq_some_iff.1 he30_
          obtain ⟨a41_, cs42_, ea43_, hi44_, q45_, cl46_⟩ := (k25_.mono le33_).get hx40_
          refine t_deref _ ea43_ (t_chk hi44_ ?_)
          obtain rfl := q45_
          refine s_load (x := x39_) (cellS_heap (Sub.trans (Sub.refl _) s34_.sub) (cl46_ 0 _ rfl)) rfl ?_
          obtain ⟨g48_, hx49_, he30_⟩ := Option.bind_eq_some_iff.1 he30_
          refine s_join (fun (y : Int × Unit) w_ g => ∃ ψ : Snap, Sub f32_ ψ ∧ y.1 = g ∧ St ψ (F) w_) (g := g48_) ?_ ?_
          · refine s_cond hx49_ rfl (fun hb50_ hx49_ => ?_) (fun hb50_ hx49_ => ?_)
            · obtain rfl := Option.some.inj hx49_
              exact s_out ((IntKind.wrap .i64 (z6.2.1 + (1 : Int))), ()) rfl ⟨f32_, (Sub.refl _), rfl, s34_⟩
            · obtain rfl := Option.some.inj hx49_
              exact s_out (z6.2.1, ()) rfl ⟨f32_, (Sub.refl _), rfl, s34_⟩
          · rintro z9 h51_ ⟨f52_, le53_, rfl, s54_⟩
            try dsimp only at he30_
            obtain rfl := Option.some.inj he30_
            exact s_next ((IntKind.wrap .i64 (z6.1 + (1 : Int))), z9.1, ()) _ rfl rfl ⟨f52_, (le33_.trans le53_), hw36_, rfl, s54_⟩
        · rintro _ z6 h58_ ⟨f55_, le56_, rfl, rfl, s57_⟩ hge59_
          refine t_false (by rw [n26_]; exact decide_eq_false (Int.not_lt.2 hge59_)) ?_
          exact around_brk (meetB_brk (z6.1, z6.2.1, ()) rfl ⟨f55_, le56_, rfl, s57_⟩)
      · rintro z5 h61_ ⟨f62_, le63_, rfl, s64_⟩
        try dsimp only at he6_
        obtain rfl := Option.some.inj he6_
        exact s_next ((IntKind.wrap .i64 (z2.1 + (1 : Int))), z5.2.1, ()) _ rfl rfl ⟨f62_, (le9_.trans le63_), hw12_, rfl, s64_⟩
    · rintro _ z2 h69_ ⟨f66_, le67_, rfl, rfl, s68_⟩ hge70_
      refine t_false (by rw [n2_]; exact decide_eq_false (Int.not_lt.2 hge70_)) ?_
      exact around_brk (meetB_brk (z2.1, z2.2.1, ()) rfl ⟨f66_, le67_, rfl, s68_⟩)
  · rintro z1 h72_ ⟨f73_, le74_, rfl, s75_⟩
    try dsimp only at hd
    obtain rfl := Option.some.inj hd
    exact finOf_back ⟨f73_, z1.2.1, le74_, rfl, rfl, s75_⟩

noncomputable def table_Packed_At_D (p_0 : (List Int × List Int × List Int × List Int)) (row_1 : Int) (col_2 : Int) : Option Int :=
  (cond (decide (row_1 < (0 : Int)))
  (some true)
  (cond (decide (row_1 ≥ (((List.length p_0.2.1) : Nat) : Int)))
    (some true)
    (cond (decide (col_2 < (0 : Int)))
      (some true)
      ((idx p_0.2.1 row_1).bind fun e21 =>
        some (decide (col_2 ≥ (IntKind.wrap .i64 ((((List.length p_0.2.2.1) : Nat) : Int) - e21)))))))).bind fun z2 =>
  cond z2
  (some (0 : Int))
  ((idx p_0.2.1 row_1).bind fun e38 =>
    (idx p_0.2.2.2 (IntKind.wrap .i64 (e38 + col_2))).bind fun e47 =>
    (idx p_0.1 row_1).bind fun e56 =>
    cond (e47 != (IntKind.wrap .i64 (e56 + (1 : Int))))
    (some (0 : Int))
    ((idx p_0.2.2.1 (IntKind.wrap .i64 (e38 + col_2))).bind fun e66 =>
      some e66))
theorem table_Packed_At_sim {φ : Snap} {h : Heap} {F : List Chk} {p_0 : (Option Addr × Nat × Nat) × (Option Addr × Nat × Nat) × (Option Addr × Nat × Nat) × (Option Addr × Nat × Nat) × Unit} {d_p_0_0 : List Int} {d_p_0_1 : List Int} {d_p_0_2 : List Int} {d_p_0_3 : List Int} {row_1 : Int} {col_2 : Int} (k1_ : Ro.SliceIs (Ro.int .i64) φ p_0.1 d_p_0_0) (k3_ : Ro.SliceIs (Ro.int .i64) φ p_0.2.1 d_p_0_1) (k5_ : Ro.SliceIs (Ro.int .i64) φ p_0.2.2.1 d_p_0_2) (k7_ : Ro.SliceIs (Ro.int .i64) φ p_0.2.2.2.1 d_p_0_3) (s0 : St φ (F) h) {r : Int} (hd : table_Packed_At_D (d_p_0_0, d_p_0_1, d_p_0_2, d_p_0_3) row_1 col_2 = some r) :
    CallsH Tryd.prog 19 [(.agg #[(.slice p_0.1.1 p_0.1.2.1 p_0.1.2.2), (.slice p_0.2.1.1 p_0.2.1.2.1 p_0.2.1.2.2), (.slice p_0.2.2.1.1 p_0.2.2.1.2.1 p_0.2.2.1.2.2), (.slice p_0.2.2.2.1.1 p_0.2.2.2.1.2.1 p_0.2.2.2.1.2.2)]), (.int .i64 row_1), (.int .i64 col_2)] h (Back fun v h' => ∃ ψ : Snap, ∃ y : Int, Sub φ ψ ∧ v = ((.one (.atom (.int .i64))) : Sh).val y ∧ y = r ∧ St ψ (F) h') := by
  refine calls_of mixed Tryd.func19 ?_
  rw [table_Packed_At_den]
  unfold table_Packed_At_T
  unfold table_Packed_At_D at hd
  have n2_ : p_0.1.2.1 = List.length d_p_0_0 := k1_.length
  have n4_ : p_0.2.1.2.1 = List.length d_p_0_1 := k3_.length
  have n6_ : p_0.2.2.1.2.1 = List.length d_p_0_2 := k5_.length
  have n8_ : p_0.2.2.2.1.2.1 = List.length d_p_0_3 := k7_.length
  refine s_new (vs := [.slice p_0.1.1 p_0.1.2.1 p_0.1.2.2, .slice p_0.2.1.1 p_0.2.1.2.1 p_0.2.1.2.2, .slice p_0.2.2.1.1 p_0.2.2.1.2.1 p_0.2.2.1.2.2, .slice p_0.2.2.2.1.1 p_0.2.2.2.1.2.1 p_0.2.2.2.1.2.2]) s0 ?_
  intro r1 h10_ s9_
  obtain ⟨g11_, hx12_, hd⟩ := Option.bind_eq_some_iff.1 hd
  refine s_join (fun (y : Bool × Unit) w_ g => ∃ ψ : Snap, Sub φ ψ ∧ y.1 = g ∧ St ψ (⟨Rep.raw 34, [.pointer (some ⟨r1, 0, none⟩)], [.slice p_0.1.1 p_0.1.2.1 p_0.1.2.2, .slice p_0.2.1.1 p_0.2.1.2.1 p_0.2.1.2.2, .slice p_0.2.2.1.1 p_0.2.2.1.2.1 p_0.2.2.1.2.2, .slice p_0.2.2.2.1.1 p_0.2.2.2.1.2.1 p_0.2.2.2.1.2.2]⟩ :: F) w_) (g := g11_) ?_ ?_
  · refine s_cond hx12_ rfl (fun hb24_ hx12_ => ?_) (fun hb24_ hx12_ => ?_)
    · obtain rfl := Option.some.inj hx12_
      exact s_out (true, ()) rfl ⟨φ, (Sub.refl _), rfl, s9_⟩
    · refine s_loadR (b := r1) (j := 1) (x := p_0.2.1) s9_ rfl ?_
      refine s_cond hx12_ (by rw [n4_]) (fun hb23_ hx12_ => ?_) (fun hb23_ hx12_ => ?_)
      · obtain rfl := Option.some.inj hx12_
        exact s_out (true, ()) rfl ⟨φ, (Sub.refl _), rfl, s9_⟩
      · refine s_cond hx12_ rfl (fun hb22_ hx12_ => ?_) (fun hb22_ hx12_ => ?_)
        · obtain rfl := Option.some.inj hx12_
          exact s_out (true, ()) rfl ⟨φ, (Sub.refl _), rfl, s9_⟩
        · refine s_loadR (b := r1) (j := 2) (x := p_0.2.2.1) s9_ rfl ?_
          refine s_loadR (b := r1) (j := 1) (x := p_0.2.1) s9_ rfl ?_
          obtain ⟨x13_, hx14_, hx12_⟩ := Option.bind_eq_some_iff.1 hx12_
          obtain ⟨a15_, cs16_, ea17_, hi18_, q19_, cl20_⟩ := k3_.get hx14_
          refine t_deref _ ea17_ (t_chk hi18_ ?_)
          obtain rfl := q19_
          refine s_load (x := x13_) (cellS_heap (Sub.trans (Sub.refl _) s9_.sub) (cl20_ 0 _ rfl)) rfl ?_
          obtain rfl := Option.some.inj hx12_
          exact s_out ((decide (col_2 ≥ (IntKind.wrap .i64 (((p_0.2.2.1.2.1 : Nat) : Int) - x13_)))), ()) rfl ⟨φ, (Sub.refl _), (by rw [n6_]), s9_⟩
  · rintro z2 h25_ ⟨f26_, le27_, rfl, s28_⟩
    try dsimp only at hd
    refine s_cond hd rfl (fun hb69_ hd => ?_) (fun hb69_ hd => ?_)
    · obtain rfl := Option.some.inj hd
      have s29_ := s28_.tail
      exact finOf_back ⟨f26_, (0 : Int), le27_, rfl, rfl, s29_⟩
    · refine s_loadR (b := r1) (j := 1) (x := p_0.2.1) s28_ rfl ?_
      obtain ⟨x30_, hx31_, hd⟩ := Option.bind_eq_some_iff.1 hd
      obtain ⟨a32_, cs33_, ea34_, hi35_, q36_, cl37_⟩ := (k3_.mono le27_).get hx31_
      refine t_deref _ ea34_ (t_chk hi35_ ?_)
      obtain rfl := q36_
      refine s_load (x := x30_) (cellS_heap (Sub.trans (Sub.refl _) s28_.sub) (cl37_ 0 _ rfl)) rfl ?_
      refine s_loadR (b := r1) (j := 3) (x := p_0.2.2.2.1) s28_ rfl ?_
      obtain ⟨x39_, hx40_, hd⟩ := Option.bind_eq_some_iff.1 hd
      obtain ⟨a41_, cs42_, ea43_, hi44_, q45_, cl46_⟩ := (k7_.mono le27_).get hx40_
      refine t_deref _ ea43_ (t_chk hi44_ ?_)
      obtain rfl := q45_
      refine s_load (x := x39_) (cellS_heap (Sub.trans (Sub.refl _) s28_.sub) (cl46_ 0 _ rfl)) rfl ?_
      refine s_loadR (b := r1) (j := 0) (x := p_0.1) s28_ rfl ?_
      obtain ⟨x48_, hx49_, hd⟩ := Option.bind_eq_some_iff.1 hd
      obtain ⟨a50_, cs51_, ea52_, hi53_, q54_, cl55_⟩ := (k1_.mono le27_).get hx49_
      refine t_deref _ ea52_ (t_chk hi53_ ?_)
      obtain rfl := q54_
      refine s_load (x := x48_) (cellS_heap (Sub.trans (Sub.refl _) s28_.sub) (cl55_ 0 _ rfl)) rfl ?_
      refine s_cond hd rfl (fun hb68_ hd => ?_) (fun hb68_ hd => ?_)
      · obtain rfl := Option.some.inj hd
        have s57_ := s28_.tail
        exact finOf_back ⟨f26_, (0 : Int), le27_, rfl, rfl, s57_⟩
      · refine s_loadR (b := r1) (j := 2) (x := p_0.2.2.1) s28_ rfl ?_
        obtain ⟨x58_, hx59_, hd⟩ := Option.bind_eq_some_iff.1 hd
        obtain ⟨a60_, cs61_, ea62_, hi63_, q64_, cl65_⟩ := (k5_.mono le27_).get hx59_
        refine t_deref _ ea62_ (t_chk hi63_ ?_)
        obtain rfl := q64_
        refine s_load (x := x58_) (cellS_heap (Sub.trans (Sub.refl _) s28_.sub) (cl65_ 0 _ rfl)) rfl ?_
        obtain rfl := Option.some.inj hd
        have s67_ := s28_.tail
        exact finOf_back ⟨f26_, x58_, le27_, rfl, rfl, s67_⟩

noncomputable def tronageref15_Trim_D (row_0 : List Int) : Option (List Int) :=
  (forS (σ := Int) (0 : Int) (((List.length row_0) : Nat) : Int) (0 : Int) fun i_z2 z2 =>
    (idx row_0 i_z2).bind fun e23 =>
    (cond (e23 != (0 : Int))
    (some (IntKind.wrap .i64 (i_z2 + (1 : Int))))
    (some z2)).bind fun z5 =>
    some z5).bind fun z1 =>
  (cut row_0 (0 : Int) z1).bind fun c49 =>
  (app ([] : List Int) c49).bind fun t7 =>
  some t7
theorem tronageref15_Trim_sim {φ : Snap} {h : Heap} {F : List Chk} {row_0 : Slc} {d_row_0 : List Int} (k1_ : Ro.SliceIs (Ro.int .i64) φ row_0 d_row_0) (s0 : St φ (F) h) {r : List Int} (hd : tronageref15_Trim_D d_row_0 = some r) :
    CallsH Tryd.prog 12 [(.slice row_0.1 row_0.2.1 row_0.2.2)] h (Back fun v h' => ∃ ψ : Snap, ∃ y : Option Addr × Nat × Nat, ∃ l64_ : List Int, Sub φ ψ ∧ v = ((.one (.atom .slice)) : Sh).val y ∧ l64_ = r ∧ Ro.SliceIs (Ro.int .i64) ψ y l64_ ∧ St ψ (F) h') := by
  refine calls_of mixed Tryd.func12 ?_
  rw [tronageref15_Trim_den]
  unfold tronageref15_Trim_T
  unfold tronageref15_Trim_D at hd
  have n2_ : row_0.2.1 = List.length d_row_0 := k1_.length
  obtain ⟨g3_, hx4_, hd⟩ := Option.bind_eq_some_iff.1 hd
  refine s_block (fun (y : Int × Int × Unit) w_ g => ∃ ψ : Snap, Sub φ ψ ∧ y.2.1 = g ∧ St ψ (F) w_) (g := g3_) ?_ ?_
  · refine s_forS hx4_ (fun i5_ (y : Int × Int × Unit) w_ g => ∃ ψ : Snap, Sub φ ψ ∧ y.1 = i5_ ∧ y.2.1 = g ∧ St ψ (F) w_) ((0 : Int), (0 : Int), ()) rfl ⟨φ, (Sub.refl _), rfl, rfl, s0⟩ ?_ ?_
    · rintro _ z2 h11_ _ _ ⟨f8_, le9_, rfl, rfl, s10_⟩ he6_ h113_ h214_ hw12_
      try dsimp only at he6_ h113_ h214_ hw12_
      refine t_true (by rw [n2_]; exact decide_eq_true h214_) ?_
      obtain ⟨x15_, hx16_, he6_⟩ := Option.bind_eq_some_iff.1 he6_
      obtain ⟨a17_, cs18_, ea19_, hi20_, q21_, cl22_⟩ := (k1_.mono le9_).get hx16_
      refine t_deref _ ea19_ (t_chk hi20_ ?_)
      obtain rfl := q21_
      refine s_load (x := x15_) (cellS_heap (Sub.trans (Sub.refl _) s10_.sub) (cl22_ 0 _ rfl)) rfl ?_
      obtain ⟨g24_, hx25_, he6_⟩ := Option.bind_eq_some_iff.1 he6_
      refine s_join (fun (y : Int × Unit) w_ g => ∃ ψ : Snap, Sub f8_ ψ ∧ y.1 = g ∧ St ψ (F) w_) (g := g24_) ?_ ?_
      · refine s_cond hx25_ rfl (fun hb26_ hx25_ => ?_) (fun hb26_ hx25_ => ?_)
        · obtain rfl := Option.some.inj hx25_
          exact s_out ((IntKind.wrap .i64 (z2.1 + (1 : Int))), ()) rfl ⟨f8_, (Sub.refl _), rfl, s10_⟩
        · obtain rfl := Option.some.inj hx25_
          exact s_out (z2.2.1, ()) rfl ⟨f8_, (Sub.refl _), rfl, s10_⟩
      · rintro z5 h27_ ⟨f28_, le29_, rfl, s30_⟩
        try dsimp only at he6_
        obtain rfl := Option.some.inj he6_
        exact s_next ((IntKind.wrap .i64 (z2.1 + (1 : Int))), z5.1, ()) _ rfl rfl ⟨f28_, (le9_.trans le29_), hw12_, rfl, s30_⟩
    · rintro _ z2 h34_ ⟨f31_, le32_, rfl, rfl, s33_⟩ hge35_
      refine t_false (by rw [n2_]; exact decide_eq_false (Int.not_lt.2 hge35_)) ?_
      exact around_brk (meetB_brk (z2.1, z2.2.1, ()) rfl ⟨f31_, le32_, rfl, s33_⟩)
  · rintro z1 h37_ ⟨f38_, le39_, rfl, s40_⟩
    try dsimp only at hd
    refine s_new (vs := []) s40_ ?_
    intro r6 h43_ s42_
    obtain ⟨y44_, hy45_, hd⟩ := Option.bind_eq_some_iff.1 hd
    obtain ⟨hc46_, k47_⟩ := (k1_.mono le39_).cut (sz := 1) hy45_ rfl
    refine t_chk hc46_ ?_
    have n48_ := k47_.length
    obtain ⟨ws52_, al51_, cw50_⟩ := k47_.heap s42_.sub
    have s53_ := St.lit (r := (Ro.int .i64)) (l := ([] : List Int)) (n := 0) s42_ .nil rfl (by decide)
    obtain ⟨y54_, hy55_, hd⟩ := Option.bind_eq_some_iff.1 hd
    refine s_append (r := (Ro.int .i64)) (ms := y44_) appT_26_26 s53_ rfl cw50_ al51_ n48_.symm hy55_ ?_
    intro t7 h56_ s57_
    have n58_ := s57_.rowLen
    obtain ⟨f60_, le61_, k62_, s63_⟩ := St.freezeRow (t := t7) s57_
    obtain rfl := Option.some.inj hd
    exact finOf_back ⟨f60_, t7, y54_, (le39_.trans le61_), rfl, rfl, k62_, s63_⟩

noncomputable def tronageref15_Share_D (rows_0 : List (List Int)) : Option (List Int × List (List Int)) :=
  (forS (σ := (List (List Int) × List Int)) (0 : Int) (((List.length rows_0) : Nat) : Int) (([] : List (List Int)), ([] : List Int)) fun i_z2 z2 =>
    (idx rows_0 i_z2).bind fun e34 =>
    (tronageref15_Trim_D e34).bind fun t5 =>
    (loop (σ := Int) (β := Int) (0 : Int) fun z7 =>
      (cond (decide (z7 < (((List.length z2.1) : Nat) : Int)))
      ((idx z2.1 z7).bind fun e67 =>
        (tronageref01_Ints_D e67 t5).bind fun t11 =>
        some (!t11))
      (some false)).bind fun z8 =>
      cond z8
      (some (Step.next (IntKind.wrap .i64 (z7 + (1 : Int)))))
      (some (Step.done z7))).bind fun z6 =>
    (cond (z6 == (((List.length z2.1) : Nat) : Int))
    ((app z2.1 ([t5] : List (List Int))).bind fun t14 =>
      some t14)
    (some z2.1)).bind fun z12 =>
    (app z2.2 ([z6] : List Int)).bind fun t16 =>
    some (z12, t16)).bind fun z1 =>
  some (z1.2, z1.1)
theorem tronageref15_Share_sim {φ : Snap} {h : Heap} {F : List Chk} {rows_0 : Slc} {d_rows_0 : List (List Int)} (k1_ : Ro.SliceIs (Ro.list (Ro.int .i64)) φ rows_0 d_rows_0) (s0 : St φ (F) h) {r : (List Int × List (List Int))} (hd : tronageref15_Share_D d_rows_0 = some r) :
    CallsH Tryd.prog 16 [(.slice rows_0.1 rows_0.2.1 rows_0.2.2)] h (Back fun v h' => ∃ ψ : Snap, ∃ y : (Option Addr × Nat × Nat) × (Option Addr × Nat × Nat) × Unit, ∃ l169_ : List Int, ∃ l170_ : List (List Int), Sub φ ψ ∧ v = ((.tuple [(.atom .slice), (.atom .slice)]) : Sh).val y ∧ (l169_, l170_) = r ∧ Ro.SliceIs (Ro.int .i64) ψ y.1 l169_ ∧ Ro.SliceIs (Ro.list (Ro.int .i64)) ψ y.2.1 l170_ ∧ St ψ (F) h') := by
  refine calls_of mixed Tryd.func16 ?_
  rw [tronageref15_Share_den]
  unfold tronageref15_Share_T
  unfold tronageref15_Share_D at hd
  have n2_ : rows_0.2.1 = List.length d_rows_0 := k1_.length
  have s5_ := s0.nil 26 (Ro.list (Ro.int .i64))
  have s6_ := s5_.nil 3 (Ro.int .i64)
  have s7_ := s6_.at1
  obtain ⟨g3_, hx4_, hd⟩ := Option.bind_eq_some_iff.1 hd
  refine s_block (fun (y : Int × (Option Addr × Nat × Nat) × (Option Addr × Nat × Nat) × Unit) w_ g => ∃ ψ : Snap, ∃ l8_ : List (List Int), ∃ l9_ : List Int, Sub φ ψ ∧ (l8_, l9_) = g ∧ St ψ (⟨Rep.row 26 (Ro.list (Ro.int .i64)), [.slice y.2.1.1 y.2.1.2.1 y.2.1.2.2], l8_⟩ :: ⟨Rep.row 3 (Ro.int .i64), [.slice y.2.2.1.1 y.2.2.1.2.1 y.2.2.1.2.2], l9_⟩ :: F) w_) (g := g3_) ?_ ?_
  · refine s_forS hx4_ (fun i12_ (y : Int × (Option Addr × Nat × Nat) × (Option Addr × Nat × Nat) × Unit) w_ g => ∃ ψ : Snap, ∃ l10_ : List (List Int), ∃ l11_ : List Int, Sub φ ψ ∧ y.1 = i12_ ∧ (l10_, l11_) = g ∧ St ψ (⟨Rep.row 26 (Ro.list (Ro.int .i64)), [.slice y.2.1.1 y.2.1.2.1 y.2.1.2.2], l10_⟩ :: ⟨Rep.row 3 (Ro.int .i64), [.slice y.2.2.1.1 y.2.2.1.2.1 y.2.2.1.2.2], l11_⟩ :: F) w_) ((0 : Int), ((none, 0, 0) : Slc), ((none, 0, 0) : Slc), ()) rfl ⟨φ, ([] : List (List Int)), ([] : List Int), (Sub.refl _), rfl, rfl, s7_⟩ ?_ ?_
    · rintro _ z2 h18_ _ _ ⟨f15_, d19_, d21_, le16_, rfl, rfl, s17_⟩ he13_ h124_ h225_ hw23_
      try dsimp only at he13_ h124_ h225_ hw23_
      have n20_ := s17_.rowLen
      have n22_ := s17_.at1.rowLen
      refine t_true (by rw [n2_]; exact decide_eq_true h225_) ?_
      obtain ⟨x26_, hx27_, he13_⟩ := Option.bind_eq_some_iff.1 he13_
      obtain ⟨a28_, cs29_, ea30_, hi31_, q32_, cl33_⟩ := (k1_.mono le16_).get hx27_
      refine t_deref _ ea30_ (t_chk hi31_ ?_)
      obtain ⟨t35_, rfl, k36_⟩ := q32_
      have n37_ := k36_.length
      refine s_load (x := t35_) (cellS_heap (Sub.trans (Sub.refl _) s17_.sub) (cl33_ 0 _ rfl)) rfl ?_
      obtain ⟨r38_, hr39_, he13_⟩ := Option.bind_eq_some_iff.1 he13_
      refine s_call (tronageref15_Trim_sim k36_ s17_ hr39_) ?_
      rintro _ h40_ ⟨f41_, t5, d44_, le43_, rfl, rfl, k46_, s42_⟩
      refine ⟨t5, rfl, ?_⟩
      have n45_ := k46_.length
      have s49_ := s42_.at1
      have s50_ := s49_.at1
      obtain ⟨g47_, hx48_, he13_⟩ := Option.bind_eq_some_iff.1 he13_
      refine s_block (fun (y : Int × Unit) w_ g => ∃ ψ : Snap, Sub f41_ ψ ∧ y.1 = g ∧ St ψ (⟨Rep.row 26 (Ro.list (Ro.int .i64)), [.slice z2.2.1.1 z2.2.1.2.1 z2.2.1.2.2], d19_⟩ :: ⟨Rep.row 3 (Ro.int .i64), [.slice z2.2.2.1.1 z2.2.2.1.2.1 z2.2.2.1.2.2], d21_⟩ :: F) w_) (g := g47_) ?_ ?_
      · refine s_loop hx48_ (fun (y : Int × Unit) w_ g => ∃ ψ : Snap, Sub f41_ ψ ∧ y.1 = g ∧ St ψ (⟨Rep.row 26 (Ro.list (Ro.int .i64)), [.slice z2.2.1.1 z2.2.1.2.1 z2.2.1.2.2], d19_⟩ :: ⟨Rep.row 3 (Ro.int .i64), [.slice z2.2.2.1.1 z2.2.2.1.2.1 z2.2.2.1.2.2], d21_⟩ :: F) w_) ((0 : Int), ()) rfl ⟨f41_, (Sub.refl _), rfl, s50_⟩ ?_
        · rintro z7 h56_ _ _ ⟨f53_, le54_, rfl, s55_⟩ he51_ hb52_
          try dsimp only at he51_
          obtain ⟨g57_, hx58_, he51_⟩ := Option.bind_eq_some_iff.1 he51_
          refine s_join (fun (y : Bool × Unit) w_ g => ∃ ψ : Snap, Sub f53_ ψ ∧ y.1 = g ∧ St ψ (⟨Rep.row 26 (Ro.list (Ro.int .i64)), [.slice z2.2.1.1 z2.2.1.2.1 z2.2.1.2.2], d19_⟩ :: ⟨Rep.row 3 (Ro.int .i64), [.slice z2.2.2.1.1 z2.2.2.1.2.1 z2.2.2.1.2.2], d21_⟩ :: F) w_) (g := g57_) ?_ ?_
          · refine s_cond hx58_ (by rw [n20_]) (fun hb81_ hx58_ => ?_) (fun hb81_ hx58_ => ?_)
            · obtain ⟨x59_, hx60_, hx58_⟩ := Option.bind_eq_some_iff.1 hx58_
              obtain ⟨a61_, cs62_, ea63_, hi64_, q65_, cl66_⟩ := (s55_).get hx60_
              refine t_deref _ ea63_ (t_chk hi64_ ?_)
              obtain ⟨t68_, rfl, k69_⟩ := q65_
              have n70_ := k69_.length
              refine s_load (x := t68_) (cl66_ 0 _ rfl) rfl ?_
              obtain ⟨r71_, hr72_, hx58_⟩ := Option.bind_eq_some_iff.1 hx58_
              refine s_call (tronageref01_Ints_sim k69_ (k46_.mono le54_) s55_ hr72_) ?_
              rintro _ h73_ ⟨f74_, t11, le76_, rfl, rfl, s75_⟩
              refine ⟨t11, rfl, ?_⟩
              have s77_ := s75_.at1
              have s78_ := s77_.at1
              obtain rfl := Option.some.inj hx58_
              exact s_out ((!t11), ()) rfl ⟨f74_, le76_, rfl, s78_⟩
            · have s79_ := s55_.at1
              have s80_ := s79_.at1
              obtain rfl := Option.some.inj hx58_
              exact s_out (false, ()) rfl ⟨f53_, (Sub.refl _), rfl, s80_⟩
          · rintro z8 h82_ ⟨f83_, le84_, rfl, s85_⟩
            try dsimp only at he51_
            refine s_cond he51_ rfl (fun hb90_ he51_ => ?_) (fun hb90_ he51_ => ?_)
            · have s86_ := s85_.at1
              have s87_ := s86_.at1
              obtain rfl := Option.some.inj he51_
              exact s_next ((IntKind.wrap .i64 (z7.1 + (1 : Int))), ()) _ rfl rfl ⟨f83_, (le54_.trans le84_), rfl, s87_⟩
            · have s88_ := s85_.at1
              have s89_ := s88_.at1
              obtain rfl := Option.some.inj he51_
              obtain rfl := hb52_ _ rfl
              exact around_brk (meetB_brk (z7.1, ()) rfl ⟨f83_, (le54_.trans le84_), rfl, s89_⟩)
      · rintro z6 h91_ ⟨f92_, le93_, rfl, s94_⟩
        try dsimp only at he13_
        obtain ⟨g96_, hx97_, he13_⟩ := Option.bind_eq_some_iff.1 he13_
        refine s_join (fun (y : (Option Addr × Nat × Nat) × Unit) w_ g => ∃ ψ : Snap, ∃ l98_ : List (List Int), Sub f92_ ψ ∧ l98_ = g ∧ St ψ (⟨Rep.row 26 (Ro.list (Ro.int .i64)), [.slice y.1.1 y.1.2.1 y.1.2.2], l98_⟩ :: ⟨Rep.row 3 (Ro.int .i64), [.slice z2.2.2.1.1 z2.2.2.1.2.1 z2.2.2.1.2.2], d21_⟩ :: F) w_) (g := g96_) ?_ ?_
        · refine s_cond hx97_ (by rw [n20_]) (fun hb116_ hx97_ => ?_) (fun hb116_ hx97_ => ?_)
          · refine s_new (vs := [.slice t5.1 t5.2.1 t5.2.2]) s94_ ?_
            intro r13 h100_ s99_
            have cw101_ := St.cells s99_
            have s103_ := s99_.tail
            obtain ⟨y105_, hy106_, hx97_⟩ := Option.bind_eq_some_iff.1 hx97_
            refine s_append (r := (Ro.list (Ro.int .i64))) (ms := ([d44_] : List (List Int))) appT_22_22 s103_ rfl cw101_ (.cons (a := [_]) ⟨t5, rfl, (k46_.mono le93_)⟩ .nil) rfl hy106_ ?_
            intro t14 h107_ s108_
            have n109_ := s108_.rowLen
            have s111_ := s108_.at1
            have s112_ := s111_.at1
            obtain rfl := Option.some.inj hx97_
            exact s_out (t14, ()) rfl ⟨f92_, y105_, (Sub.refl _), rfl, s112_⟩
          · have s114_ := s94_.at1
            have s115_ := s114_.at1
            obtain rfl := Option.some.inj hx97_
            exact s_out (z2.2.1, ()) rfl ⟨f92_, d19_, (Sub.refl _), rfl, s115_⟩
        · rintro z12 h117_ ⟨f118_, d121_, le119_, rfl, s120_⟩
          try dsimp only at he13_
          have n122_ := s120_.rowLen
          refine s_new (vs := [.int .i64 z6.1]) s120_ ?_
          intro r15 h124_ s123_
          have cw125_ := St.cells s123_
          have s127_ := s123_.tail
          have s128_ := s127_.at1
          obtain ⟨y129_, hy130_, he13_⟩ := Option.bind_eq_some_iff.1 he13_
          refine s_append (r := (Ro.int .i64)) (ms := ([z6.1] : List Int)) appT_26_26 s128_ rfl cw125_ (.cons (a := [_]) rfl .nil) rfl hy130_ ?_
          intro t16 h131_ s132_
          have n133_ := s132_.rowLen
          have s134_ := s132_.at1
          have s135_ := s134_.at1
          have s136_ := s135_.at1
          obtain rfl := Option.some.inj he13_
          exact s_next ((IntKind.wrap .i64 (z2.1 + (1 : Int))), z12.1, t16, ()) _ rfl rfl ⟨f118_, d121_, y129_, (((le16_.trans le43_).trans le93_).trans le119_), hw23_, rfl, s136_⟩
    · rintro _ z2 h140_ ⟨f137_, d141_, d143_, le138_, rfl, rfl, s139_⟩ hge145_
      have n142_ := s139_.rowLen
      have n144_ := s139_.at1.rowLen
      refine t_false (by rw [n2_]; exact decide_eq_false (Int.not_lt.2 hge145_)) ?_
      have s148_ := s139_.at1
      have s149_ := s148_.at1
      exact around_brk (meetB_brk (z2.1, z2.2.1, z2.2.2.1, ()) rfl ⟨f137_, d141_, d143_, le138_, rfl, s149_⟩)
  · rintro z1 h150_ ⟨f151_, d154_, d156_, le152_, rfl, s153_⟩
    try dsimp only at hd
    have n155_ := s153_.rowLen
    have n157_ := s153_.at1.rowLen
    have s159_ := s153_.at1
    obtain ⟨f160_, le161_, k162_, s163_⟩ := St.freezeRow (t := z1.2.2.1) s159_
    obtain ⟨f165_, le166_, k167_, s168_⟩ := St.freezeRow (t := z1.2.1) s163_
    obtain rfl := Option.some.inj hd
    exact finOf_back ⟨f165_, (z1.2.2.1, z1.2.1, ()), d156_, d154_, ((le152_.trans le161_).trans le166_), rfl, rfl, (k162_.mono le166_), k167_, s168_⟩

noncomputable def tronageref15_Packed_free_D (p_0 : (List Int × List Int × List Int × List Int)) (row_1 : List Int) (at_2 : Int) : Option Bool :=
  (forN (σ := Unit) (β := Bool) (0 : Int) (((List.length row_1) : Nat) : Int) () fun i_z2 z2 =>
    ((idx row_1 i_z2).bind fun e25 =>
    cond (e25 != (0 : Int))
    (cond (decide ((IntKind.wrap .i64 (at_2 + i_z2)) < (((List.length p_0.2.2.2) : Nat) : Int)))
      ((idx p_0.2.2.2 (IntKind.wrap .i64 (at_2 + i_z2))).bind fun e70 =>
        some (e70 != (0 : Int)))
      (some false))
    (some false)).bind fun z3 =>
    cond z3
    (some (Step.done false))
    (some (Step.next ()))).bind fun e_z1 => match e_z1 with
  | .next z1 =>
    some true
  | .done q111 => some q111
theorem tronageref15_Packed_free_sim {φ : Snap} {h : Heap} {F : List Chk} {p_0 : Option Addr} {d_p_0 : (List Int × List Int × List Int × List Int)} {row_1 : Slc} {d_row_1 : List Int} {at_2 : Int} (k1_ : Ro.SliceIs (Ro.int .i64) φ row_1 d_row_1) (s0 : St φ (⟨Rep.obj 40 (Rep.prod (Rep.ro (Ro.list (Ro.int .i64))) (Rep.prod (Rep.row 3 (Ro.int .i64)) (Rep.prod (Rep.row 3 (Ro.int .i64)) (Rep.row 3 (Ro.int .i64))))), [.pointer p_0], d_p_0⟩ :: F) h) {r : Bool} (hd : tronageref15_Packed_free_D d_p_0 d_row_1 at_2 = some r) :
    CallsH Tryd.prog 24 [(.pointer p_0), (.slice row_1.1 row_1.2.1 row_1.2.2), (.int .i64 at_2)] h (Back fun v h' => ∃ ψ : Snap, ∃ y : Bool, Sub φ ψ ∧ v = ((.one (.atom .bool)) : Sh).val y ∧ y = r ∧ St ψ (⟨Rep.obj 40 (Rep.prod (Rep.ro (Ro.list (Ro.int .i64))) (Rep.prod (Rep.row 3 (Ro.int .i64)) (Rep.prod (Rep.row 3 (Ro.int .i64)) (Rep.row 3 (Ro.int .i64))))), [.pointer p_0], d_p_0⟩ :: F) h') := by
  refine calls_of mixed Tryd.func24 ?_
  rw [tronageref15_Packed_free_den]
  unfold tronageref15_Packed_free_T
  unfold tronageref15_Packed_free_D at hd
  have n2_ : row_1.2.1 = List.length d_row_1 := k1_.length
  obtain ⟨g3_, hx4_, hd⟩ := Option.bind_eq_some_iff.1 hd
  refine s_block (fun (y : Int × Bool × Unit) w_ g => ∃ ψ : Snap, Sub φ ψ ∧ Step.next () = g ∧ St ψ (⟨Rep.obj 40 (Rep.prod (Rep.ro (Ro.list (Ro.int .i64))) (Rep.prod (Rep.row 3 (Ro.int .i64)) (Rep.prod (Rep.row 3 (Ro.int .i64)) (Rep.row 3 (Ro.int .i64))))), [.pointer p_0], d_p_0⟩ :: F) w_) (g := g3_) ?_ ?_
  · refine s_forN hx4_ (fun i5_ (y : Int × Bool × Unit) w_ g => ∃ ψ : Snap, Sub φ ψ ∧ y.1 = i5_ ∧ () = g ∧ St ψ (⟨Rep.obj 40 (Rep.prod (Rep.ro (Ro.list (Ro.int .i64))) (Rep.prod (Rep.row 3 (Ro.int .i64)) (Rep.prod (Rep.row 3 (Ro.int .i64)) (Rep.row 3 (Ro.int .i64))))), [.pointer p_0], d_p_0⟩ :: F) w_) ((0 : Int), false, ()) rfl ⟨φ, (Sub.refl _), rfl, rfl, s0⟩ ?_ ?_
    · rintro _ z2 h11_ _ _ ⟨f8_, le9_, rfl, rfl, s10_⟩ he6_ h113_ h214_ hw12_ hb7_
      try dsimp only at he6_ h113_ h214_ hw12_
      refine t_true (by rw [n2_]; exact decide_eq_true h214_) ?_
      obtain ⟨g15_, hx16_, he6_⟩ := Option.bind_eq_some_iff.1 he6_
      refine s_join (fun (y : Bool × Unit) w_ g => ∃ ψ : Snap, Sub f8_ ψ ∧ y.1 = g ∧ St ψ (⟨Rep.obj 40 (Rep.prod (Rep.ro (Ro.list (Ro.int .i64))) (Rep.prod (Rep.row 3 (Ro.int .i64)) (Rep.prod (Rep.row 3 (Ro.int .i64)) (Rep.row 3 (Ro.int .i64))))), [.pointer p_0], d_p_0⟩ :: F) w_) (g := g15_) ?_ ?_
      · obtain ⟨x17_, hx18_, hx16_⟩ := Option.bind_eq_some_iff.1 hx16_
        obtain ⟨a19_, cs20_, ea21_, hi22_, q23_, cl24_⟩ := (k1_.mono le9_).get hx18_
        refine t_deref _ ea21_ (t_chk hi22_ ?_)
        obtain rfl := q23_
        refine s_load (x := x17_) (cellS_heap (Sub.trans (Sub.refl _) s10_.sub) (cl24_ 0 _ rfl)) rfl ?_
        refine s_cond hx16_ rfl (fun hb94_ hx16_ => ?_) (fun hb94_ hx16_ => ?_)
        · obtain ⟨b26_, vs27_, e28_, hl29_, s30_⟩ := s10_.open
          obtain rfl : p_0 = some ⟨b26_, 0, none⟩ := by simpa using e28_
          clear e28_
          have s31_ := s30_.at1
          obtain ⟨v32_, w33_, rfl, hl35_, s34_⟩ := s31_.pair
          obtain ⟨g36_, s37_⟩ := s34_.ro
          obtain ⟨t38_, e39_, k40_⟩ := g36_
          subst e39_
          have n41_ := k40_.length
          obtain ⟨v42_, w43_, rfl, hl45_, s44_⟩ := s37_.pair
          obtain ⟨t46_, e47_⟩ := s44_.rowCs
          subst e47_
          have n48_ := s44_.rowLen
          have s49_ := s44_.at1
          obtain ⟨v50_, w51_, rfl, hl53_, s52_⟩ := s49_.pair
          obtain ⟨t54_, e55_⟩ := s52_.rowCs
          subst e55_
          have n56_ := s52_.rowLen
          have s57_ := s52_.at1
          obtain ⟨t58_, e59_⟩ := s57_.rowCs
          subst e59_
          have n60_ := s57_.rowLen
          have s61_ : St f8_ (⟨Rep.row 3 (Ro.int .i64), [.slice t58_.1 t58_.2.1 t58_.2.2], d_p_0.2.2.2⟩ :: ⟨Rep.row 3 (Ro.int .i64), [.slice t54_.1 t54_.2.1 t54_.2.2], d_p_0.2.2.1⟩ :: ⟨Rep.row 3 (Ro.int .i64), [.slice t46_.1 t46_.2.1 t46_.2.2], d_p_0.2.1⟩ :: ⟨Rep.raw 40, [.pointer (some ⟨b26_, 0, none⟩)], [.slice t38_.1 t38_.2.1 t38_.2.2, .slice t46_.1 t46_.2.1 t46_.2.2, .slice t54_.1 t54_.2.1 t54_.2.2, .slice t58_.1 t58_.2.1 t58_.2.2]⟩ :: F) _ := s57_
          refine t_deref _ rfl ?_
          refine s_loadR (b := b26_) (j := 3) (x := t58_) s61_.at3 rfl ?_
          refine s_cond hx16_ (by rw [n60_]) (fun hb93_ hx16_ => ?_) (fun hb93_ hx16_ => ?_)
          · refine t_deref _ rfl ?_
            refine s_loadR (b := b26_) (j := 3) (x := t58_) s61_.at3 rfl ?_
            obtain ⟨x62_, hx63_, hx16_⟩ := Option.bind_eq_some_iff.1 hx16_
            obtain ⟨a64_, cs65_, ea66_, hi67_, q68_, cl69_⟩ := (s61_).get hx63_
            refine t_deref _ ea66_ (t_chk hi67_ ?_)
            obtain rfl := q68_
            refine s_load (x := x62_) (cl69_ 0 _ rfl) rfl ?_
            have s71_ := s61_.at2
            have s72_ := s71_.at2
            have s73_ := s72_.at2
            have s75_ := s73_.at1
            have s76_ := St.unpair s75_
            have s77_ := s76_.at1
            have s78_ := St.unpair s77_
            have s79_ := St.unro (r := (Ro.list (Ro.int .i64))) (cs := [.slice t38_.1 t38_.2.1 t38_.2.2]) (x := d_p_0.1) s78_ ⟨t38_, rfl, k40_⟩
            have s80_ := St.unpair s79_
            have s81_ : St f8_ (⟨Rep.obj 40 (Rep.prod (Rep.ro (Ro.list (Ro.int .i64))) (Rep.prod (Rep.row 3 (Ro.int .i64)) (Rep.prod (Rep.row 3 (Ro.int .i64)) (Rep.row 3 (Ro.int .i64))))), [.pointer (some ⟨b26_, 0, none⟩)], (d_p_0.1, d_p_0.2.1, d_p_0.2.2.1, d_p_0.2.2.2)⟩ :: F) _ := St.shut s80_.at1
            obtain rfl := Option.some.inj hx16_
            exact s_out ((x62_ != (0 : Int)), ()) rfl ⟨f8_, (Sub.refl _), rfl, s81_⟩
          · have s82_ := s61_.at2
            have s83_ := s82_.at2
            have s84_ := s83_.at2
            have s86_ := s84_.at1
            have s87_ := St.unpair s86_
            have s88_ := s87_.at1
            have s89_ := St.unpair s88_
            have s90_ := St.unro (r := (Ro.list (Ro.int .i64))) (cs := [.slice t38_.1 t38_.2.1 t38_.2.2]) (x := d_p_0.1) s89_ ⟨t38_, rfl, k40_⟩
            have s91_ := St.unpair s90_
            have s92_ : St f8_ (⟨Rep.obj 40 (Rep.prod (Rep.ro (Ro.list (Ro.int .i64))) (Rep.prod (Rep.row 3 (Ro.int .i64)) (Rep.prod (Rep.row 3 (Ro.int .i64)) (Rep.row 3 (Ro.int .i64))))), [.pointer (some ⟨b26_, 0, none⟩)], (d_p_0.1, d_p_0.2.1, d_p_0.2.2.1, d_p_0.2.2.2)⟩ :: F) _ := St.shut s91_.at1
            obtain rfl := Option.some.inj hx16_
            exact s_out (false, ()) rfl ⟨f8_, (Sub.refl _), rfl, s92_⟩
        · obtain rfl := Option.some.inj hx16_
          exact s_out (false, ()) rfl ⟨f8_, (Sub.refl _), rfl, s10_⟩
      · rintro z3 h95_ ⟨f96_, le97_, rfl, s98_⟩
        try dsimp only at he6_
        refine s_cond he6_ rfl (fun hb99_ he6_ => ?_) (fun hb99_ he6_ => ?_)
        · obtain rfl := Option.some.inj he6_
          obtain rfl := hb7_ _ rfl
          try dsimp only at hd
          obtain rfl := Option.some.inj hd
          exact around_ret (meetB_ret (finOf_back ⟨f96_, false, (le9_.trans le97_), rfl, rfl, s98_⟩))
        · obtain rfl := Option.some.inj he6_
          exact s_next ((IntKind.wrap .i64 (z2.1 + (1 : Int))), z2.2.1, ()) _ rfl rfl ⟨f96_, (le9_.trans le97_), hw12_, rfl, s98_⟩
    · rintro _ z2 h103_ _ ⟨f100_, le101_, rfl, rfl, s102_⟩ hge104_ hr105_
      subst hr105_
      refine t_false (by rw [n2_]; exact decide_eq_false (Int.not_lt.2 hge104_)) ?_
      exact around_brk (meetB_brk (z2.1, z2.2.1, ()) rfl ⟨f100_, le101_, rfl, s102_⟩)
  · rintro z1 h106_ ⟨f107_, le108_, rfl, s109_⟩
    try dsimp only at hd
    obtain rfl := Option.some.inj hd
    exact finOf_back ⟨f107_, true, le108_, rfl, rfl, s109_⟩

noncomputable def tronageref15_Pack_D (rows_0 : List (List Int)) : Option (List Int × List Int × List Int × List Int) :=
  (tronageref15_Share_D rows_0).bind fun t1 =>
  (forS (σ := (List Int × (List Int × List Int × List Int × List Int))) (0 : Int) (((List.length t1.2) : Nat) : Int) (([] : List Int), (t1.1, ([] : List Int), ([] : List Int), ([] : List Int))) fun i_z4 z4 =>
    (loop (σ := Int) (β := Int) (0 : Int) fun z6 =>
      (idx t1.2 i_z4).bind fun e68 =>
      (tronageref15_Packed_free_D z4.2 e68 z6).bind fun t9 =>
      cond (!t9)
      (some (Step.next (IntKind.wrap .i64 (z6 + (1 : Int)))))
      (some (Step.done z6))).bind fun z5 =>
    (app z4.1 ([z5] : List Int)).bind fun t11 =>
    (loop (σ := (Int × (List Int × List Int × List Int × List Int))) (β := (List Int × List Int × List Int × List Int)) ((0 : Int), z4.2) fun z13 =>
      (idx t1.2 i_z4).bind fun e118 =>
      cond (decide (z13.1 < (((List.length e118) : Nat) : Int)))
      ((loop (σ := (List Int × List Int × List Int × List Int)) (β := (List Int × List Int × List Int × List Int)) z13.2 fun z17 =>
          ((idx t1.2 i_z4).bind fun e145 =>
          (idx e145 z13.1).bind fun e157 =>
          cond (e157 != (0 : Int))
          (some (decide ((((List.length z17.2.2.1) : Nat) : Int) ≤ (IntKind.wrap .i64 (z5 + z13.1)))))
          (some false)).bind fun z18 =>
          cond z18
          ((app z17.2.2.1 ([(0 : Int)] : List Int)).bind fun t26 =>
            (app z17.2.2.2 ([(0 : Int)] : List Int)).bind fun t29 =>
            some (Step.next (z17.1, z17.2.1, t26, t29)))
          (some (Step.done z17))).bind fun z16 =>
        (idx t1.2 i_z4).bind fun e306 =>
        (idx e306 z13.1).bind fun e318 =>
        (cond (e318 != (0 : Int))
        ((idx t1.2 i_z4).bind fun e366 =>
          (idx e366 z13.1).bind fun e378 =>
          (setI z16.2.2.1 (IntKind.wrap .i64 (z5 + z13.1)) e378).bind fun m391 =>
          (setI z16.2.2.2 (IntKind.wrap .i64 (z5 + z13.1)) (IntKind.wrap .i64 (i_z4 + (1 : Int)))).bind fun m406 =>
          some (z16.1, z16.2.1, m391, m406))
        (some z16)).bind fun z34 =>
        some (Step.next ((IntKind.wrap .i64 (z13.1 + (1 : Int))), z34)))
      (some (Step.done z13.2))).bind fun z12 =>
    some (t11, z12)).bind fun z3 =>
  (forS (σ := (List Int × List Int × List Int × List Int)) (0 : Int) (((List.length t1.1) : Nat) : Int) z3.2 fun i_z44 z44 =>
    (idx t1.1 i_z44).bind fun e524 =>
    (idx z3.1 e524).bind fun e533 =>
    (app z44.2.1 ([e533] : List Int)).bind fun t51 =>
    some (z44.1, t51, z44.2.2.1, z44.2.2.2)).bind fun z43 =>
  some z43
theorem tronageref15_Pack_sim {φ : Snap} {h : Heap} {F : List Chk} {rows_0 : Slc} {d_rows_0 : List (List Int)} (k1_ : Ro.SliceIs (Ro.list (Ro.int .i64)) φ rows_0 d_rows_0) (s0 : St φ (F) h) {r : (List Int × List Int × List Int × List Int)} (hd : tronageref15_Pack_D d_rows_0 = some r) :
    CallsH Tryd.prog 17 [(.slice rows_0.1 rows_0.2.1 rows_0.2.2)] h (Back fun v h' => ∃ ψ : Snap, ∃ y : Option Addr, ∃ l580_ : (List Int × List Int × List Int × List Int), Sub φ ψ ∧ v = ((.one (.atom .pointer)) : Sh).val y ∧ l580_ = r ∧ (Ro.via (Ro.ptr (Ro.prod (Ro.list (Ro.int .i64)) (Ro.prod (Ro.list (Ro.int .i64)) (Ro.prod (Ro.list (Ro.int .i64)) (Ro.list (Ro.int .i64)))))) some).is ψ [.pointer y] l580_ ∧ St ψ (F) h') := by
  refine calls_of mixed Tryd.func17 ?_
  rw [tronageref15_Pack_den]
  unfold tronageref15_Pack_T
  unfold tronageref15_Pack_D at hd
  have n2_ : rows_0.2.1 = List.length d_rows_0 := k1_.length
  obtain ⟨r3_, hr4_, hd⟩ := Option.bind_eq_some_iff.1 hd
  refine s_call (tronageref15_Share_sim k1_ s0 hr4_) ?_
  rintro _ h5_ ⟨f6_, t1, d9_, d12_, le8_, rfl, rfl, k11_, k14_, s7_⟩
  refine ⟨t1, rfl, ?_⟩
  try dsimp only at hd
  have n10_ := k11_.length
  have n13_ := k14_.length
  refine s_new (vs := [.slice t1.1.1 t1.1.2.1 t1.1.2.2, .slice none 0 0, .slice none 0 0, .slice none 0 0]) s7_ ?_
  intro r2 h16_ s15_
  have s17_ := s15_.nil 3 (Ro.int .i64)
  have s18_ := s17_.nil 3 (Ro.int .i64)
  have s19_ := s18_.nil 3 (Ro.int .i64)
  have s21_ := s19_.at1
  have s22_ := St.unpair s21_
  have s23_ := s22_.at1
  have s24_ := St.unpair s23_
  have s25_ := St.unro (r := (Ro.list (Ro.int .i64))) (cs := [.slice t1.1.1 t1.1.2.1 t1.1.2.2]) (x := d9_) s24_ ⟨t1.1, rfl, k11_⟩
  have s26_ := St.unpair s25_
  have s27_ : St f6_ (⟨Rep.obj 40 (Rep.prod (Rep.ro (Ro.list (Ro.int .i64))) (Rep.prod (Rep.row 3 (Ro.int .i64)) (Rep.prod (Rep.row 3 (Ro.int .i64)) (Rep.row 3 (Ro.int .i64))))), [.pointer (some ⟨r2, 0, none⟩)], (d9_, ([] : List Int), ([] : List Int), ([] : List Int))⟩ :: F) _ := St.shut s26_.at1
  have s30_ := s27_.nil 3 (Ro.int .i64)
  have s31_ := s30_.at1
  have s32_ := s31_.at1
  obtain ⟨g28_, hx29_, hd⟩ := Option.bind_eq_some_iff.1 hd
  refine s_block (fun (y : Int × (Option Addr × Nat × Nat) × Unit) w_ g => ∃ ψ : Snap, ∃ l33_ : List Int, ∃ l34_ : (List Int × List Int × List Int × List Int), Sub f6_ ψ ∧ (l33_, l34_) = g ∧ St ψ (⟨Rep.row 3 (Ro.int .i64), [.slice y.2.1.1 y.2.1.2.1 y.2.1.2.2], l33_⟩ :: ⟨Rep.obj 40 (Rep.prod (Rep.ro (Ro.list (Ro.int .i64))) (Rep.prod (Rep.row 3 (Ro.int .i64)) (Rep.prod (Rep.row 3 (Ro.int .i64)) (Rep.row 3 (Ro.int .i64))))), [.pointer (some ⟨r2, 0, none⟩)], l34_⟩ :: F) w_) (g := g28_) ?_ ?_
  · refine s_forS hx29_ (fun i37_ (y : Int × (Option Addr × Nat × Nat) × Unit) w_ g => ∃ ψ : Snap, ∃ l35_ : List Int, ∃ l36_ : (List Int × List Int × List Int × List Int), Sub f6_ ψ ∧ y.1 = i37_ ∧ (l35_, l36_) = g ∧ St ψ (⟨Rep.row 3 (Ro.int .i64), [.slice y.2.1.1 y.2.1.2.1 y.2.1.2.2], l35_⟩ :: ⟨Rep.obj 40 (Rep.prod (Rep.ro (Ro.list (Ro.int .i64))) (Rep.prod (Rep.row 3 (Ro.int .i64)) (Rep.prod (Rep.row 3 (Ro.int .i64)) (Rep.row 3 (Ro.int .i64))))), [.pointer (some ⟨r2, 0, none⟩)], l36_⟩ :: F) w_) ((0 : Int), ((none, 0, 0) : Slc), ()) rfl ⟨f6_, ([] : List Int), (d9_, ([] : List Int), ([] : List Int), ([] : List Int)), (Sub.refl _), rfl, rfl, s32_⟩ ?_ ?_
    · rintro _ z4 h43_ _ _ ⟨f40_, d44_, d46_, le41_, rfl, rfl, s42_⟩ he38_ h148_ h249_ hw47_
      try dsimp only at he38_ h148_ h249_ hw47_
      have n45_ := s42_.rowLen
      refine t_true (by rw [n13_]; exact decide_eq_true h249_) ?_
      have s52_ := s42_.at1
      have s53_ := s52_.at1
      obtain ⟨g50_, hx51_, he38_⟩ := Option.bind_eq_some_iff.1 he38_
      refine s_block (fun (y : Int × Unit) w_ g => ∃ ψ : Snap, Sub f40_ ψ ∧ y.1 = g ∧ St ψ (⟨Rep.row 3 (Ro.int .i64), [.slice z4.2.1.1 z4.2.1.2.1 z4.2.1.2.2], d44_⟩ :: ⟨Rep.obj 40 (Rep.prod (Rep.ro (Ro.list (Ro.int .i64))) (Rep.prod (Rep.row 3 (Ro.int .i64)) (Rep.prod (Rep.row 3 (Ro.int .i64)) (Rep.row 3 (Ro.int .i64))))), [.pointer (some ⟨r2, 0, none⟩)], d46_⟩ :: F) w_) (g := g50_) ?_ ?_
      · refine s_loop hx51_ (fun (y : Int × Unit) w_ g => ∃ ψ : Snap, Sub f40_ ψ ∧ y.1 = g ∧ St ψ (⟨Rep.row 3 (Ro.int .i64), [.slice z4.2.1.1 z4.2.1.2.1 z4.2.1.2.2], d44_⟩ :: ⟨Rep.obj 40 (Rep.prod (Rep.ro (Ro.list (Ro.int .i64))) (Rep.prod (Rep.row 3 (Ro.int .i64)) (Rep.prod (Rep.row 3 (Ro.int .i64)) (Rep.row 3 (Ro.int .i64))))), [.pointer (some ⟨r2, 0, none⟩)], d46_⟩ :: F) w_) ((0 : Int), ()) rfl ⟨f40_, (Sub.refl _), rfl, s53_⟩ ?_
        · rintro z6 h59_ _ _ ⟨f56_, le57_, rfl, s58_⟩ he54_ hb55_
          try dsimp only at he54_
          obtain ⟨x60_, hx61_, he54_⟩ := Option.bind_eq_some_iff.1 he54_
          obtain ⟨a62_, cs63_, ea64_, hi65_, q66_, cl67_⟩ := (k14_.mono (le41_.trans le57_)).get hx61_
          refine t_deref _ ea64_ (t_chk hi65_ ?_)
          obtain ⟨t69_, rfl, k70_⟩ := q66_
          have n71_ := k70_.length
          refine s_load (x := t69_) (cellS_heap (Sub.trans (Sub.refl _) s58_.sub) (cl67_ 0 _ rfl)) rfl ?_
          have s72_ := s58_.at1
          obtain ⟨r73_, hr74_, he54_⟩ := Option.bind_eq_some_iff.1 he54_
          refine s_call (tronageref15_Packed_free_sim k70_ s72_ hr74_) ?_
          rintro _ h75_ ⟨f76_, t9, le78_, rfl, rfl, s77_⟩
          refine ⟨t9, rfl, ?_⟩
          refine s_cond he54_ rfl (fun hb81_ he54_ => ?_) (fun hb81_ he54_ => ?_)
          · have s79_ := s77_.at1
            obtain rfl := Option.some.inj he54_
            exact s_next ((IntKind.wrap .i64 (z6.1 + (1 : Int))), ()) _ rfl rfl ⟨f76_, (le57_.trans le78_), rfl, s79_⟩
          · have s80_ := s77_.at1
            obtain rfl := Option.some.inj he54_
            obtain rfl := hb55_ _ rfl
            exact around_brk (meetB_brk (z6.1, ()) rfl ⟨f76_, (le57_.trans le78_), rfl, s80_⟩)
      · rintro z5 h82_ ⟨f83_, le84_, rfl, s85_⟩
        try dsimp only at he38_
        refine s_new (vs := [.int .i64 z5.1]) s85_ ?_
        intro r10 h88_ s87_
        have cw89_ := St.cells s87_
        have s91_ := s87_.tail
        obtain ⟨y93_, hy94_, he38_⟩ := Option.bind_eq_some_iff.1 he38_
        refine s_append (r := (Ro.int .i64)) (ms := ([z5.1] : List Int)) appT_26_26 s91_ rfl cw89_ (.cons (a := [_]) rfl .nil) rfl hy94_ ?_
        intro t11 h95_ s96_
        have n97_ := s96_.rowLen
        have s100_ := s96_.at1
        obtain ⟨g98_, hx99_, he38_⟩ := Option.bind_eq_some_iff.1 he38_
        refine s_block (fun (y : Int × Unit) w_ g => ∃ ψ : Snap, ∃ l101_ : (List Int × List Int × List Int × List Int), Sub f83_ ψ ∧ l101_ = g ∧ St ψ (⟨Rep.obj 40 (Rep.prod (Rep.ro (Ro.list (Ro.int .i64))) (Rep.prod (Rep.row 3 (Ro.int .i64)) (Rep.prod (Rep.row 3 (Ro.int .i64)) (Rep.row 3 (Ro.int .i64))))), [.pointer (some ⟨r2, 0, none⟩)], l101_⟩ :: ⟨Rep.row 3 (Ro.int .i64), [.slice t11.1 t11.2.1 t11.2.2], y93_⟩ :: F) w_) (g := g98_) ?_ ?_
        · refine s_loop hx99_ (fun (y : Int × Unit) w_ g => ∃ ψ : Snap, ∃ l102_ : (List Int × List Int × List Int × List Int), Sub f83_ ψ ∧ (y.1, l102_) = g ∧ St ψ (⟨Rep.obj 40 (Rep.prod (Rep.ro (Ro.list (Ro.int .i64))) (Rep.prod (Rep.row 3 (Ro.int .i64)) (Rep.prod (Rep.row 3 (Ro.int .i64)) (Rep.row 3 (Ro.int .i64))))), [.pointer (some ⟨r2, 0, none⟩)], l102_⟩ :: ⟨Rep.row 3 (Ro.int .i64), [.slice t11.1 t11.2.1 t11.2.2], y93_⟩ :: F) w_) ((0 : Int), ()) rfl ⟨f83_, d46_, (Sub.refl _), rfl, s100_⟩ ?_
          · rintro z13 h108_ _ _ ⟨f105_, d109_, le106_, rfl, s107_⟩ he103_ hb104_
            try dsimp only at he103_
            obtain ⟨x110_, hx111_, he103_⟩ := Option.bind_eq_some_iff.1 he103_
            obtain ⟨a112_, cs113_, ea114_, hi115_, q116_, cl117_⟩ := (k14_.mono ((le41_.trans le84_).trans le106_)).get hx111_
            refine t_deref _ ea114_ (t_chk hi115_ ?_)
            obtain ⟨t119_, rfl, k120_⟩ := q116_
            have n121_ := k120_.length
            refine s_load (x := t119_) (cellS_heap (Sub.trans (Sub.refl _) s107_.sub) (cl117_ 0 _ rfl)) rfl ?_
            refine s_cond he103_ (by rw [n121_]) (fun hb434_ he103_ => ?_) (fun hb434_ he103_ => ?_)
            · have s124_ := s107_.at1
              have s125_ := s124_.at1
              obtain ⟨g122_, hx123_, he103_⟩ := Option.bind_eq_some_iff.1 he103_
              refine s_block (fun (y : Unit) w_ g => ∃ ψ : Snap, ∃ l126_ : (List Int × List Int × List Int × List Int), Sub f105_ ψ ∧ l126_ = g ∧ St ψ (⟨Rep.obj 40 (Rep.prod (Rep.ro (Ro.list (Ro.int .i64))) (Rep.prod (Rep.row 3 (Ro.int .i64)) (Rep.prod (Rep.row 3 (Ro.int .i64)) (Rep.row 3 (Ro.int .i64))))), [.pointer (some ⟨r2, 0, none⟩)], l126_⟩ :: ⟨Rep.row 3 (Ro.int .i64), [.slice t11.1 t11.2.1 t11.2.2], y93_⟩ :: F) w_) (g := g122_) ?_ ?_
              · refine s_loop hx123_ (fun (y : Unit) w_ g => ∃ ψ : Snap, ∃ l127_ : (List Int × List Int × List Int × List Int), Sub f105_ ψ ∧ l127_ = g ∧ St ψ (⟨Rep.obj 40 (Rep.prod (Rep.ro (Ro.list (Ro.int .i64))) (Rep.prod (Rep.row 3 (Ro.int .i64)) (Rep.prod (Rep.row 3 (Ro.int .i64)) (Rep.row 3 (Ro.int .i64))))), [.pointer (some ⟨r2, 0, none⟩)], l127_⟩ :: ⟨Rep.row 3 (Ro.int .i64), [.slice t11.1 t11.2.1 t11.2.2], y93_⟩ :: F) w_) (()) rfl ⟨f105_, d109_, (Sub.refl _), rfl, s125_⟩ ?_
                · rintro z17 h133_ _ _ ⟨f130_, d134_, le131_, rfl, s132_⟩ he128_ hb129_
                  try dsimp only at he128_
                  obtain ⟨g135_, hx136_, he128_⟩ := Option.bind_eq_some_iff.1 he128_
                  refine s_join (fun (y : Bool × Unit) w_ g => ∃ ψ : Snap, Sub f130_ ψ ∧ y.1 = g ∧ St ψ (⟨Rep.obj 40 (Rep.prod (Rep.ro (Ro.list (Ro.int .i64))) (Rep.prod (Rep.row 3 (Ro.int .i64)) (Rep.prod (Rep.row 3 (Ro.int .i64)) (Rep.row 3 (Ro.int .i64))))), [.pointer (some ⟨r2, 0, none⟩)], d134_⟩ :: ⟨Rep.row 3 (Ro.int .i64), [.slice t11.1 t11.2.1 t11.2.2], y93_⟩ :: F) w_) (g := g135_) ?_ ?_
                  · obtain ⟨x137_, hx138_, hx136_⟩ := Option.bind_eq_some_iff.1 hx136_
                    obtain ⟨a139_, cs140_, ea141_, hi142_, q143_, cl144_⟩ := (k14_.mono (((le41_.trans le84_).trans le106_).trans le131_)).get hx138_
                    refine t_deref _ ea141_ (t_chk hi142_ ?_)
                    obtain ⟨t146_, rfl, k147_⟩ := q143_
                    have n148_ := k147_.length
                    refine s_load (x := t146_) (cellS_heap (Sub.trans (Sub.refl _) s132_.sub) (cl144_ 0 _ rfl)) rfl ?_
                    obtain ⟨x149_, hx150_, hx136_⟩ := Option.bind_eq_some_iff.1 hx136_
                    obtain ⟨a151_, cs152_, ea153_, hi154_, q155_, cl156_⟩ := k147_.get hx150_
                    refine t_deref _ ea153_ (t_chk hi154_ ?_)
                    obtain rfl := q155_
                    refine s_load (x := x149_) (cellS_heap (Sub.trans (Sub.refl _) s132_.sub) (cl156_ 0 _ rfl)) rfl ?_
                    refine s_cond hx136_ rfl (fun hb209_ hx136_ => ?_) (fun hb209_ hx136_ => ?_)
                    · obtain ⟨b158_, vs159_, e160_, hl161_, s162_⟩ := s132_.open
                      obtain rfl : r2 = b158_ := by simpa using e160_
                      clear e160_
                      have s163_ := s162_.at1
                      obtain ⟨v164_, w165_, rfl, hl167_, s166_⟩ := s163_.pair
                      obtain ⟨g168_, s169_⟩ := s166_.ro
                      obtain ⟨t170_, e171_, k172_⟩ := g168_
                      subst e171_
                      have n173_ := k172_.length
                      obtain ⟨v174_, w175_, rfl, hl177_, s176_⟩ := s169_.pair
                      obtain ⟨t178_, e179_⟩ := s176_.rowCs
                      subst e179_
                      have n180_ := s176_.rowLen
                      have s181_ := s176_.at1
                      obtain ⟨v182_, w183_, rfl, hl185_, s184_⟩ := s181_.pair
                      obtain ⟨t186_, e187_⟩ := s184_.rowCs
                      subst e187_
                      have n188_ := s184_.rowLen
                      have s189_ := s184_.at1
                      obtain ⟨t190_, e191_⟩ := s189_.rowCs
                      subst e191_
                      have n192_ := s189_.rowLen
                      have s193_ : St f130_ (⟨Rep.row 3 (Ro.int .i64), [.slice t190_.1 t190_.2.1 t190_.2.2], d134_.2.2.2⟩ :: ⟨Rep.row 3 (Ro.int .i64), [.slice t186_.1 t186_.2.1 t186_.2.2], d134_.2.2.1⟩ :: ⟨Rep.row 3 (Ro.int .i64), [.slice t178_.1 t178_.2.1 t178_.2.2], d134_.2.1⟩ :: ⟨Rep.raw 40, [.pointer (some ⟨r2, 0, none⟩)], [.slice t170_.1 t170_.2.1 t170_.2.2, .slice t178_.1 t178_.2.1 t178_.2.2, .slice t186_.1 t186_.2.1 t186_.2.2, .slice t190_.1 t190_.2.1 t190_.2.2]⟩ :: ⟨Rep.row 3 (Ro.int .i64), [.slice t11.1 t11.2.1 t11.2.2], y93_⟩ :: F) _ := s189_
                      refine s_loadR (b := r2) (j := 2) (x := t186_) s193_.at3 rfl ?_
                      have s194_ := s193_.at2
                      have s195_ := s194_.at2
                      have s196_ := s195_.at2
                      have s198_ := s196_.at1
                      have s199_ := St.unpair s198_
                      have s200_ := s199_.at1
                      have s201_ := St.unpair s200_
                      have s202_ := St.unro (r := (Ro.list (Ro.int .i64))) (cs := [.slice t170_.1 t170_.2.1 t170_.2.2]) (x := d134_.1) s201_ ⟨t170_, rfl, k172_⟩
                      have s203_ := St.unpair s202_
                      have s204_ : St f130_ (⟨Rep.obj 40 (Rep.prod (Rep.ro (Ro.list (Ro.int .i64))) (Rep.prod (Rep.row 3 (Ro.int .i64)) (Rep.prod (Rep.row 3 (Ro.int .i64)) (Rep.row 3 (Ro.int .i64))))), [.pointer (some ⟨r2, 0, none⟩)], (d134_.1, d134_.2.1, d134_.2.2.1, d134_.2.2.2)⟩ :: ⟨Rep.row 3 (Ro.int .i64), [.slice t11.1 t11.2.1 t11.2.2], y93_⟩ :: F) _ := St.shut s203_.at1
                      have s205_ := s204_.at1
                      have s206_ := s205_.at1
                      obtain rfl := Option.some.inj hx136_
                      exact s_out ((decide (((t186_.2.1 : Nat) : Int) ≤ (IntKind.wrap .i64 (z5.1 + z13.1)))), ()) rfl ⟨f130_, (Sub.refl _), (by rw [n188_]), s206_⟩
                    · have s207_ := s132_.at1
                      have s208_ := s207_.at1
                      obtain rfl := Option.some.inj hx136_
                      exact s_out (false, ()) rfl ⟨f130_, (Sub.refl _), rfl, s208_⟩
                  · rintro z18 h210_ ⟨f211_, le212_, rfl, s213_⟩
                    try dsimp only at he128_
                    refine s_cond he128_ rfl (fun hb291_ he128_ => ?_) (fun hb291_ he128_ => ?_)
                    · obtain ⟨b214_, vs215_, e216_, hl217_, s218_⟩ := s213_.open
                      obtain rfl : r2 = b214_ := by simpa using e216_
                      clear e216_
                      have s219_ := s218_.at1
                      obtain ⟨v220_, w221_, rfl, hl223_, s222_⟩ := s219_.pair
                      obtain ⟨g224_, s225_⟩ := s222_.ro
                      obtain ⟨t226_, e227_, k228_⟩ := g224_
                      subst e227_
                      have n229_ := k228_.length
                      obtain ⟨v230_, w231_, rfl, hl233_, s232_⟩ := s225_.pair
                      obtain ⟨t234_, e235_⟩ := s232_.rowCs
                      subst e235_
                      have n236_ := s232_.rowLen
                      have s237_ := s232_.at1
                      obtain ⟨v238_, w239_, rfl, hl241_, s240_⟩ := s237_.pair
                      obtain ⟨t242_, e243_⟩ := s240_.rowCs
                      subst e243_
                      have n244_ := s240_.rowLen
                      have s245_ := s240_.at1
                      obtain ⟨t246_, e247_⟩ := s245_.rowCs
                      subst e247_
                      have n248_ := s245_.rowLen
                      have s249_ : St f211_ (⟨Rep.row 3 (Ro.int .i64), [.slice t246_.1 t246_.2.1 t246_.2.2], d134_.2.2.2⟩ :: ⟨Rep.row 3 (Ro.int .i64), [.slice t242_.1 t242_.2.1 t242_.2.2], d134_.2.2.1⟩ :: ⟨Rep.row 3 (Ro.int .i64), [.slice t234_.1 t234_.2.1 t234_.2.2], d134_.2.1⟩ :: ⟨Rep.raw 40, [.pointer (some ⟨r2, 0, none⟩)], [.slice t226_.1 t226_.2.1 t226_.2.2, .slice t234_.1 t234_.2.1 t234_.2.2, .slice t242_.1 t242_.2.1 t242_.2.2, .slice t246_.1 t246_.2.1 t246_.2.2]⟩ :: ⟨Rep.row 3 (Ro.int .i64), [.slice t11.1 t11.2.1 t11.2.2], y93_⟩ :: F) _ := s245_
                      refine s_loadR (b := r2) (j := 2) (x := t242_) s249_.at3 rfl ?_
                      refine s_new (vs := [.int .i64 (0 : Int)]) s249_ ?_
                      intro r25 h251_ s250_
                      have cw252_ := St.cells s250_
                      have s254_ := s250_.tail
                      have s255_ := s254_.at1
                      obtain ⟨y256_, hy257_, he128_⟩ := Option.bind_eq_some_iff.1 he128_
                      refine s_append (r := (Ro.int .i64)) (ms := ([(0 : Int)] : List Int)) appT_26_26 s255_ rfl cw252_ (.cons (a := [_]) rfl .nil) rfl hy257_ ?_
                      intro t26 h258_ s259_
                      have n260_ := s259_.rowLen
                      refine s_put (b := r2) (j := 2) (v := .slice t26.1 t26.2.1 t26.2.2) s259_.at3 rfl (show (2 : Nat) < 4 by decide) ?_
                      intro h262_ s261_
                      refine s_loadR (b := r2) (j := 3) (x := t246_) s261_ rfl ?_
                      refine s_new (vs := [.int .i64 (0 : Int)]) s261_ ?_
                      intro r28 h264_ s263_
                      have cw265_ := St.cells s263_
                      have s267_ := s263_.tail
                      have s268_ := s267_.at2
                      obtain ⟨y269_, hy270_, he128_⟩ := Option.bind_eq_some_iff.1 he128_
                      refine s_append (r := (Ro.int .i64)) (ms := ([(0 : Int)] : List Int)) appT_26_26 s268_ rfl cw265_ (.cons (a := [_]) rfl .nil) rfl hy270_ ?_
                      intro t29 h271_ s272_
                      have n273_ := s272_.rowLen
                      refine s_put (b := r2) (j := 3) (v := .slice t29.1 t29.2.1 t29.2.2) s272_.at1 rfl (show (3 : Nat) < 4 by decide) ?_
                      intro h275_ s274_
                      have s276_ := s274_.at3
                      have s277_ := s276_.at3
                      have s278_ := s277_.at3
                      have s280_ := s278_.at1
                      have s281_ := St.unpair s280_
                      have s282_ := s281_.at1
                      have s283_ := St.unpair s282_
                      have s284_ := St.unro (r := (Ro.list (Ro.int .i64))) (cs := [.slice t226_.1 t226_.2.1 t226_.2.2]) (x := d134_.1) s283_ ⟨t226_, rfl, k228_⟩
                      have s285_ := St.unpair s284_
                      have s286_ : St f211_ (⟨Rep.obj 40 (Rep.prod (Rep.ro (Ro.list (Ro.int .i64))) (Rep.prod (Rep.row 3 (Ro.int .i64)) (Rep.prod (Rep.row 3 (Ro.int .i64)) (Rep.row 3 (Ro.int .i64))))), [.pointer (some ⟨r2, 0, none⟩)], (d134_.1, d134_.2.1, y256_, y269_)⟩ :: ⟨Rep.row 3 (Ro.int .i64), [.slice t11.1 t11.2.1 t11.2.2], y93_⟩ :: F) _ := St.shut s285_.at1
                      have s287_ := s286_.at1
                      have s288_ := s287_.at1
                      obtain rfl := Option.some.inj he128_
                      exact s_next (()) _ rfl rfl ⟨f211_, (d134_.1, d134_.2.1, y256_, y269_), (le131_.trans le212_), rfl, s288_⟩
                    · have s289_ := s213_.at1
                      have s290_ := s289_.at1
                      obtain rfl := Option.some.inj he128_
                      obtain rfl := hb129_ _ rfl
                      exact around_brk (meetB_brk (()) rfl ⟨f211_, d134_, (le131_.trans le212_), rfl, s290_⟩)
              · rintro z16 h292_ ⟨f293_, d296_, le294_, rfl, s295_⟩
                try dsimp only at he103_
                obtain ⟨x298_, hx299_, he103_⟩ := Option.bind_eq_some_iff.1 he103_
                obtain ⟨a300_, cs301_, ea302_, hi303_, q304_, cl305_⟩ := (k14_.mono (((le41_.trans le84_).trans le106_).trans le294_)).get hx299_
                refine t_deref _ ea302_ (t_chk hi303_ ?_)
                obtain ⟨t307_, rfl, k308_⟩ := q304_
                have n309_ := k308_.length
                refine s_load (x := t307_) (cellS_heap (Sub.trans (Sub.refl _) s295_.sub) (cl305_ 0 _ rfl)) rfl ?_
                obtain ⟨x310_, hx311_, he103_⟩ := Option.bind_eq_some_iff.1 he103_
                obtain ⟨a312_, cs313_, ea314_, hi315_, q316_, cl317_⟩ := k308_.get hx311_
                refine t_deref _ ea314_ (t_chk hi315_ ?_)
                obtain rfl := q316_
                refine s_load (x := x310_) (cellS_heap (Sub.trans (Sub.refl _) s295_.sub) (cl317_ 0 _ rfl)) rfl ?_
                obtain ⟨g319_, hx320_, he103_⟩ := Option.bind_eq_some_iff.1 he103_
                refine s_join (fun (y : Unit) w_ g => ∃ ψ : Snap, ∃ l321_ : (List Int × List Int × List Int × List Int), Sub f293_ ψ ∧ l321_ = g ∧ St ψ (⟨Rep.obj 40 (Rep.prod (Rep.ro (Ro.list (Ro.int .i64))) (Rep.prod (Rep.row 3 (Ro.int .i64)) (Rep.prod (Rep.row 3 (Ro.int .i64)) (Rep.row 3 (Ro.int .i64))))), [.pointer (some ⟨r2, 0, none⟩)], l321_⟩ :: ⟨Rep.row 3 (Ro.int .i64), [.slice t11.1 t11.2.1 t11.2.2], y93_⟩ :: F) w_) (g := g319_) ?_ ?_
                · refine s_cond hx320_ rfl (fun hb424_ hx320_ => ?_) (fun hb424_ hx320_ => ?_)
                  · obtain ⟨b322_, vs323_, e324_, hl325_, s326_⟩ := s295_.open
                    obtain rfl : r2 = b322_ := by simpa using e324_
                    clear e324_
                    have s327_ := s326_.at1
                    obtain ⟨v328_, w329_, rfl, hl331_, s330_⟩ := s327_.pair
                    obtain ⟨g332_, s333_⟩ := s330_.ro
                    obtain ⟨t334_, e335_, k336_⟩ := g332_
                    subst e335_
                    have n337_ := k336_.length
                    obtain ⟨v338_, w339_, rfl, hl341_, s340_⟩ := s333_.pair
                    obtain ⟨t342_, e343_⟩ := s340_.rowCs
                    subst e343_
                    have n344_ := s340_.rowLen
                    have s345_ := s340_.at1
                    obtain ⟨v346_, w347_, rfl, hl349_, s348_⟩ := s345_.pair
                    obtain ⟨t350_, e351_⟩ := s348_.rowCs
                    subst e351_
                    have n352_ := s348_.rowLen
                    have s353_ := s348_.at1
                    obtain ⟨t354_, e355_⟩ := s353_.rowCs
                    subst e355_
                    have n356_ := s353_.rowLen
                    have s357_ : St f293_ (⟨Rep.row 3 (Ro.int .i64), [.slice t354_.1 t354_.2.1 t354_.2.2], d296_.2.2.2⟩ :: ⟨Rep.row 3 (Ro.int .i64), [.slice t350_.1 t350_.2.1 t350_.2.2], d296_.2.2.1⟩ :: ⟨Rep.row 3 (Ro.int .i64), [.slice t342_.1 t342_.2.1 t342_.2.2], d296_.2.1⟩ :: ⟨Rep.raw 40, [.pointer (some ⟨r2, 0, none⟩)], [.slice t334_.1 t334_.2.1 t334_.2.2, .slice t342_.1 t342_.2.1 t342_.2.2, .slice t350_.1 t350_.2.1 t350_.2.2, .slice t354_.1 t354_.2.1 t354_.2.2]⟩ :: ⟨Rep.row 3 (Ro.int .i64), [.slice t11.1 t11.2.1 t11.2.2], y93_⟩ :: F) _ := s353_
                    refine s_loadR (b := r2) (j := 2) (x := t350_) s357_.at3 rfl ?_
                    obtain ⟨x358_, hx359_, hx320_⟩ := Option.bind_eq_some_iff.1 hx320_
                    obtain ⟨a360_, cs361_, ea362_, hi363_, q364_, cl365_⟩ := (k14_.mono (((le41_.trans le84_).trans le106_).trans le294_)).get hx359_
                    refine t_deref _ ea362_ (t_chk hi363_ ?_)
                    obtain ⟨t367_, rfl, k368_⟩ := q364_
                    have n369_ := k368_.length
                    refine s_load (x := t367_) (cellS_heap (Sub.trans (Sub.refl _) s357_.sub) (cl365_ 0 _ rfl)) rfl ?_
                    obtain ⟨x370_, hx371_, hx320_⟩ := Option.bind_eq_some_iff.1 hx320_
                    obtain ⟨a372_, cs373_, ea374_, hi375_, q376_, cl377_⟩ := k368_.get hx371_
                    refine t_deref _ ea374_ (t_chk hi375_ ?_)
                    obtain rfl := q376_
                    refine s_load (x := x370_) (cellS_heap (Sub.trans (Sub.refl _) s357_.sub) (cl377_ 0 _ rfl)) rfl ?_
                    obtain ⟨y381_, hy382_, hx320_⟩ := Option.bind_eq_some_iff.1 hx320_
                    obtain ⟨a386_, ea388_, q387_⟩ := s357_.at1.there hy382_
                    refine t_deref _ ea388_ (t_chk q387_ (s_set s357_.at1 hy382_ rfl ea388_ ?_))
                    intro h390_ s389_
                    have n392_ := s389_.rowLen
                    have n393_ := s389_.rowLen
                    refine s_loadR (b := r2) (j := 3) (x := t354_) s389_.at3 rfl ?_
                    obtain ⟨y396_, hy397_, hx320_⟩ := Option.bind_eq_some_iff.1 hx320_
                    obtain ⟨a401_, ea403_, q402_⟩ := s389_.at1.there hy397_
                    refine t_deref _ ea403_ (t_chk q402_ (s_set s389_.at1 hy397_ rfl ea403_ ?_))
                    intro h405_ s404_
                    have n407_ := s404_.rowLen
                    have n408_ := s404_.rowLen
                    have s409_ := s404_.at2
                    have s410_ := s409_.at2
                    have s411_ := s410_.at2
                    have s413_ := s411_.at1
                    have s414_ := St.unpair s413_
                    have s415_ := s414_.at1
                    have s416_ := St.unpair s415_
                    have s417_ := St.unro (r := (Ro.list (Ro.int .i64))) (cs := [.slice t334_.1 t334_.2.1 t334_.2.2]) (x := d296_.1) s416_ ⟨t334_, rfl, k336_⟩
                    have s418_ := St.unpair s417_
                    have s419_ : St f293_ (⟨Rep.obj 40 (Rep.prod (Rep.ro (Ro.list (Ro.int .i64))) (Rep.prod (Rep.row 3 (Ro.int .i64)) (Rep.prod (Rep.row 3 (Ro.int .i64)) (Rep.row 3 (Ro.int .i64))))), [.pointer (some ⟨r2, 0, none⟩)], (d296_.1, d296_.2.1, y381_, y396_)⟩ :: ⟨Rep.row 3 (Ro.int .i64), [.slice t11.1 t11.2.1 t11.2.2], y93_⟩ :: F) _ := St.shut s418_.at1
                    have s420_ := s419_.at1
                    have s421_ := s420_.at1
                    obtain rfl := Option.some.inj hx320_
                    exact s_out (()) rfl ⟨f293_, (d296_.1, d296_.2.1, y381_, y396_), (Sub.refl _), rfl, s421_⟩
                  · have s422_ := s295_.at1
                    have s423_ := s422_.at1
                    obtain rfl := Option.some.inj hx320_
                    exact s_out (()) rfl ⟨f293_, d296_, (Sub.refl _), rfl, s423_⟩
                · rintro z34 h425_ ⟨f426_, d429_, le427_, rfl, s428_⟩
                  try dsimp only at he103_
                  have s430_ := s428_.at1
                  have s431_ := s430_.at1
                  obtain rfl := Option.some.inj he103_
                  exact s_next ((IntKind.wrap .i64 (z13.1 + (1 : Int))), ()) _ rfl rfl ⟨f426_, d429_, ((le106_.trans le294_).trans le427_), rfl, s431_⟩
            · have s432_ := s107_.at1
              have s433_ := s432_.at1
              obtain rfl := Option.some.inj he103_
              obtain rfl := hb104_ _ rfl
              exact around_brk (meetB_brk (z13.1, ()) rfl ⟨f105_, d109_, le106_, rfl, s433_⟩)
        · rintro z12 h435_ ⟨f436_, d439_, le437_, rfl, s438_⟩
          try dsimp only at he38_
          have s441_ := s438_.at1
          have s442_ := s441_.at1
          have s443_ := s442_.at1
          obtain rfl := Option.some.inj he38_
          exact s_next ((IntKind.wrap .i64 (z4.1 + (1 : Int))), t11, ()) _ rfl rfl ⟨f436_, y93_, d439_, ((le41_.trans le84_).trans le437_), hw47_, rfl, s443_⟩
    · rintro _ z4 h447_ ⟨f444_, d448_, d450_, le445_, rfl, rfl, s446_⟩ hge451_
      have n449_ := s446_.rowLen
      refine t_false (by rw [n13_]; exact decide_eq_false (Int.not_lt.2 hge451_)) ?_
      have s454_ := s446_.at1
      have s455_ := s454_.at1
      exact around_brk (meetB_brk (z4.1, z4.2.1, ()) rfl ⟨f444_, d448_, d450_, le445_, rfl, s455_⟩)
  · rintro z3 h456_ ⟨f457_, d460_, d462_, le458_, rfl, s459_⟩
    try dsimp only at hd
    have n461_ := s459_.rowLen
    have s466_ := s459_.at1
    obtain ⟨g464_, hx465_, hd⟩ := Option.bind_eq_some_iff.1 hd
    refine s_block (fun (y : Int × Unit) w_ g => ∃ ψ : Snap, ∃ l467_ : (List Int × List Int × List Int × List Int), Sub f457_ ψ ∧ l467_ = g ∧ St ψ (⟨Rep.obj 40 (Rep.prod (Rep.ro (Ro.list (Ro.int .i64))) (Rep.prod (Rep.row 3 (Ro.int .i64)) (Rep.prod (Rep.row 3 (Ro.int .i64)) (Rep.row 3 (Ro.int .i64))))), [.pointer (some ⟨r2, 0, none⟩)], l467_⟩ :: ⟨Rep.row 3 (Ro.int .i64), [.slice z3.2.1.1 z3.2.1.2.1 z3.2.1.2.2], d460_⟩ :: F) w_) (g := g464_) ?_ ?_
    · refine s_forS hx465_ (fun i469_ (y : Int × Unit) w_ g => ∃ ψ : Snap, ∃ l468_ : (List Int × List Int × List Int × List Int), Sub f457_ ψ ∧ y.1 = i469_ ∧ l468_ = g ∧ St ψ (⟨Rep.obj 40 (Rep.prod (Rep.ro (Ro.list (Ro.int .i64))) (Rep.prod (Rep.row 3 (Ro.int .i64)) (Rep.prod (Rep.row 3 (Ro.int .i64)) (Rep.row 3 (Ro.int .i64))))), [.pointer (some ⟨r2, 0, none⟩)], l468_⟩ :: ⟨Rep.row 3 (Ro.int .i64), [.slice z3.2.1.1 z3.2.1.2.1 z3.2.1.2.2], d460_⟩ :: F) w_) ((0 : Int), ()) rfl ⟨f457_, d462_, (Sub.refl _), rfl, rfl, s466_⟩ ?_ ?_
      · rintro _ z44 h475_ _ _ ⟨f472_, d476_, le473_, rfl, rfl, s474_⟩ he470_ h1478_ h2479_ hw477_
        try dsimp only at he470_ h1478_ h2479_ hw477_
        refine t_true (by rw [n10_]; exact decide_eq_true h2479_) ?_
        obtain ⟨b480_, vs481_, e482_, hl483_, s484_⟩ := s474_.open
        obtain rfl : r2 = b480_ := by simpa using e482_
        clear e482_
        have s485_ := s484_.at1
        obtain ⟨v486_, w487_, rfl, hl489_, s488_⟩ := s485_.pair
        obtain ⟨g490_, s491_⟩ := s488_.ro
        obtain ⟨t492_, e493_, k494_⟩ := g490_
        subst e493_
        have n495_ := k494_.length
        obtain ⟨v496_, w497_, rfl, hl499_, s498_⟩ := s491_.pair
        obtain ⟨t500_, e501_⟩ := s498_.rowCs
        subst e501_
        have n502_ := s498_.rowLen
        have s503_ := s498_.at1
        obtain ⟨v504_, w505_, rfl, hl507_, s506_⟩ := s503_.pair
        obtain ⟨t508_, e509_⟩ := s506_.rowCs
        subst e509_
        have n510_ := s506_.rowLen
        have s511_ := s506_.at1
        obtain ⟨t512_, e513_⟩ := s511_.rowCs
        subst e513_
        have n514_ := s511_.rowLen
        have s515_ : St f472_ (⟨Rep.row 3 (Ro.int .i64), [.slice t512_.1 t512_.2.1 t512_.2.2], d476_.2.2.2⟩ :: ⟨Rep.row 3 (Ro.int .i64), [.slice t508_.1 t508_.2.1 t508_.2.2], d476_.2.2.1⟩ :: ⟨Rep.row 3 (Ro.int .i64), [.slice t500_.1 t500_.2.1 t500_.2.2], d476_.2.1⟩ :: ⟨Rep.raw 40, [.pointer (some ⟨r2, 0, none⟩)], [.slice t492_.1 t492_.2.1 t492_.2.2, .slice t500_.1 t500_.2.1 t500_.2.2, .slice t508_.1 t508_.2.1 t508_.2.2, .slice t512_.1 t512_.2.1 t512_.2.2]⟩ :: ⟨Rep.row 3 (Ro.int .i64), [.slice z3.2.1.1 z3.2.1.2.1 z3.2.1.2.2], d460_⟩ :: F) _ := s511_
        refine s_loadR (b := r2) (j := 1) (x := t500_) s515_.at3 rfl ?_
        obtain ⟨x516_, hx517_, he470_⟩ := Option.bind_eq_some_iff.1 he470_
        obtain ⟨a518_, cs519_, ea520_, hi521_, q522_, cl523_⟩ := (k11_.mono (le458_.trans le473_)).get hx517_
        refine t_deref _ ea520_ (t_chk hi521_ ?_)
        obtain rfl := q522_
        refine s_load (x := x516_) (cellS_heap (Sub.trans (Sub.refl _) s515_.sub) (cl523_ 0 _ rfl)) rfl ?_
        obtain ⟨x525_, hx526_, he470_⟩ := Option.bind_eq_some_iff.1 he470_
        obtain ⟨a527_, cs528_, ea529_, hi530_, q531_, cl532_⟩ := (s515_.at4).get hx526_
        refine t_deref _ ea529_ (t_chk hi530_ ?_)
        obtain rfl := q531_
        refine s_load (x := x525_) (cl532_ 0 _ rfl) rfl ?_
        refine s_new (vs := [.int .i64 x525_]) s515_ ?_
        intro r50 h535_ s534_
        refine t_still (St.cell (b := r2) (j := 1) s534_.at4 rfl) ?_
        have cw536_ := St.cells s534_
        have s538_ := s534_.tail
        have s539_ := s538_.at2
        obtain ⟨y540_, hy541_, he470_⟩ := Option.bind_eq_some_iff.1 he470_
        refine s_append (r := (Ro.int .i64)) (ms := ([x525_] : List Int)) appT_26_26 s539_ rfl cw536_ (.cons (a := [_]) rfl .nil) rfl hy541_ ?_
        intro t51 h542_ s543_
        have n544_ := s543_.rowLen
        refine s_put (b := r2) (j := 1) (v := .slice t51.1 t51.2.1 t51.2.2) s543_.at3 rfl (show (1 : Nat) < 4 by decide) ?_
        intro h546_ s545_
        have s547_ := s545_.at1
        have s548_ := s547_.at3
        have s549_ := s548_.at3
        have s551_ := s549_.at1
        have s552_ := St.unpair s551_
        have s553_ := s552_.at1
        have s554_ := St.unpair s553_
        have s555_ := St.unro (r := (Ro.list (Ro.int .i64))) (cs := [.slice t492_.1 t492_.2.1 t492_.2.2]) (x := d476_.1) s554_ ⟨t492_, rfl, k494_⟩
        have s556_ := St.unpair s555_
        have s557_ : St f472_ (⟨Rep.obj 40 (Rep.prod (Rep.ro (Ro.list (Ro.int .i64))) (Rep.prod (Rep.row 3 (Ro.int .i64)) (Rep.prod (Rep.row 3 (Ro.int .i64)) (Rep.row 3 (Ro.int .i64))))), [.pointer (some ⟨r2, 0, none⟩)], (d476_.1, y540_, d476_.2.2.1, d476_.2.2.2)⟩ :: ⟨Rep.row 3 (Ro.int .i64), [.slice z3.2.1.1 z3.2.1.2.1 z3.2.1.2.2], d460_⟩ :: F) _ := St.shut s556_.at1
        have s558_ := s557_.at1
        have s559_ := s558_.at1
        obtain rfl := Option.some.inj he470_
        exact s_next ((IntKind.wrap .i64 (z44.1 + (1 : Int))), ()) _ rfl rfl ⟨f472_, (d476_.1, y540_, d476_.2.2.1, d476_.2.2.2), le473_, hw477_, rfl, s559_⟩
      · rintro _ z44 h563_ ⟨f560_, d564_, le561_, rfl, rfl, s562_⟩ hge565_
        refine t_false (by rw [n10_]; exact decide_eq_false (Int.not_lt.2 hge565_)) ?_
        have s567_ := s562_.at1
        have s568_ := s567_.at1
        exact around_brk (meetB_brk (z44.1, ()) rfl ⟨f560_, d564_, le561_, rfl, s568_⟩)
    · rintro z43 h569_ ⟨f570_, d573_, le571_, rfl, s572_⟩
      try dsimp only at hd
      obtain ⟨f575_, le576_, k577_, s578_⟩ := St.freeze (frz_obj (frz_prod (frz_ro _) (frz_prod (frz_row _ _) (frz_prod (frz_row _ _) (frz_row _ _))))) s572_
      obtain rfl := Option.some.inj hd
      have s579_ := s578_.tail
      exact finOf_back ⟨f575_, (some ⟨r2, 0, none⟩), d573_, (((le8_.trans le458_).trans le571_).trans le576_), rfl, rfl, k577_, s579_⟩

noncomputable def tronagelaw15_awake_D  : Option Bool :=
  (table_Share_D ([([(0 : Int), (1 : Int)] : List Int), ([(2 : Int), (0 : Int), (3 : Int)] : List Int), ([(0 : Int), (1 : Int), (0 : Int)] : List Int)] : List (List Int))).bind fun t5 =>
  (table_Pack_D ([([(0 : Int), (1 : Int)] : List Int), ([(2 : Int), (0 : Int), (3 : Int)] : List Int), ([(0 : Int), (1 : Int), (0 : Int)] : List Int)] : List (List Int))).bind fun t6 =>
  ((tronageref01_Ints_D t5.1 ([(0 : Int), (1 : Int), (0 : Int)] : List Int)).bind fun t10 =>
  cond t10
  (cond ((((List.length t5.2) : Nat) : Int) == (2 : Int))
    ((tronageref01_Ints_D t6.2.1 ([(0 : Int), (0 : Int), (0 : Int)] : List Int)).bind fun t13 =>
      cond t13
      ((tronageref01_Ints_D t6.2.2.1 ([(2 : Int), (1 : Int), (3 : Int)] : List Int)).bind fun t16 =>
        cond t16
        ((tronageref01_Ints_D t6.2.2.2 ([(2 : Int), (1 : Int), (2 : Int)] : List Int)).bind fun t19 =>
          cond t19
          ((table_Packed_At_D (t6.1, t6.2.1, t6.2.2.1, t6.2.2.2) (2 : Int) (1 : Int)).bind fun t24 =>
            cond (t24 == (1 : Int))
            ((table_Packed_At_D (t6.1, t6.2.1, t6.2.2.1, t6.2.2.2) (0 : Int) (0 : Int)).bind fun t29 =>
              some (t29 == (0 : Int)))
            (some false))
          (some false))
        (some false))
      (some false))
    (some false))
  (some false)).bind fun z8 =>
  some z8
theorem tronagelaw15_awake_sim {φ : Snap} {h : Heap} {F : List Chk}  (gk : Glob φ)  (s0 : St φ (F) h) {r : Bool} (hd : tronagelaw15_awake_D  = some r) :
    CallsH Tryd.prog 8 [] h (Back fun v h' => ∃ ψ : Snap, ∃ y : Bool, Sub φ ψ ∧ v = ((.one (.atom .bool)) : Sh).val y ∧ y = r ∧ St ψ (F) h') := by
  refine calls_of mixed Tryd.func8 ?_
  rw [tronagelaw15_awake_den]
  unfold tronagelaw15_awake_T
  unfold tronagelaw15_awake_D at hd
  refine s_new (vs := [.int .i64 (0 : Int), .int .i64 (1 : Int)]) s0 ?_
  intro r1 h2_ s1_
  refine s_new (vs := [.int .i64 (2 : Int), .int .i64 (0 : Int), .int .i64 (3 : Int)]) s1_ ?_
  intro r2 h4_ s3_
  refine s_new (vs := [.int .i64 (0 : Int), .int .i64 (1 : Int), .int .i64 (0 : Int)]) s3_ ?_
  intro r3 h6_ s5_
  refine s_new (vs := [.slice (some ⟨r1, 0, none⟩) 2 2, .slice (some ⟨r2, 0, none⟩) 3 3, .slice (some ⟨r3, 0, none⟩) 3 3]) s5_ ?_
  intro r4 h8_ s7_
  have s9_ := St.lit (r := (Ro.int .i64)) (l := ([(0 : Int), (1 : Int)] : List Int)) (n := 2) s7_.at3 (.cons (a := [_]) rfl (.cons (a := [_]) rfl .nil)) rfl (by decide)
  obtain ⟨f10_, le11_, k12_, s13_⟩ := St.freezeRow (t := ((some ⟨r1, 0, none⟩, 2, 2) : Slc)) s9_
  have s14_ := St.lit (r := (Ro.int .i64)) (l := ([(2 : Int), (0 : Int), (3 : Int)] : List Int)) (n := 3) s13_.at2 (.cons (a := [_]) rfl (.cons (a := [_]) rfl (.cons (a := [_]) rfl .nil))) rfl (by decide)
  obtain ⟨f15_, le16_, k17_, s18_⟩ := St.freezeRow (t := ((some ⟨r2, 0, none⟩, 3, 3) : Slc)) s14_
  have s19_ := St.lit (r := (Ro.int .i64)) (l := ([(0 : Int), (1 : Int), (0 : Int)] : List Int)) (n := 3) s18_.at1 (.cons (a := [_]) rfl (.cons (a := [_]) rfl (.cons (a := [_]) rfl .nil))) rfl (by decide)
  obtain ⟨f20_, le21_, k22_, s23_⟩ := St.freezeRow (t := ((some ⟨r3, 0, none⟩, 3, 3) : Slc)) s19_
  have s24_ := St.lit (r := (Ro.list (Ro.int .i64))) (l := ([([(0 : Int), (1 : Int)] : List Int), ([(2 : Int), (0 : Int), (3 : Int)] : List Int), ([(0 : Int), (1 : Int), (0 : Int)] : List Int)] : List (List Int))) (n := 3) s23_ (.cons (a := [_]) ⟨((some ⟨r1, 0, none⟩, 2, 2) : Slc), rfl, (k12_.mono (le16_.trans le21_))⟩ (.cons (a := [_]) ⟨((some ⟨r2, 0, none⟩, 3, 3) : Slc), rfl, (k17_.mono le21_)⟩ (.cons (a := [_]) ⟨((some ⟨r3, 0, none⟩, 3, 3) : Slc), rfl, k22_⟩ .nil))) rfl (by decide)
  obtain ⟨f25_, le26_, k27_, s28_⟩ := St.freezeRow (t := ((some ⟨r4, 0, none⟩, 3, 3) : Slc)) s24_
  obtain ⟨r29_, hr30_, hd⟩ := Option.bind_eq_some_iff.1 hd
  refine s_call (table_Share_sim (gk.mono (((le11_.trans le16_).trans le21_).trans le26_)) k27_ s28_ hr30_) ?_
  rintro _ h31_ ⟨f32_, t5, d35_, d38_, le34_, rfl, rfl, k37_, k40_, s33_⟩
  refine ⟨t5, rfl, ?_⟩
  try dsimp only at hd
  have n36_ := k37_.length
  have n39_ := k40_.length
  obtain ⟨r41_, hr42_, hd⟩ := Option.bind_eq_some_iff.1 hd
  refine s_call (table_Pack_sim (gk.mono ((((le11_.trans le16_).trans le21_).trans le26_).trans le34_)) (k27_.mono le34_) s33_ hr42_) ?_
  rintro _ h43_ ⟨f44_, t6, d47_, d50_, d53_, d56_, le46_, rfl, rfl, k49_, k52_, k55_, k58_, s45_⟩
  refine ⟨t6, rfl, ?_⟩
  try dsimp only at hd
  have n48_ := k49_.length
  have n51_ := k52_.length
  have n54_ := k55_.length
  have n57_ := k58_.length
  refine s_new (vs := [.slice none 0 0, .slice none 0 0, .slice none 0 0, .slice none 0 0]) s45_ ?_
  intro r7 h60_ s59_
  refine s_put (b := r7) (j := 0) (v := .slice t6.1.1 t6.1.2.1 t6.1.2.2) s59_ rfl (show (0 : Nat) < 4 by decide) ?_
  intro h62_ s61_
  refine s_put (b := r7) (j := 1) (v := .slice t6.2.1.1 t6.2.1.2.1 t6.2.1.2.2) s61_ rfl (show (1 : Nat) < 4 by decide) ?_
  intro h64_ s63_
  refine s_put (b := r7) (j := 2) (v := .slice t6.2.2.1.1 t6.2.2.1.2.1 t6.2.2.1.2.2) s63_ rfl (show (2 : Nat) < 4 by decide) ?_
  intro h66_ s65_
  refine s_put (b := r7) (j := 3) (v := .slice t6.2.2.2.1.1 t6.2.2.2.1.2.1 t6.2.2.2.1.2.2) s65_ rfl (show (3 : Nat) < 4 by decide) ?_
  intro h68_ s67_
  obtain ⟨g69_, hx70_, hd⟩ := Option.bind_eq_some_iff.1 hd
  refine s_join (fun (y : Bool × Unit) w_ g => ∃ ψ : Snap, Sub f44_ ψ ∧ y.1 = g ∧ St ψ (⟨Rep.raw 34, [.pointer (some ⟨r7, 0, none⟩)], [.slice t6.1.1 t6.1.2.1 t6.1.2.2, .slice t6.2.1.1 t6.2.1.2.1 t6.2.1.2.2, .slice t6.2.2.1.1 t6.2.2.1.2.1 t6.2.2.1.2.2, .slice t6.2.2.2.1.1 t6.2.2.2.1.2.1 t6.2.2.2.1.2.2]⟩ :: F) w_) (g := g69_) ?_ ?_
  · refine s_new (vs := [.int .i64 (0 : Int), .int .i64 (1 : Int), .int .i64 (0 : Int)]) s67_ ?_
    intro r9 h72_ s71_
    have s73_ := St.lit (r := (Ro.int .i64)) (l := ([(0 : Int), (1 : Int), (0 : Int)] : List Int)) (n := 3) s71_ (.cons (a := [_]) rfl (.cons (a := [_]) rfl (.cons (a := [_]) rfl .nil))) rfl (by decide)
    obtain ⟨f74_, le75_, k76_, s77_⟩ := St.freezeRow (t := ((some ⟨r9, 0, none⟩, 3, 3) : Slc)) s73_
    obtain ⟨r78_, hr79_, hx70_⟩ := Option.bind_eq_some_iff.1 hx70_
    refine s_call (tronageref01_Ints_sim (k37_.mono (le46_.trans le75_)) k76_ s77_ hr79_) ?_
    rintro _ h80_ ⟨f81_, t10, le83_, rfl, rfl, s82_⟩
    refine ⟨t10, rfl, ?_⟩
    refine s_cond hx70_ rfl (fun hb140_ hx70_ => ?_) (fun hb140_ hx70_ => ?_)
    · refine s_cond hx70_ (by rw [n39_]) (fun hb139_ hx70_ => ?_) (fun hb139_ hx70_ => ?_)
      · refine s_loadR (b := r7) (j := 1) (x := t6.2.1) s82_ rfl ?_
        refine s_new (vs := [.int .i64 (0 : Int), .int .i64 (0 : Int), .int .i64 (0 : Int)]) s82_ ?_
        intro r12 h85_ s84_
        have s86_ := St.lit (r := (Ro.int .i64)) (l := ([(0 : Int), (0 : Int), (0 : Int)] : List Int)) (n := 3) s84_ (.cons (a := [_]) rfl (.cons (a := [_]) rfl (.cons (a := [_]) rfl .nil))) rfl (by decide)
        obtain ⟨f87_, le88_, k89_, s90_⟩ := St.freezeRow (t := ((some ⟨r12, 0, none⟩, 3, 3) : Slc)) s86_
        obtain ⟨r91_, hr92_, hx70_⟩ := Option.bind_eq_some_iff.1 hx70_
        refine s_call (tronageref01_Ints_sim (k52_.mono ((le75_.trans le83_).trans le88_)) k89_ s90_ hr92_) ?_
        rintro _ h93_ ⟨f94_, t13, le96_, rfl, rfl, s95_⟩
        refine ⟨t13, rfl, ?_⟩
        refine s_cond hx70_ rfl (fun hb138_ hx70_ => ?_) (fun hb138_ hx70_ => ?_)
        · refine s_loadR (b := r7) (j := 2) (x := t6.2.2.1) s95_ rfl ?_
          refine s_new (vs := [.int .i64 (2 : Int), .int .i64 (1 : Int), .int .i64 (3 : Int)]) s95_ ?_
          intro r15 h98_ s97_
          have s99_ := St.lit (r := (Ro.int .i64)) (l := ([(2 : Int), (1 : Int), (3 : Int)] : List Int)) (n := 3) s97_ (.cons (a := [_]) rfl (.cons (a := [_]) rfl (.cons (a := [_]) rfl .nil))) rfl (by decide)
          obtain ⟨f100_, le101_, k102_, s103_⟩ := St.freezeRow (t := ((some ⟨r15, 0, none⟩, 3, 3) : Slc)) s99_
          obtain ⟨r104_, hr105_, hx70_⟩ := Option.bind_eq_some_iff.1 hx70_
          refine s_call (tronageref01_Ints_sim (k55_.mono ((((le75_.trans le83_).trans le88_).trans le96_).trans le101_)) k102_ s103_ hr105_) ?_
          rintro _ h106_ ⟨f107_, t16, le109_, rfl, rfl, s108_⟩
          refine ⟨t16, rfl, ?_⟩
          refine s_cond hx70_ rfl (fun hb137_ hx70_ => ?_) (fun hb137_ hx70_ => ?_)
          · refine s_loadR (b := r7) (j := 3) (x := t6.2.2.2.1) s108_ rfl ?_
            refine s_new (vs := [.int .i64 (2 : Int), .int .i64 (1 : Int), .int .i64 (2 : Int)]) s108_ ?_
            intro r18 h111_ s110_
            have s112_ := St.lit (r := (Ro.int .i64)) (l := ([(2 : Int), (1 : Int), (2 : Int)] : List Int)) (n := 3) s110_ (.cons (a := [_]) rfl (.cons (a := [_]) rfl (.cons (a := [_]) rfl .nil))) rfl (by decide)
            obtain ⟨f113_, le114_, k115_, s116_⟩ := St.freezeRow (t := ((some ⟨r18, 0, none⟩, 3, 3) : Slc)) s112_
            obtain ⟨r117_, hr118_, hx70_⟩ := Option.bind_eq_some_iff.1 hx70_
            refine s_call (tronageref01_Ints_sim (k58_.mono ((((((le75_.trans le83_).trans le88_).trans le96_).trans le101_).trans le109_).trans le114_)) k115_ s116_ hr118_) ?_
            rintro _ h119_ ⟨f120_, t19, le122_, rfl, rfl, s121_⟩
            refine ⟨t19, rfl, ?_⟩
            refine s_cond hx70_ rfl (fun hb136_ hx70_ => ?_) (fun hb136_ hx70_ => ?_)
            · refine s_loadR (b := r7) (j := 0) (x := t6.1) s121_ rfl ?_
              refine s_loadR (b := r7) (j := 1) (x := t6.2.1) s121_ rfl ?_
              refine s_loadR (b := r7) (j := 2) (x := t6.2.2.1) s121_ rfl ?_
              refine s_loadR (b := r7) (j := 3) (x := t6.2.2.2.1) s121_ rfl ?_
              obtain ⟨r123_, hr124_, hx70_⟩ := Option.bind_eq_some_iff.1 hx70_
              refine s_call (table_Packed_At_sim (k49_.mono (((((((le75_.trans le83_).trans le88_).trans le96_).trans le101_).trans le109_).trans le114_).trans le122_)) (k52_.mono (((((((le75_.trans le83_).trans le88_).trans le96_).trans le101_).trans le109_).trans le114_).trans le122_)) (k55_.mono (((((((le75_.trans le83_).trans le88_).trans le96_).trans le101_).trans le109_).trans le114_).trans le122_)) (k58_.mono (((((((le75_.trans le83_).trans le88_).trans le96_).trans le101_).trans le109_).trans le114_).trans le122_)) s121_ hr124_) ?_
              rintro _ h125_ ⟨f126_, t24, le128_, rfl, rfl, s127_⟩
              refine ⟨t24, rfl, ?_⟩
              refine s_cond hx70_ rfl (fun hb135_ hx70_ => ?_) (fun hb135_ hx70_ => ?_)
              · refine s_loadR (b := r7) (j := 0) (x := t6.1) s127_ rfl ?_
                refine s_loadR (b := r7) (j := 1) (x := t6.2.1) s127_ rfl ?_
                refine s_loadR (b := r7) (j := 2) (x := t6.2.2.1) s127_ rfl ?_
                refine s_loadR (b := r7) (j := 3) (x := t6.2.2.2.1) s127_ rfl ?_
                obtain ⟨r129_, hr130_, hx70_⟩ := Option.bind_eq_some_iff.1 hx70_
                refine s_call (table_Packed_At_sim (k49_.mono ((((((((le75_.trans le83_).trans le88_).trans le96_).trans le101_).trans le109_).trans le114_).trans le122_).trans le128_)) (k52_.mono ((((((((le75_.trans le83_).trans le88_).trans le96_).trans le101_).trans le109_).trans le114_).trans le122_).trans le128_)) (k55_.mono ((((((((le75_.trans le83_).trans le88_).trans le96_).trans le101_).trans le109_).trans le114_).trans le122_).trans le128_)) (k58_.mono ((((((((le75_.trans le83_).trans le88_).trans le96_).trans le101_).trans le109_).trans le114_).trans le122_).trans le128_)) s127_ hr130_) ?_
                rintro _ h131_ ⟨f132_, t29, le134_, rfl, rfl, s133_⟩
                refine ⟨t29, rfl, ?_⟩
                obtain rfl := Option.some.inj hx70_
                exact s_out ((t29 == (0 : Int)), ()) rfl ⟨f132_, (((((((((le75_.trans le83_).trans le88_).trans le96_).trans le101_).trans le109_).trans le114_).trans le122_).trans le128_).trans le134_), rfl, s133_⟩
              · obtain rfl := Option.some.inj hx70_
                exact s_out (false, ()) rfl ⟨f126_, ((((((((le75_.trans le83_).trans le88_).trans le96_).trans le101_).trans le109_).trans le114_).trans le122_).trans le128_), rfl, s127_⟩
            · obtain rfl := Option.some.inj hx70_
              exact s_out (false, ()) rfl ⟨f120_, (((((((le75_.trans le83_).trans le88_).trans le96_).trans le101_).trans le109_).trans le114_).trans le122_), rfl, s121_⟩
          · obtain rfl := Option.some.inj hx70_
            exact s_out (false, ()) rfl ⟨f107_, (((((le75_.trans le83_).trans le88_).trans le96_).trans le101_).trans le109_), rfl, s108_⟩
        · obtain rfl := Option.some.inj hx70_
          exact s_out (false, ()) rfl ⟨f94_, (((le75_.trans le83_).trans le88_).trans le96_), rfl, s95_⟩
      · obtain rfl := Option.some.inj hx70_
        exact s_out (false, ()) rfl ⟨f81_, (le75_.trans le83_), rfl, s82_⟩
    · obtain rfl := Option.some.inj hx70_
      exact s_out (false, ()) rfl ⟨f81_, (le75_.trans le83_), rfl, s82_⟩
  · rintro z8 h141_ ⟨f142_, le143_, rfl, s144_⟩
    try dsimp only at hd
    obtain rfl := Option.some.inj hd
    have s145_ := s144_.tail
    exact finOf_back ⟨f142_, z8.1, ((((((le11_.trans le16_).trans le21_).trans le26_).trans le34_).trans le46_).trans le143_), rfl, rfl, s145_⟩

noncomputable def tronagelaw15_TableShares_D (rows_0 : List (List Int)) (noughts_1 : List Int) : Option Bool :=
  tronagelaw15_awake_D.bind fun t1 =>
  (tronagelaw15_few_D rows_0).bind fun t2 =>
  cond (!t2)
  (some t1)
  ((table_Share_D rows_0).bind fun t3 =>
    cond ((((List.length t3.1) : Nat) : Int) != (((List.length rows_0) : Nat) : Int))
    (some false)
    ((forN (σ := List (List Int)) (β := Bool) (0 : Int) (((List.length rows_0) : Nat) : Int) ([] : List (List Int)) fun i_z5 z5 =>
        (idx rows_0 i_z5).bind fun e56 =>
        (app ([] : List Int) e56).bind fun t9 =>
        (loop (σ := (Int × List Int)) (β := List Int) ((0 : Int), t9) fun z11 =>
          (cond (decide (i_z5 < (((List.length noughts_1) : Nat) : Int)))
          ((idx noughts_1 i_z5).bind fun e94 =>
            need ((10 : Int) ≠ 0) <|
            some (decide (z11.1 < (IntKind.wrap .i64 (Int.tmod e94 (10 : Int))))))
          (some false)).bind fun z12 =>
          cond z12
          ((app z11.2 ([(0 : Int)] : List Int)).bind fun t16 =>
            some (Step.next ((IntKind.wrap .i64 (z11.1 + (1 : Int))), t16)))
          (some (Step.done z11.2))).bind fun z10 =>
        (app z5 ([z10] : List (List Int))).bind fun t18 =>
        ((idx t3.1 i_z5).bind fun e156 =>
        cond (decide (e156 < (0 : Int)))
        (some true)
        ((idx t3.1 i_z5).bind fun e165 =>
          cond (decide (e165 ≥ (((List.length t3.2) : Nat) : Int)))
          (some true)
          ((idx t3.1 i_z5).bind fun e174 =>
            (idx t3.2 e174).bind fun e183 =>
            (idx rows_0 i_z5).bind fun e195 =>
            (tronageref15_Trim_D e195).bind fun t30 =>
            (tronageref01_Ints_D e183 t30).bind fun t31 =>
            some (!t31)))).bind fun z19 =>
        cond z19
        (some (Step.done false))
        (some (Step.next t18))).bind fun e_z4 => match e_z4 with
      | .next z4 =>
        (forN (σ := Unit) (β := Bool) (0 : Int) (((List.length t3.2) : Nat) : Int) () fun i_z33 z33 =>
          (forN (σ := Unit) (β := Bool) (0 : Int) i_z33 () fun i_z35 z35 =>
            (idx t3.2 i_z33).bind fun e271 =>
            (idx t3.2 i_z35).bind fun e283 =>
            (tronageref01_Ints_D e271 e283).bind fun t40 =>
            cond t40
            (some (Step.done false))
            (some (Step.next ()))).bind fun e_z34 => match e_z34 with
          | .next z34 =>
            some (Step.next ())
          | .done q306 => some (Step.done q306)).bind fun e_z32 => match e_z32 with
        | .next z32 =>
          (table_Share_D z4).bind fun t41 =>
          (cond t1
          ((tronageref01_Ints_D t3.1 t41.1).bind fun t43 =>
            cond t43
            ((tronageref01_Lists_D t3.2 t41.2).bind fun t44 =>
              some t44)
            (some false))
          (some false)).bind fun z42 =>
          some z42
        | .done q355 => some q355
      | .done q356 => some q356))
theorem tronagelaw15_TableShares_sim {φ : Snap} {h : Heap} {F : List Chk} {rows_0 : Slc} {d_rows_0 : List (List Int)} {noughts_1 : Slc} {d_noughts_1 : List Int} (gk : Glob φ) (k1_ : Ro.SliceIs (Ro.list (Ro.int .i64)) φ rows_0 d_rows_0) (k3_ : Ro.SliceIs (Ro.int .u8) φ noughts_1 d_noughts_1) (s0 : St φ (F) h) {r : Bool} (hd : tronagelaw15_TableShares_D d_rows_0 d_noughts_1 = some r) :
    CallsH Tryd.prog 3 [(.slice rows_0.1 rows_0.2.1 rows_0.2.2), (.slice noughts_1.1 noughts_1.2.1 noughts_1.2.2)] h (Back fun v h' => ∃ ψ : Snap, ∃ y : Bool, Sub φ ψ ∧ v = ((.one (.atom .bool)) : Sh).val y ∧ y = r ∧ St ψ (F) h') := by
  refine calls_of mixed Tryd.func3 ?_
  rw [tronagelaw15_TableShares_den]
  unfold tronagelaw15_TableShares_T
  unfold tronagelaw15_TableShares_D at hd
  have n2_ : rows_0.2.1 = List.length d_rows_0 := k1_.length
  have n4_ : noughts_1.2.1 = List.length d_noughts_1 := k3_.length
  obtain ⟨r5_, hr6_, hd⟩ := Option.bind_eq_some_iff.1 hd
  refine s_call (tronagelaw15_awake_sim gk  s0 hr6_) ?_
  rintro _ h7_ ⟨f8_, t1, le10_, rfl, rfl, s9_⟩
  refine ⟨t1, rfl, ?_⟩
  obtain ⟨r11_, hr12_, hd⟩ := Option.bind_eq_some_iff.1 hd
  refine s_call (tronagelaw15_few_sim (k1_.mono le10_) s9_ hr12_) ?_
  rintro _ h13_ ⟨f14_, t2, le16_, rfl, rfl, s15_⟩
  refine ⟨t2, rfl, ?_⟩
  refine s_cond hd rfl (fun hb358_ hd => ?_) (fun hb358_ hd => ?_)
  · obtain rfl := Option.some.inj hd
    exact finOf_back ⟨f14_, t1, (le10_.trans le16_), rfl, rfl, s15_⟩
  · obtain ⟨r17_, hr18_, hd⟩ := Option.bind_eq_some_iff.1 hd
    refine s_call (table_Share_sim (gk.mono (le10_.trans le16_)) (k1_.mono (le10_.trans le16_)) s15_ hr18_) ?_
    rintro _ h19_ ⟨f20_, t3, d23_, d26_, le22_, rfl, rfl, k25_, k28_, s21_⟩
    refine ⟨t3, rfl, ?_⟩
    try dsimp only at hd
    have n24_ := k25_.length
    have n27_ := k28_.length
    refine s_cond hd (by rw [n24_, n2_]) (fun hb357_ hd => ?_) (fun hb357_ hd => ?_)
    · obtain rfl := Option.some.inj hd
      exact finOf_back ⟨f20_, false, ((le10_.trans le16_).trans le22_), rfl, rfl, s21_⟩
    · have s31_ := s21_.nil 26 (Ro.list (Ro.int .i64))
      obtain ⟨g29_, hx30_, hd⟩ := Option.bind_eq_some_iff.1 hd
      refine s_block (fun (y : Int × (Option Addr × Nat × Nat) × Bool × Unit) w_ g => ∃ ψ : Snap, ∃ l32_ : List (List Int), Sub f20_ ψ ∧ Step.next l32_ = g ∧ St ψ (⟨Rep.row 26 (Ro.list (Ro.int .i64)), [.slice y.2.1.1 y.2.1.2.1 y.2.1.2.2], l32_⟩ :: F) w_) (g := g29_) ?_ ?_
      · refine s_forN hx30_ (fun i34_ (y : Int × (Option Addr × Nat × Nat) × Bool × Unit) w_ g => ∃ ψ : Snap, ∃ l33_ : List (List Int), Sub f20_ ψ ∧ y.1 = i34_ ∧ l33_ = g ∧ St ψ (⟨Rep.row 26 (Ro.list (Ro.int .i64)), [.slice y.2.1.1 y.2.1.2.1 y.2.1.2.2], l33_⟩ :: F) w_) ((0 : Int), ((none, 0, 0) : Slc), false, ()) rfl ⟨f20_, ([] : List (List Int)), (Sub.refl _), rfl, rfl, s31_⟩ ?_ ?_
        · rintro _ z5 h40_ _ _ ⟨f37_, d41_, le38_, rfl, rfl, s39_⟩ he35_ h144_ h245_ hw43_ hb36_
          try dsimp only at he35_ h144_ h245_ hw43_
          have n42_ := s39_.rowLen
          refine t_true (by rw [n2_]; exact decide_eq_true h245_) ?_
          refine s_new (vs := []) s39_ ?_
          intro r6 h47_ s46_
          obtain ⟨x48_, hx49_, he35_⟩ := Option.bind_eq_some_iff.1 he35_
          obtain ⟨a50_, cs51_, ea52_, hi53_, q54_, cl55_⟩ := (k1_.mono (((le10_.trans le16_).trans le22_).trans le38_)).get hx49_
          refine t_deref _ ea52_ (t_chk hi53_ ?_)
          obtain ⟨t57_, rfl, k58_⟩ := q54_
          have n59_ := k58_.length
          refine s_load (x := t57_) (cellS_heap (Sub.trans (Sub.refl _) s46_.sub) (cl55_ 0 _ rfl)) rfl ?_
          obtain ⟨ws62_, al61_, cw60_⟩ := k58_.heap s46_.sub
          have s63_ := St.lit (r := (Ro.int .i64)) (l := ([] : List Int)) (n := 0) s46_ .nil rfl (by decide)
          obtain ⟨y64_, hy65_, he35_⟩ := Option.bind_eq_some_iff.1 he35_
          refine s_append (r := (Ro.int .i64)) (ms := x48_) appT_26_26 s63_ rfl cw60_ al61_ n59_.symm hy65_ ?_
          intro t9 h66_ s67_
          have n68_ := s67_.rowLen
          have s72_ := s67_.at1
          have s73_ := s72_.at1
          obtain ⟨g69_, hx70_, he35_⟩ := Option.bind_eq_some_iff.1 he35_
          refine s_block (fun (y : Int × (Option Addr × Nat × Nat) × Unit) w_ g => ∃ ψ : Snap, ∃ l74_ : List Int, Sub f37_ ψ ∧ l74_ = g ∧ St ψ (⟨Rep.row 3 (Ro.int .i64), [.slice y.2.1.1 y.2.1.2.1 y.2.1.2.2], l74_⟩ :: ⟨Rep.row 26 (Ro.list (Ro.int .i64)), [.slice z5.2.1.1 z5.2.1.2.1 z5.2.1.2.2], d41_⟩ :: F) w_) (g := g69_) ?_ ?_
          · refine s_loop hx70_ (fun (y : Int × (Option Addr × Nat × Nat) × Unit) w_ g => ∃ ψ : Snap, ∃ l75_ : List Int, Sub f37_ ψ ∧ (y.1, l75_) = g ∧ St ψ (⟨Rep.row 3 (Ro.int .i64), [.slice y.2.1.1 y.2.1.2.1 y.2.1.2.2], l75_⟩ :: ⟨Rep.row 26 (Ro.list (Ro.int .i64)), [.slice z5.2.1.1 z5.2.1.2.1 z5.2.1.2.2], d41_⟩ :: F) w_) ((0 : Int), t9, ()) rfl ⟨f37_, y64_, (Sub.refl _), rfl, s73_⟩ ?_
            · rintro z11 h81_ _ _ ⟨f78_, d82_, le79_, rfl, s80_⟩ he76_ hb77_
              try dsimp only at he76_
              have n83_ := s80_.rowLen
              obtain ⟨g84_, hx85_, he76_⟩ := Option.bind_eq_some_iff.1 he76_
              refine s_join (fun (y : Bool × Unit) w_ g => ∃ ψ : Snap, Sub f78_ ψ ∧ y.1 = g ∧ St ψ (⟨Rep.row 3 (Ro.int .i64), [.slice z11.2.1.1 z11.2.1.2.1 z11.2.1.2.2], d82_⟩ :: ⟨Rep.row 26 (Ro.list (Ro.int .i64)), [.slice z5.2.1.1 z5.2.1.2.1 z5.2.1.2.2], d41_⟩ :: F) w_) (g := g84_) ?_ ?_
              · refine s_cond hx85_ (by rw [n4_]) (fun hb100_ hx85_ => ?_) (fun hb100_ hx85_ => ?_)
                · obtain ⟨x86_, hx87_, hx85_⟩ := Option.bind_eq_some_iff.1 hx85_
                  obtain ⟨a88_, cs89_, ea90_, hi91_, q92_, cl93_⟩ := (k3_.mono ((((le10_.trans le16_).trans le22_).trans le38_).trans le79_)).get hx87_
                  refine t_deref _ ea90_ (t_chk hi91_ ?_)
                  obtain rfl := q92_
                  refine s_load (x := x86_) (cellS_heap (Sub.trans (Sub.refl _) s80_.sub) (cl93_ 0 _ rfl)) rfl ?_
                  refine s_chk hx85_ id fun hp95_ hx85_ => ?_
                  have s96_ := s80_.at1
                  have s97_ := s96_.at1
                  obtain rfl := Option.some.inj hx85_
                  exact s_out ((decide (z11.1 < (IntKind.wrap .i64 (Int.tmod x86_ (10 : Int))))), ()) rfl ⟨f78_, (Sub.refl _), rfl, s97_⟩
                · have s98_ := s80_.at1
                  have s99_ := s98_.at1
                  obtain rfl := Option.some.inj hx85_
                  exact s_out (false, ()) rfl ⟨f78_, (Sub.refl _), rfl, s99_⟩
              · rintro z12 h101_ ⟨f102_, le103_, rfl, s104_⟩
                try dsimp only at he76_
                refine s_cond he76_ rfl (fun hb122_ he76_ => ?_) (fun hb122_ he76_ => ?_)
                · refine s_new (vs := [.int .i64 (0 : Int)]) s104_ ?_
                  intro r15 h106_ s105_
                  have cw107_ := St.cells s105_
                  have s109_ := s105_.tail
                  obtain ⟨y111_, hy112_, he76_⟩ := Option.bind_eq_some_iff.1 he76_
                  refine s_append (r := (Ro.int .i64)) (ms := ([(0 : Int)] : List Int)) appT_26_26 s109_ rfl cw107_ (.cons (a := [_]) rfl .nil) rfl hy112_ ?_
                  intro t16 h113_ s114_
                  have n115_ := s114_.rowLen
                  have s117_ := s114_.at1
                  have s118_ := s117_.at1
                  obtain rfl := Option.some.inj he76_
                  exact s_next ((IntKind.wrap .i64 (z11.1 + (1 : Int))), t16, ()) _ rfl rfl ⟨f102_, y111_, (le79_.trans le103_), rfl, s118_⟩
                · have s120_ := s104_.at1
                  have s121_ := s120_.at1
                  obtain rfl := Option.some.inj he76_
                  obtain rfl := hb77_ _ rfl
                  exact around_brk (meetB_brk (z11.1, z11.2.1, ()) rfl ⟨f102_, d82_, (le79_.trans le103_), rfl, s121_⟩)
          · rintro z10 h123_ ⟨f124_, d127_, le125_, rfl, s126_⟩
            try dsimp only at he35_
            have n128_ := s126_.rowLen
            refine s_new (vs := [.slice z10.2.1.1 z10.2.1.2.1 z10.2.1.2.2]) s126_ ?_
            intro r17 h131_ s130_
            have s134_ := s130_.at1
            obtain ⟨f135_, le136_, k137_, s138_⟩ := St.freezeRow (t := z10.2.1) s134_
            have cw132_ := St.cells s138_
            have s139_ := s138_.tail
            obtain ⟨y141_, hy142_, he35_⟩ := Option.bind_eq_some_iff.1 he35_
            refine s_append (r := (Ro.list (Ro.int .i64))) (ms := ([d127_] : List (List Int))) appT_22_22 s139_ rfl cw132_ (.cons (a := [_]) ⟨z10.2.1, rfl, k137_⟩ .nil) rfl hy142_ ?_
            intro t18 h143_ s144_
            have n145_ := s144_.rowLen
            obtain ⟨g146_, hx147_, he35_⟩ := Option.bind_eq_some_iff.1 he35_
            refine s_join (fun (y : Bool × Unit) w_ g => ∃ ψ : Snap, Sub f135_ ψ ∧ y.1 = g ∧ St ψ (⟨Rep.row 26 (Ro.list (Ro.int .i64)), [.slice t18.1 t18.2.1 t18.2.2], y141_⟩ :: F) w_) (g := g146_) ?_ ?_
            · obtain ⟨x148_, hx149_, hx147_⟩ := Option.bind_eq_some_iff.1 hx147_
              obtain ⟨a150_, cs151_, ea152_, hi153_, q154_, cl155_⟩ := (k25_.mono ((le38_.trans le125_).trans le136_)).get hx149_
              refine t_deref _ ea152_ (t_chk hi153_ ?_)
              obtain rfl := q154_
              refine s_load (x := x148_) (cellS_heap (Sub.trans (Sub.refl _) s144_.sub) (cl155_ 0 _ rfl)) rfl ?_
              refine s_cond hx147_ rfl (fun hb215_ hx147_ => ?_) (fun hb215_ hx147_ => ?_)
              · obtain rfl := Option.some.inj hx147_
                exact s_out (true, ()) rfl ⟨f135_, (Sub.refl _), rfl, s144_⟩
              · obtain ⟨x157_, hx158_, hx147_⟩ := Option.bind_eq_some_iff.1 hx147_
                obtain ⟨a159_, cs160_, ea161_, hi162_, q163_, cl164_⟩ := (k25_.mono ((le38_.trans le125_).trans le136_)).get hx158_
                refine t_deref _ ea161_ (t_chk hi162_ ?_)
                obtain rfl := q163_
                refine s_load (x := x157_) (cellS_heap (Sub.trans (Sub.refl _) s144_.sub) (cl164_ 0 _ rfl)) rfl ?_
                refine s_cond hx147_ (by rw [n27_]) (fun hb214_ hx147_ => ?_) (fun hb214_ hx147_ => ?_)
                · obtain rfl := Option.some.inj hx147_
                  exact s_out (true, ()) rfl ⟨f135_, (Sub.refl _), rfl, s144_⟩
                · obtain ⟨x166_, hx167_, hx147_⟩ := Option.bind_eq_some_iff.1 hx147_
                  obtain ⟨a168_, cs169_, ea170_, hi171_, q172_, cl173_⟩ := (k25_.mono ((le38_.trans le125_).trans le136_)).get hx167_
                  refine t_deref _ ea170_ (t_chk hi171_ ?_)
                  obtain rfl := q172_
                  refine s_load (x := x166_) (cellS_heap (Sub.trans (Sub.refl _) s144_.sub) (cl173_ 0 _ rfl)) rfl ?_
                  obtain ⟨x175_, hx176_, hx147_⟩ := Option.bind_eq_some_iff.1 hx147_
                  obtain ⟨a177_, cs178_, ea179_, hi180_, q181_, cl182_⟩ := (k28_.mono ((le38_.trans le125_).trans le136_)).get hx176_
                  refine t_deref _ ea179_ (t_chk hi180_ ?_)
                  obtain ⟨t184_, rfl, k185_⟩ := q181_
                  have n186_ := k185_.length
                  refine s_load (x := t184_) (cellS_heap (Sub.trans (Sub.refl _) s144_.sub) (cl182_ 0 _ rfl)) rfl ?_
                  obtain ⟨x187_, hx188_, hx147_⟩ := Option.bind_eq_some_iff.1 hx147_
                  obtain ⟨a189_, cs190_, ea191_, hi192_, q193_, cl194_⟩ := (k1_.mono (((((le10_.trans le16_).trans le22_).trans le38_).trans le125_).trans le136_)).get hx188_
                  refine t_deref _ ea191_ (t_chk hi192_ ?_)
                  obtain ⟨t196_, rfl, k197_⟩ := q193_
                  have n198_ := k197_.length
                  refine s_load (x := t196_) (cellS_heap (Sub.trans (Sub.refl _) s144_.sub) (cl194_ 0 _ rfl)) rfl ?_
                  obtain ⟨r199_, hr200_, hx147_⟩ := Option.bind_eq_some_iff.1 hx147_
                  refine s_call (tronageref15_Trim_sim k197_ s144_ hr200_) ?_
                  rintro _ h201_ ⟨f202_, t30, d205_, le204_, rfl, rfl, k207_, s203_⟩
                  refine ⟨t30, rfl, ?_⟩
                  have n206_ := k207_.length
                  refine t_still (cellS_heap (Sub.trans le204_ s203_.sub) (cl182_ 0 _ rfl)) ?_
                  refine t_still (cellS_heap (Sub.trans le204_ s203_.sub) (cl173_ 0 _ rfl)) ?_
                  obtain ⟨r208_, hr209_, hx147_⟩ := Option.bind_eq_some_iff.1 hx147_
                  refine s_call (tronageref01_Ints_sim (k185_.mono le204_) k207_ s203_ hr209_) ?_
                  rintro _ h210_ ⟨f211_, t31, le213_, rfl, rfl, s212_⟩
                  refine ⟨t31, rfl, ?_⟩
                  obtain rfl := Option.some.inj hx147_
                  exact s_out ((!t31), ()) rfl ⟨f211_, (le204_.trans le213_), rfl, s212_⟩
            · rintro z19 h216_ ⟨f217_, le218_, rfl, s219_⟩
              try dsimp only at he35_
              refine s_cond he35_ rfl (fun hb222_ he35_ => ?_) (fun hb222_ he35_ => ?_)
              · obtain rfl := Option.some.inj he35_
                obtain rfl := hb36_ _ rfl
                try dsimp only at hd
                obtain rfl := Option.some.inj hd
                have s220_ := s219_.tail
                exact around_ret (meetB_ret (finOf_back ⟨f217_, false, ((((((le10_.trans le16_).trans le22_).trans le38_).trans le125_).trans le136_).trans le218_), rfl, rfl, s220_⟩))
              · obtain rfl := Option.some.inj he35_
                exact s_next ((IntKind.wrap .i64 (z5.1 + (1 : Int))), t18, z5.2.2.1, ()) _ rfl rfl ⟨f217_, y141_, (((le38_.trans le125_).trans le136_).trans le218_), hw43_, rfl, s219_⟩
        · rintro _ z5 h226_ _ ⟨f223_, d227_, le224_, rfl, rfl, s225_⟩ hge229_ hr230_
          subst hr230_
          have n228_ := s225_.rowLen
          refine t_false (by rw [n2_]; exact decide_eq_false (Int.not_lt.2 hge229_)) ?_
          exact around_brk (meetB_brk (z5.1, z5.2.1, z5.2.2.1, ()) rfl ⟨f223_, d227_, le224_, rfl, s225_⟩)
      · rintro z4 h232_ ⟨f233_, d236_, le234_, rfl, s235_⟩
        try dsimp only at hd
        have n237_ := s235_.rowLen
        obtain ⟨g239_, hx240_, hd⟩ := Option.bind_eq_some_iff.1 hd
        refine s_block (fun (y : Int × Bool × Unit) w_ g => ∃ ψ : Snap, Sub f233_ ψ ∧ Step.next () = g ∧ St ψ (⟨Rep.row 26 (Ro.list (Ro.int .i64)), [.slice z4.2.1.1 z4.2.1.2.1 z4.2.1.2.2], d236_⟩ :: F) w_) (g := g239_) ?_ ?_
        · refine s_forN hx240_ (fun i241_ (y : Int × Bool × Unit) w_ g => ∃ ψ : Snap, Sub f233_ ψ ∧ y.1 = i241_ ∧ () = g ∧ St ψ (⟨Rep.row 26 (Ro.list (Ro.int .i64)), [.slice z4.2.1.1 z4.2.1.2.1 z4.2.1.2.2], d236_⟩ :: F) w_) ((0 : Int), z4.2.2.1, ()) rfl ⟨f233_, (Sub.refl _), rfl, rfl, s235_⟩ ?_ ?_
          · rintro _ z33 h247_ _ _ ⟨f244_, le245_, rfl, rfl, s246_⟩ he242_ h1249_ h2250_ hw248_ hb243_
            try dsimp only at he242_ h1249_ h2250_ hw248_
            refine t_true (by rw [n27_]; exact decide_eq_true h2250_) ?_
            obtain ⟨g251_, hx252_, he242_⟩ := Option.bind_eq_some_iff.1 he242_
            refine s_block (fun (y : Int × Bool × Unit) w_ g => ∃ ψ : Snap, Sub f244_ ψ ∧ Step.next () = g ∧ St ψ (⟨Rep.row 26 (Ro.list (Ro.int .i64)), [.slice z4.2.1.1 z4.2.1.2.1 z4.2.1.2.2], d236_⟩ :: F) w_) (g := g251_) ?_ ?_
            · refine s_forN hx252_ (fun i253_ (y : Int × Bool × Unit) w_ g => ∃ ψ : Snap, Sub f244_ ψ ∧ y.1 = i253_ ∧ () = g ∧ St ψ (⟨Rep.row 26 (Ro.list (Ro.int .i64)), [.slice z4.2.1.1 z4.2.1.2.1 z4.2.1.2.2], d236_⟩ :: F) w_) ((0 : Int), z33.2.1, ()) rfl ⟨f244_, (Sub.refl _), rfl, rfl, s246_⟩ ?_ ?_
              · rintro _ z35 h259_ _ _ ⟨f256_, le257_, rfl, rfl, s258_⟩ he254_ h1261_ h2262_ hw260_ hb255_
                try dsimp only at he254_ h1261_ h2262_ hw260_
                refine t_true (by exact decide_eq_true h2262_) ?_
                obtain ⟨x263_, hx264_, he254_⟩ := Option.bind_eq_some_iff.1 he254_
                obtain ⟨a265_, cs266_, ea267_, hi268_, q269_, cl270_⟩ := (k28_.mono ((le234_.trans le245_).trans le257_)).get hx264_
                refine t_deref _ ea267_ (t_chk hi268_ ?_)
                obtain ⟨t272_, rfl, k273_⟩ := q269_
                have n274_ := k273_.length
                refine s_load (x := t272_) (cellS_heap (Sub.trans (Sub.refl _) s258_.sub) (cl270_ 0 _ rfl)) rfl ?_
                obtain ⟨x275_, hx276_, he254_⟩ := Option.bind_eq_some_iff.1 he254_
                obtain ⟨a277_, cs278_, ea279_, hi280_, q281_, cl282_⟩ := (k28_.mono ((le234_.trans le245_).trans le257_)).get hx276_
                refine t_deref _ ea279_ (t_chk hi280_ ?_)
                obtain ⟨t284_, rfl, k285_⟩ := q281_
                have n286_ := k285_.length
                refine s_load (x := t284_) (cellS_heap (Sub.trans (Sub.refl _) s258_.sub) (cl282_ 0 _ rfl)) rfl ?_
                obtain ⟨r287_, hr288_, he254_⟩ := Option.bind_eq_some_iff.1 he254_
                refine s_call (tronageref01_Ints_sim k273_ k285_ s258_ hr288_) ?_
                rintro _ h289_ ⟨f290_, t40, le292_, rfl, rfl, s291_⟩
                refine ⟨t40, rfl, ?_⟩
                refine s_cond he254_ rfl (fun hb294_ he254_ => ?_) (fun hb294_ he254_ => ?_)
                · obtain rfl := Option.some.inj he254_
                  obtain rfl := hb255_ _ rfl
                  try dsimp only at he242_
                  obtain rfl := Option.some.inj he242_
                  obtain rfl := hb243_ _ rfl
                  try dsimp only at hd
                  obtain rfl := Option.some.inj hd
                  have s293_ := s291_.tail
                  exact around_ret (meetB_ret (around_ret (meetB_ret (finOf_back ⟨f290_, false, ((((((le10_.trans le16_).trans le22_).trans le234_).trans le245_).trans le257_).trans le292_), rfl, rfl, s293_⟩))))
                · obtain rfl := Option.some.inj he254_
                  exact s_next ((IntKind.wrap .i64 (z35.1 + (1 : Int))), z35.2.1, ()) _ rfl rfl ⟨f290_, (le257_.trans le292_), hw260_, rfl, s291_⟩
              · rintro _ z35 h298_ _ ⟨f295_, le296_, rfl, rfl, s297_⟩ hge299_ hr300_
                subst hr300_
                refine t_false (by exact decide_eq_false (Int.not_lt.2 hge299_)) ?_
                exact around_brk (meetB_brk (z35.1, z35.2.1, ()) rfl ⟨f295_, le296_, rfl, s297_⟩)
            · rintro z34 h301_ ⟨f302_, le303_, rfl, s304_⟩
              try dsimp only at he242_
              obtain rfl := Option.some.inj he242_
              exact s_next ((IntKind.wrap .i64 (z33.1 + (1 : Int))), z34.2.1, ()) _ rfl rfl ⟨f302_, (le245_.trans le303_), hw248_, rfl, s304_⟩
          · rintro _ z33 h310_ _ ⟨f307_, le308_, rfl, rfl, s309_⟩ hge311_ hr312_
            subst hr312_
            refine t_false (by rw [n27_]; exact decide_eq_false (Int.not_lt.2 hge311_)) ?_
            exact around_brk (meetB_brk (z33.1, z33.2.1, ()) rfl ⟨f307_, le308_, rfl, s309_⟩)
        · rintro z32 h313_ ⟨f314_, le315_, rfl, s316_⟩
          try dsimp only at hd
          obtain ⟨f319_, le320_, k321_, s322_⟩ := St.freezeRow (t := z4.2.1) s316_
          obtain ⟨r323_, hr324_, hd⟩ := Option.bind_eq_some_iff.1 hd
          refine s_call (table_Share_sim (gk.mono (((((le10_.trans le16_).trans le22_).trans le234_).trans le315_).trans le320_)) k321_ s322_ hr324_) ?_
          rintro _ h325_ ⟨f326_, t41, d329_, d332_, le328_, rfl, rfl, k331_, k334_, s327_⟩
          refine ⟨t41, rfl, ?_⟩
          try dsimp only at hd
          have n330_ := k331_.length
          have n333_ := k334_.length
          obtain ⟨g335_, hx336_, hd⟩ := Option.bind_eq_some_iff.1 hd
          refine s_join (fun (y : Bool × Unit) w_ g => ∃ ψ : Snap, Sub f326_ ψ ∧ y.1 = g ∧ St ψ (F) w_) (g := g335_) ?_ ?_
          · refine s_cond hx336_ rfl (fun hb350_ hx336_ => ?_) (fun hb350_ hx336_ => ?_)
            · obtain ⟨r337_, hr338_, hx336_⟩ := Option.bind_eq_some_iff.1 hx336_
              refine s_call (tronageref01_Ints_sim (k25_.mono (((le234_.trans le315_).trans le320_).trans le328_)) k331_ s327_ hr338_) ?_
              rintro _ h339_ ⟨f340_, t43, le342_, rfl, rfl, s341_⟩
              refine ⟨t43, rfl, ?_⟩
              refine s_cond hx336_ rfl (fun hb349_ hx336_ => ?_) (fun hb349_ hx336_ => ?_)
              · obtain ⟨r343_, hr344_, hx336_⟩ := Option.bind_eq_some_iff.1 hx336_
                refine s_call (tronageref01_Lists_sim (k28_.mono ((((le234_.trans le315_).trans le320_).trans le328_).trans le342_)) (k334_.mono le342_) s341_ hr344_) ?_
                rintro _ h345_ ⟨f346_, t44, le348_, rfl, rfl, s347_⟩
                refine ⟨t44, rfl, ?_⟩
                obtain rfl := Option.some.inj hx336_
                exact s_out (t44, ()) rfl ⟨f346_, (le342_.trans le348_), rfl, s347_⟩
              · obtain rfl := Option.some.inj hx336_
                exact s_out (false, ()) rfl ⟨f340_, le342_, rfl, s341_⟩
            · obtain rfl := Option.some.inj hx336_
              exact s_out (false, ()) rfl ⟨f326_, (Sub.refl _), rfl, s327_⟩
          · rintro z42 h351_ ⟨f352_, le353_, rfl, s354_⟩
            try dsimp only at hd
            obtain rfl := Option.some.inj hd
            exact finOf_back ⟨f352_, z42.1, (((((((le10_.trans le16_).trans le22_).trans le234_).trans le315_).trans le320_).trans le328_).trans le353_), rfl, rfl, s354_⟩

noncomputable def tronagelaw15_TableFits_D (rows_0 : List (List Int)) : Option Bool :=
  tronagelaw15_awake_D.bind fun t1 =>
  (tronagelaw15_few_D rows_0).bind fun t2 =>
  cond (!t2)
  (some t1)
  ((table_Pack_D rows_0).bind fun t3 =>
    (cond ((((List.length t3.2.1) : Nat) : Int) != (((List.length rows_0) : Nat) : Int))
    (some true)
    (some ((((List.length t3.1) : Nat) : Int) != (((List.length rows_0) : Nat) : Int)))).bind fun z5 =>
    cond z5
    (some false)
    ((forN (σ := Unit) (β := Bool) (0 : Int) (((List.length rows_0) : Nat) : Int) () fun i_z9 z9 =>
        (loop (σ := Int) (β := Step Unit Bool) (0 : Int) fun z11 =>
          (idx t3.2.1 i_z9).bind fun e79 =>
          cond (decide (z11 < e79))
          ((loop (σ := (Int × Bool)) (β := Bool) ((0 : Int), false) fun z16 =>
              (idx rows_0 i_z9).bind fun e96 =>
              cond (decide (z16.1 < (((List.length e96) : Nat) : Int)))
              ((cond z16.2
                (some true)
                ((idx rows_0 i_z9).bind fun e110 =>
                  (idx e110 z16.1).bind fun e122 =>
                  cond (e122 != (0 : Int))
                  (cond (decide ((IntKind.wrap .i64 (z11 + z16.1)) < (((List.length t3.2.2.2) : Nat) : Int)))
                    ((idx t3.2.2.2 (IntKind.wrap .i64 (z11 + z16.1))).bind fun e131 =>
                      cond (decide (e131 > (0 : Int)))
                      ((idx t3.2.2.2 (IntKind.wrap .i64 (z11 + z16.1))).bind fun e140 =>
                        (idx t3.1 i_z9).bind fun e149 =>
                        some (decide (e140 ≤ e149)))
                      (some false))
                    (some false))
                  (some false))).bind fun z19 =>
                some (Step.next ((IntKind.wrap .i64 (z16.1 + (1 : Int))), z19)))
              (some (Step.done z16.2))).bind fun z15 =>
            cond (!z15)
            (some (Step.done (Step.done false)))
            (some (Step.next (IntKind.wrap .i64 (z11 + (1 : Int))))))
          (some (Step.done (Step.next ())))).bind fun e_z10 => match e_z10 with
        | .next z10 =>
          some (Step.next ())
        | .done q172 => some (Step.done q172)).bind fun e_z8 => match e_z8 with
      | .next z8 =>
        some t1
      | .done q185 => some q185))
theorem tronagelaw15_TableFits_sim {φ : Snap} {h : Heap} {F : List Chk} {rows_0 : Slc} {d_rows_0 : List (List Int)} (gk : Glob φ) (k1_ : Ro.SliceIs (Ro.list (Ro.int .i64)) φ rows_0 d_rows_0) (s0 : St φ (F) h) {r : Bool} (hd : tronagelaw15_TableFits_D d_rows_0 = some r) :
    CallsH Tryd.prog 4 [(.slice rows_0.1 rows_0.2.1 rows_0.2.2)] h (Back fun v h' => ∃ ψ : Snap, ∃ y : Bool, Sub φ ψ ∧ v = ((.one (.atom .bool)) : Sh).val y ∧ y = r ∧ St ψ (F) h') := by
  refine calls_of mixed Tryd.func4 ?_
  rw [tronagelaw15_TableFits_den]
  unfold tronagelaw15_TableFits_T
  unfold tronagelaw15_TableFits_D at hd
  have n2_ : rows_0.2.1 = List.length d_rows_0 := k1_.length
  obtain ⟨r3_, hr4_, hd⟩ := Option.bind_eq_some_iff.1 hd
  refine s_call (tronagelaw15_awake_sim gk  s0 hr4_) ?_
  rintro _ h5_ ⟨f6_, t1, le8_, rfl, rfl, s7_⟩
  refine ⟨t1, rfl, ?_⟩
  obtain ⟨r9_, hr10_, hd⟩ := Option.bind_eq_some_iff.1 hd
  refine s_call (tronagelaw15_few_sim (k1_.mono le8_) s7_ hr10_) ?_
  rintro _ h11_ ⟨f12_, t2, le14_, rfl, rfl, s13_⟩
  refine ⟨t2, rfl, ?_⟩
  refine s_cond hd rfl (fun hb187_ hd => ?_) (fun hb187_ hd => ?_)
  · obtain rfl := Option.some.inj hd
    exact finOf_back ⟨f12_, t1, (le8_.trans le14_), rfl, rfl, s13_⟩
  · obtain ⟨r15_, hr16_, hd⟩ := Option.bind_eq_some_iff.1 hd
    refine s_call (table_Pack_sim (gk.mono (le8_.trans le14_)) (k1_.mono (le8_.trans le14_)) s13_ hr16_) ?_
    rintro _ h17_ ⟨f18_, t3, d21_, d24_, d27_, d30_, le20_, rfl, rfl, k23_, k26_, k29_, k32_, s19_⟩
    refine ⟨t3, rfl, ?_⟩
    try dsimp only at hd
    have n22_ := k23_.length
    have n25_ := k26_.length
    have n28_ := k29_.length
    have n31_ := k32_.length
    refine s_new (vs := [.slice none 0 0, .slice none 0 0, .slice none 0 0, .slice none 0 0]) s19_ ?_
    intro r4 h34_ s33_
    refine s_put (b := r4) (j := 0) (v := .slice t3.1.1 t3.1.2.1 t3.1.2.2) s33_ rfl (show (0 : Nat) < 4 by decide) ?_
    intro h36_ s35_
    refine s_put (b := r4) (j := 1) (v := .slice t3.2.1.1 t3.2.1.2.1 t3.2.1.2.2) s35_ rfl (show (1 : Nat) < 4 by decide) ?_
    intro h38_ s37_
    refine s_put (b := r4) (j := 2) (v := .slice t3.2.2.1.1 t3.2.2.1.2.1 t3.2.2.1.2.2) s37_ rfl (show (2 : Nat) < 4 by decide) ?_
    intro h40_ s39_
    refine s_put (b := r4) (j := 3) (v := .slice t3.2.2.2.1.1 t3.2.2.2.1.2.1 t3.2.2.2.1.2.2) s39_ rfl (show (3 : Nat) < 4 by decide) ?_
    intro h42_ s41_
    obtain ⟨g43_, hx44_, hd⟩ := Option.bind_eq_some_iff.1 hd
    refine s_join (fun (y : Bool × Unit) w_ g => ∃ ψ : Snap, Sub f18_ ψ ∧ y.1 = g ∧ St ψ (⟨Rep.raw 34, [.pointer (some ⟨r4, 0, none⟩)], [.slice t3.1.1 t3.1.2.1 t3.1.2.2, .slice t3.2.1.1 t3.2.1.2.1 t3.2.1.2.2, .slice t3.2.2.1.1 t3.2.2.1.2.1 t3.2.2.1.2.2, .slice t3.2.2.2.1.1 t3.2.2.2.1.2.1 t3.2.2.2.1.2.2]⟩ :: F) w_) (g := g43_) ?_ ?_
    · refine s_loadR (b := r4) (j := 1) (x := t3.2.1) s41_ rfl ?_
      refine s_cond hx44_ (by rw [n25_, n2_]) (fun hb45_ hx44_ => ?_) (fun hb45_ hx44_ => ?_)
      · obtain rfl := Option.some.inj hx44_
        exact s_out (true, ()) rfl ⟨f18_, (Sub.refl _), rfl, s41_⟩
      · refine s_loadR (b := r4) (j := 0) (x := t3.1) s41_ rfl ?_
        obtain rfl := Option.some.inj hx44_
        exact s_out ((((t3.1.2.1 : Nat) : Int) != ((rows_0.2.1 : Nat) : Int)), ()) rfl ⟨f18_, (Sub.refl _), (by rw [n22_, n2_]), s41_⟩
    · rintro z5 h46_ ⟨f47_, le48_, rfl, s49_⟩
      try dsimp only at hd
      refine s_cond hd rfl (fun hb186_ hd => ?_) (fun hb186_ hd => ?_)
      · obtain rfl := Option.some.inj hd
        have s50_ := s49_.tail
        exact finOf_back ⟨f47_, false, (((le8_.trans le14_).trans le20_).trans le48_), rfl, rfl, s50_⟩
      · obtain ⟨g51_, hx52_, hd⟩ := Option.bind_eq_some_iff.1 hd
        refine s_block (fun (y : Int × Bool × Unit) w_ g => ∃ ψ : Snap, Sub f47_ ψ ∧ Step.next () = g ∧ St ψ (⟨Rep.raw 34, [.pointer (some ⟨r4, 0, none⟩)], [.slice t3.1.1 t3.1.2.1 t3.1.2.2, .slice t3.2.1.1 t3.2.1.2.1 t3.2.1.2.2, .slice t3.2.2.1.1 t3.2.2.1.2.1 t3.2.2.1.2.2, .slice t3.2.2.2.1.1 t3.2.2.2.1.2.1 t3.2.2.2.1.2.2]⟩ :: F) w_) (g := g51_) ?_ ?_
        · refine s_forN hx52_ (fun i53_ (y : Int × Bool × Unit) w_ g => ∃ ψ : Snap, Sub f47_ ψ ∧ y.1 = i53_ ∧ () = g ∧ St ψ (⟨Rep.raw 34, [.pointer (some ⟨r4, 0, none⟩)], [.slice t3.1.1 t3.1.2.1 t3.1.2.2, .slice t3.2.1.1 t3.2.1.2.1 t3.2.1.2.2, .slice t3.2.2.1.1 t3.2.2.1.2.1 t3.2.2.1.2.2, .slice t3.2.2.2.1.1 t3.2.2.2.1.2.1 t3.2.2.2.1.2.2]⟩ :: F) w_) ((0 : Int), false, ()) rfl ⟨f47_, (Sub.refl _), rfl, rfl, s49_⟩ ?_ ?_
          · rintro _ z9 h59_ _ _ ⟨f56_, le57_, rfl, rfl, s58_⟩ he54_ h161_ h262_ hw60_ hb55_
            try dsimp only at he54_ h161_ h262_ hw60_
            refine t_true (by rw [n2_]; exact decide_eq_true h262_) ?_
            obtain ⟨g63_, hx64_, he54_⟩ := Option.bind_eq_some_iff.1 he54_
            refine s_block (fun (y : Int × Bool × Unit) w_ g => ∃ ψ : Snap, Sub f56_ ψ ∧ Step.next () = g ∧ St ψ (⟨Rep.raw 34, [.pointer (some ⟨r4, 0, none⟩)], [.slice t3.1.1 t3.1.2.1 t3.1.2.2, .slice t3.2.1.1 t3.2.1.2.1 t3.2.1.2.2, .slice t3.2.2.1.1 t3.2.2.1.2.1 t3.2.2.1.2.2, .slice t3.2.2.2.1.1 t3.2.2.2.1.2.1 t3.2.2.2.1.2.2]⟩ :: F) w_) (g := g63_) ?_ ?_
            · refine s_loop hx64_ (fun (y : Int × Bool × Unit) w_ g => ∃ ψ : Snap, Sub f56_ ψ ∧ y.1 = g ∧ St ψ (⟨Rep.raw 34, [.pointer (some ⟨r4, 0, none⟩)], [.slice t3.1.1 t3.1.2.1 t3.1.2.2, .slice t3.2.1.1 t3.2.1.2.1 t3.2.1.2.2, .slice t3.2.2.1.1 t3.2.2.1.2.1 t3.2.2.1.2.2, .slice t3.2.2.2.1.1 t3.2.2.2.1.2.1 t3.2.2.2.1.2.2]⟩ :: F) w_) ((0 : Int), z9.2.1, ()) rfl ⟨f56_, (Sub.refl _), rfl, s58_⟩ ?_
              · rintro z11 h70_ _ _ ⟨f67_, le68_, rfl, s69_⟩ he65_ hb66_
                try dsimp only at he65_
                refine s_loadR (b := r4) (j := 1) (x := t3.2.1) s69_ rfl ?_
                obtain ⟨x71_, hx72_, he65_⟩ := Option.bind_eq_some_iff.1 he65_
                obtain ⟨a73_, cs74_, ea75_, hi76_, q77_, cl78_⟩ := (k26_.mono ((le48_.trans le57_).trans le68_)).get hx72_
                refine t_deref _ ea75_ (t_chk hi76_ ?_)
                obtain rfl := q77_
                refine s_load (x := x71_) (cellS_heap (Sub.trans (Sub.refl _) s69_.sub) (cl78_ 0 _ rfl)) rfl ?_
                refine s_cond he65_ rfl (fun hb166_ he65_ => ?_) (fun hb166_ he65_ => ?_)
                · obtain ⟨g80_, hx81_, he65_⟩ := Option.bind_eq_some_iff.1 he65_
                  refine s_block (fun (y : Int × Bool × Unit) w_ g => ∃ ψ : Snap, Sub f67_ ψ ∧ y.2.1 = g ∧ St ψ (⟨Rep.raw 34, [.pointer (some ⟨r4, 0, none⟩)], [.slice t3.1.1 t3.1.2.1 t3.1.2.2, .slice t3.2.1.1 t3.2.1.2.1 t3.2.1.2.2, .slice t3.2.2.1.1 t3.2.2.1.2.1 t3.2.2.1.2.2, .slice t3.2.2.2.1.1 t3.2.2.2.1.2.1 t3.2.2.2.1.2.2]⟩ :: F) w_) (g := g80_) ?_ ?_
                  · refine s_loop hx81_ (fun (y : Int × Bool × Unit) w_ g => ∃ ψ : Snap, Sub f67_ ψ ∧ (y.1, y.2.1) = g ∧ St ψ (⟨Rep.raw 34, [.pointer (some ⟨r4, 0, none⟩)], [.slice t3.1.1 t3.1.2.1 t3.1.2.2, .slice t3.2.1.1 t3.2.1.2.1 t3.2.1.2.2, .slice t3.2.2.1.1 t3.2.2.1.2.1 t3.2.2.1.2.2, .slice t3.2.2.2.1.1 t3.2.2.2.1.2.1 t3.2.2.2.1.2.2]⟩ :: F) w_) ((0 : Int), false, ()) rfl ⟨f67_, (Sub.refl _), rfl, s69_⟩ ?_
                    · rintro z16 h87_ _ _ ⟨f84_, le85_, rfl, s86_⟩ he82_ hb83_
                      try dsimp only at he82_
                      obtain ⟨x88_, hx89_, he82_⟩ := Option.bind_eq_some_iff.1 he82_
                      obtain ⟨a90_, cs91_, ea92_, hi93_, q94_, cl95_⟩ := (k1_.mono ((((((le8_.trans le14_).trans le20_).trans le48_).trans le57_).trans le68_).trans le85_)).get hx89_
                      refine t_deref _ ea92_ (t_chk hi93_ ?_)
                      obtain ⟨t97_, rfl, k98_⟩ := q94_
                      have n99_ := k98_.length
                      refine s_load (x := t97_) (cellS_heap (Sub.trans (Sub.refl _) s86_.sub) (cl95_ 0 _ rfl)) rfl ?_
                      refine s_cond he82_ (by rw [n99_]) (fun hb158_ he82_ => ?_) (fun hb158_ he82_ => ?_)
                      · obtain ⟨g100_, hx101_, he82_⟩ := Option.bind_eq_some_iff.1 he82_
                        refine s_join (fun (y : Bool × Unit) w_ g => ∃ ψ : Snap, Sub f84_ ψ ∧ y.1 = g ∧ St ψ (⟨Rep.raw 34, [.pointer (some ⟨r4, 0, none⟩)], [.slice t3.1.1 t3.1.2.1 t3.1.2.2, .slice t3.2.1.1 t3.2.1.2.1 t3.2.1.2.2, .slice t3.2.2.1.1 t3.2.2.1.2.1 t3.2.2.1.2.2, .slice t3.2.2.2.1.1 t3.2.2.2.1.2.1 t3.2.2.2.1.2.2]⟩ :: F) w_) (g := g100_) ?_ ?_
                        · refine s_cond hx101_ rfl (fun hb153_ hx101_ => ?_) (fun hb153_ hx101_ => ?_)
                          · obtain rfl := Option.some.inj hx101_
                            exact s_out (true, ()) rfl ⟨f84_, (Sub.refl _), rfl, s86_⟩
                          · obtain ⟨x102_, hx103_, hx101_⟩ := Option.bind_eq_some_iff.1 hx101_
                            obtain ⟨a104_, cs105_, ea106_, hi107_, q108_, cl109_⟩ := (k1_.mono ((((((le8_.trans le14_).trans le20_).trans le48_).trans le57_).trans le68_).trans le85_)).get hx103_
                            refine t_deref _ ea106_ (t_chk hi107_ ?_)
                            obtain ⟨t111_, rfl, k112_⟩ := q108_
                            have n113_ := k112_.length
                            refine s_load (x := t111_) (cellS_heap (Sub.trans (Sub.refl _) s86_.sub) (cl109_ 0 _ rfl)) rfl ?_
                            obtain ⟨x114_, hx115_, hx101_⟩ := Option.bind_eq_some_iff.1 hx101_
                            obtain ⟨a116_, cs117_, ea118_, hi119_, q120_, cl121_⟩ := k112_.get hx115_
                            refine t_deref _ ea118_ (t_chk hi119_ ?_)
                            obtain rfl := q120_
                            refine s_load (x := x114_) (cellS_heap (Sub.trans (Sub.refl _) s86_.sub) (cl121_ 0 _ rfl)) rfl ?_
                            refine s_cond hx101_ rfl (fun hb152_ hx101_ => ?_) (fun hb152_ hx101_ => ?_)
                            · refine s_loadR (b := r4) (j := 3) (x := t3.2.2.2.1) s86_ rfl ?_
                              refine s_cond hx101_ (by rw [n31_]) (fun hb151_ hx101_ => ?_) (fun hb151_ hx101_ => ?_)
                              · refine s_loadR (b := r4) (j := 3) (x := t3.2.2.2.1) s86_ rfl ?_
                                obtain ⟨x123_, hx124_, hx101_⟩ := Option.bind_eq_some_iff.1 hx101_
                                obtain ⟨a125_, cs126_, ea127_, hi128_, q129_, cl130_⟩ := (k32_.mono (((le48_.trans le57_).trans le68_).trans le85_)).get hx124_
                                refine t_deref _ ea127_ (t_chk hi128_ ?_)
                                obtain rfl := q129_
                                refine s_load (x := x123_) (cellS_heap (Sub.trans (Sub.refl _) s86_.sub) (cl130_ 0 _ rfl)) rfl ?_
                                refine s_cond hx101_ rfl (fun hb150_ hx101_ => ?_) (fun hb150_ hx101_ => ?_)
                                · refine s_loadR (b := r4) (j := 3) (x := t3.2.2.2.1) s86_ rfl ?_
                                  obtain ⟨x132_, hx133_, hx101_⟩ := Option.bind_eq_some_iff.1 hx101_
                                  obtain ⟨a134_, cs135_, ea136_, hi137_, q138_, cl139_⟩ := (k32_.mono (((le48_.trans le57_).trans le68_).trans le85_)).get hx133_
                                  refine t_deref _ ea136_ (t_chk hi137_ ?_)
                                  obtain rfl := q138_
                                  refine s_load (x := x132_) (cellS_heap (Sub.trans (Sub.refl _) s86_.sub) (cl139_ 0 _ rfl)) rfl ?_
                                  refine s_loadR (b := r4) (j := 0) (x := t3.1) s86_ rfl ?_
                                  obtain ⟨x141_, hx142_, hx101_⟩ := Option.bind_eq_some_iff.1 hx101_
                                  obtain ⟨a143_, cs144_, ea145_, hi146_, q147_, cl148_⟩ := (k23_.mono (((le48_.trans le57_).trans le68_).trans le85_)).get hx142_
                                  refine t_deref _ ea145_ (t_chk hi146_ ?_)
                                  obtain rfl := q147_
                                  refine s_load (x := x141_) (cellS_heap (Sub.trans (Sub.refl _) s86_.sub) (cl148_ 0 _ rfl)) rfl ?_
                                  obtain rfl := Option.some.inj hx101_
                                  exact s_out ((decide (x132_ ≤ x141_)), ()) rfl ⟨f84_, (Sub.refl _), rfl, s86_⟩
                                · obtain rfl := Option.some.inj hx101_
                                  exact s_out (false, ()) rfl ⟨f84_, (Sub.refl _), rfl, s86_⟩
                              · obtain rfl := Option.some.inj hx101_
                                exact s_out (false, ()) rfl ⟨f84_, (Sub.refl _), rfl, s86_⟩
                            · obtain rfl := Option.some.inj hx101_
                              exact s_out (false, ()) rfl ⟨f84_, (Sub.refl _), rfl, s86_⟩
                        · rintro z19 h154_ ⟨f155_, le156_, rfl, s157_⟩
                          try dsimp only at he82_
                          obtain rfl := Option.some.inj he82_
                          exact s_next ((IntKind.wrap .i64 (z16.1 + (1 : Int))), z19.1, ()) _ rfl rfl ⟨f155_, (le85_.trans le156_), rfl, s157_⟩
                      · obtain rfl := Option.some.inj he82_
                        obtain rfl := hb83_ _ rfl
                        exact around_brk (meetB_brk (z16.1, z16.2.1, ()) rfl ⟨f84_, le85_, rfl, s86_⟩)
                  · rintro z15 h159_ ⟨f160_, le161_, rfl, s162_⟩
                    try dsimp only at he65_
                    refine s_cond he65_ rfl (fun hb165_ he65_ => ?_) (fun hb165_ he65_ => ?_)
                    · obtain rfl := Option.some.inj he65_
                      obtain rfl := hb66_ _ rfl
                      try dsimp only at he54_
                      obtain rfl := Option.some.inj he54_
                      obtain rfl := hb55_ _ rfl
                      try dsimp only at hd
                      obtain rfl := Option.some.inj hd
                      have s164_ := s162_.tail
                      exact around_ret (meetB_ret (around_ret (meetB_ret (finOf_back ⟨f160_, false, ((((((le8_.trans le14_).trans le20_).trans le48_).trans le57_).trans le68_).trans le161_), rfl, rfl, s164_⟩))))
                    · obtain rfl := Option.some.inj he65_
                      exact s_next ((IntKind.wrap .i64 (z11.1 + (1 : Int))), z11.2.1, ()) _ rfl rfl ⟨f160_, (le68_.trans le161_), rfl, s162_⟩
                · obtain rfl := Option.some.inj he65_
                  obtain rfl := hb66_ _ rfl
                  exact around_brk (meetB_brk (z11.1, z11.2.1, ()) rfl ⟨f67_, le68_, rfl, s69_⟩)
            · rintro z10 h167_ ⟨f168_, le169_, rfl, s170_⟩
              try dsimp only at he54_
              obtain rfl := Option.some.inj he54_
              exact s_next ((IntKind.wrap .i64 (z9.1 + (1 : Int))), z10.2.1, ()) _ rfl rfl ⟨f168_, (le57_.trans le169_), hw60_, rfl, s170_⟩
          · rintro _ z9 h176_ _ ⟨f173_, le174_, rfl, rfl, s175_⟩ hge177_ hr178_
            subst hr178_
            refine t_false (by rw [n2_]; exact decide_eq_false (Int.not_lt.2 hge177_)) ?_
            exact around_brk (meetB_brk (z9.1, z9.2.1, ()) rfl ⟨f173_, le174_, rfl, s175_⟩)
        · rintro z8 h179_ ⟨f180_, le181_, rfl, s182_⟩
          try dsimp only at hd
          obtain rfl := Option.some.inj hd
          have s184_ := s182_.tail
          exact finOf_back ⟨f180_, t1, ((((le8_.trans le14_).trans le20_).trans le48_).trans le181_), rfl, rfl, s184_⟩

noncomputable def tronagelaw15_TableGoesOn_D (rows_0 : List (List Int)) (more_1 : List Int) : Option Bool :=
  tronagelaw15_awake_D.bind fun t1 =>
  (tronagelaw15_few_D rows_0).bind fun t2 =>
  (cond (!t2)
  (some true)
  (cond (decide ((((List.length rows_0) : Nat) : Int) > (24 : Int)))
    (some true)
    (some (decide ((((List.length more_1) : Nat) : Int) > (25 : Int)))))).bind fun z3 =>
  cond z3
  (some t1)
  ((table_Pack_D rows_0).bind fun t4 =>
    (app ([] : List (List Int)) rows_0).bind fun t7 =>
    (app t7 ([more_1] : List (List Int))).bind fun t9 =>
    (table_Pack_D t9).bind fun t10 =>
    (cond ((((List.length t10.2.1) : Nat) : Int) != (IntKind.wrap .i64 ((((List.length rows_0) : Nat) : Int) + (1 : Int))))
    (some true)
    (cond ((((List.length t4.2.1) : Nat) : Int) != (((List.length rows_0) : Nat) : Int))
      (some true)
      ((table_Packed_Cells_D (t10.1, t10.2.1, t10.2.2.1, t10.2.2.2)).bind fun t23 =>
        (table_Packed_Cells_D (t4.1, t4.2.1, t4.2.2.1, t4.2.2.2)).bind fun t24 =>
        some (decide (t23 < t24))))).bind fun z12 =>
    cond z12
    (some false)
    ((forN (σ := Unit) (β := Bool) (0 : Int) (((List.length t4.2.2.1) : Nat) : Int) () fun i_z26 z26 =>
        ((idx t4.2.2.2 i_z26).bind fun e160 =>
        cond (e160 != (0 : Int))
        ((idx t10.2.2.1 i_z26).bind fun e169 =>
          (idx t4.2.2.1 i_z26).bind fun e178 =>
          cond (e169 != e178)
          (some true)
          ((idx t10.2.2.2 i_z26).bind fun e189 =>
            (idx t4.2.2.2 i_z26).bind fun e198 =>
            some (e189 != e198)))
        (some false)).bind fun z28 =>
        cond z28
        (some (Step.done false))
        (some (Step.next ()))).bind fun e_z25 => match e_z25 with
      | .next z25 =>
        (cond t1
        ((cut t10.2.1 (0 : Int) (((List.length rows_0) : Nat) : Int)).bind fun c234 =>
          (tronageref01_Ints_D t4.2.1 c234).bind fun t47 =>
          cond t47
          ((cut t10.1 (0 : Int) (((List.length rows_0) : Nat) : Int)).bind fun c246 =>
            (tronageref01_Ints_D t4.1 c246).bind fun t50 =>
            some t50)
          (some false))
        (some false)).bind fun z44 =>
        some z44
      | .done q267 => some q267))
theorem tronagelaw15_TableGoesOn_sim {φ : Snap} {h : Heap} {F : List Chk} {rows_0 : Slc} {d_rows_0 : List (List Int)} {more_1 : Slc} {d_more_1 : List Int} (gk : Glob φ) (k1_ : Ro.SliceIs (Ro.list (Ro.int .i64)) φ rows_0 d_rows_0) (k3_ : Ro.SliceIs (Ro.int .i64) φ more_1 d_more_1) (s0 : St φ (F) h) {r : Bool} (hd : tronagelaw15_TableGoesOn_D d_rows_0 d_more_1 = some r) :
    CallsH Tryd.prog 5 [(.slice rows_0.1 rows_0.2.1 rows_0.2.2), (.slice more_1.1 more_1.2.1 more_1.2.2)] h (Back fun v h' => ∃ ψ : Snap, ∃ y : Bool, Sub φ ψ ∧ v = ((.one (.atom .bool)) : Sh).val y ∧ y = r ∧ St ψ (F) h') := by
  refine calls_of mixed Tryd.func5 ?_
  rw [tronagelaw15_TableGoesOn_den]
  unfold tronagelaw15_TableGoesOn_T
  unfold tronagelaw15_TableGoesOn_D at hd
  have n2_ : rows_0.2.1 = List.length d_rows_0 := k1_.length
  have n4_ : more_1.2.1 = List.length d_more_1 := k3_.length
  obtain ⟨r5_, hr6_, hd⟩ := Option.bind_eq_some_iff.1 hd
  refine s_call (tronagelaw15_awake_sim gk  s0 hr6_) ?_
  rintro _ h7_ ⟨f8_, t1, le10_, rfl, rfl, s9_⟩
  refine ⟨t1, rfl, ?_⟩
  obtain ⟨r11_, hr12_, hd⟩ := Option.bind_eq_some_iff.1 hd
  refine s_call (tronagelaw15_few_sim (k1_.mono le10_) s9_ hr12_) ?_
  rintro _ h13_ ⟨f14_, t2, le16_, rfl, rfl, s15_⟩
  refine ⟨t2, rfl, ?_⟩
  obtain ⟨g17_, hx18_, hd⟩ := Option.bind_eq_some_iff.1 hd
  refine s_join (fun (y : Bool × Unit) w_ g => ∃ ψ : Snap, Sub f14_ ψ ∧ y.1 = g ∧ St ψ (F) w_) (g := g17_) ?_ ?_
  · refine s_cond hx18_ rfl (fun hb20_ hx18_ => ?_) (fun hb20_ hx18_ => ?_)
    · obtain rfl := Option.some.inj hx18_
      exact s_out (true, ()) rfl ⟨f14_, (Sub.refl _), rfl, s15_⟩
    · refine s_cond hx18_ (by rw [n2_]) (fun hb19_ hx18_ => ?_) (fun hb19_ hx18_ => ?_)
      · obtain rfl := Option.some.inj hx18_
        exact s_out (true, ()) rfl ⟨f14_, (Sub.refl _), rfl, s15_⟩
      · obtain rfl := Option.some.inj hx18_
        exact s_out ((decide (((more_1.2.1 : Nat) : Int) > (25 : Int))), ()) rfl ⟨f14_, (Sub.refl _), (by rw [n4_]), s15_⟩
  · rintro z3 h21_ ⟨f22_, le23_, rfl, s24_⟩
    try dsimp only at hd
    refine s_cond hd rfl (fun hb269_ hd => ?_) (fun hb269_ hd => ?_)
    · obtain rfl := Option.some.inj hd
      exact finOf_back ⟨f22_, t1, ((le10_.trans le16_).trans le23_), rfl, rfl, s24_⟩
    · obtain ⟨r25_, hr26_, hd⟩ := Option.bind_eq_some_iff.1 hd
      refine s_call (table_Pack_sim (gk.mono ((le10_.trans le16_).trans le23_)) (k1_.mono ((le10_.trans le16_).trans le23_)) s24_ hr26_) ?_
      rintro _ h27_ ⟨f28_, t4, d31_, d34_, d37_, d40_, le30_, rfl, rfl, k33_, k36_, k39_, k42_, s29_⟩
      refine ⟨t4, rfl, ?_⟩
      try dsimp only at hd
      have n32_ := k33_.length
      have n35_ := k36_.length
      have n38_ := k39_.length
      have n41_ := k42_.length
      refine s_new (vs := [.slice none 0 0, .slice none 0 0, .slice none 0 0, .slice none 0 0]) s29_ ?_
      intro r5 h44_ s43_
      refine s_put (b := r5) (j := 0) (v := .slice t4.1.1 t4.1.2.1 t4.1.2.2) s43_ rfl (show (0 : Nat) < 4 by decide) ?_
      intro h46_ s45_
      refine s_put (b := r5) (j := 1) (v := .slice t4.2.1.1 t4.2.1.2.1 t4.2.1.2.2) s45_ rfl (show (1 : Nat) < 4 by decide) ?_
      intro h48_ s47_
      refine s_put (b := r5) (j := 2) (v := .slice t4.2.2.1.1 t4.2.2.1.2.1 t4.2.2.1.2.2) s47_ rfl (show (2 : Nat) < 4 by decide) ?_
      intro h50_ s49_
      refine s_put (b := r5) (j := 3) (v := .slice t4.2.2.2.1.1 t4.2.2.2.1.2.1 t4.2.2.2.1.2.2) s49_ rfl (show (3 : Nat) < 4 by decide) ?_
      intro h52_ s51_
      refine s_new (vs := []) s51_ ?_
      intro r6 h54_ s53_
      obtain ⟨ws57_, al56_, cw55_⟩ := (k1_.mono (((le10_.trans le16_).trans le23_).trans le30_)).heap s53_.sub
      have s58_ := St.lit (r := (Ro.list (Ro.int .i64))) (l := ([] : List (List Int))) (n := 0) s53_ .nil rfl (by decide)
      obtain ⟨y59_, hy60_, hd⟩ := Option.bind_eq_some_iff.1 hd
      refine s_append (r := (Ro.list (Ro.int .i64))) (ms := d_rows_0) appT_22_22 s58_ rfl cw55_ al56_ n2_.symm hy60_ ?_
      intro t7 h61_ s62_
      have n63_ := s62_.rowLen
      refine s_new (vs := [.slice more_1.1 more_1.2.1 more_1.2.2]) s62_ ?_
      intro r8 h65_ s64_
      have cw66_ := St.cells s64_
      have s68_ := s64_.tail
      obtain ⟨y70_, hy71_, hd⟩ := Option.bind_eq_some_iff.1 hd
      refine s_append (r := (Ro.list (Ro.int .i64))) (ms := ([d_more_1] : List (List Int))) appT_22_22 s68_ rfl cw66_ (.cons (a := [_]) ⟨more_1, rfl, (k3_.mono (((le10_.trans le16_).trans le23_).trans le30_))⟩ .nil) rfl hy71_ ?_
      intro t9 h72_ s73_
      have n74_ := s73_.rowLen
      obtain ⟨f76_, le77_, k78_, s79_⟩ := St.freezeRow (t := t9) s73_
      obtain ⟨r80_, hr81_, hd⟩ := Option.bind_eq_some_iff.1 hd
      refine s_call (table_Pack_sim (gk.mono ((((le10_.trans le16_).trans le23_).trans le30_).trans le77_)) k78_ s79_ hr81_) ?_
      rintro _ h82_ ⟨f83_, t10, d86_, d89_, d92_, d95_, le85_, rfl, rfl, k88_, k91_, k94_, k97_, s84_⟩
      refine ⟨t10, rfl, ?_⟩
      try dsimp only at hd
      have n87_ := k88_.length
      have n90_ := k91_.length
      have n93_ := k94_.length
      have n96_ := k97_.length
      refine s_new (vs := [.slice none 0 0, .slice none 0 0, .slice none 0 0, .slice none 0 0]) s84_ ?_
      intro r11 h99_ s98_
      refine s_put (b := r11) (j := 0) (v := .slice t10.1.1 t10.1.2.1 t10.1.2.2) s98_ rfl (show (0 : Nat) < 4 by decide) ?_
      intro h101_ s100_
      refine s_put (b := r11) (j := 1) (v := .slice t10.2.1.1 t10.2.1.2.1 t10.2.1.2.2) s100_ rfl (show (1 : Nat) < 4 by decide) ?_
      intro h103_ s102_
      refine s_put (b := r11) (j := 2) (v := .slice t10.2.2.1.1 t10.2.2.1.2.1 t10.2.2.1.2.2) s102_ rfl (show (2 : Nat) < 4 by decide) ?_
      intro h105_ s104_
      refine s_put (b := r11) (j := 3) (v := .slice t10.2.2.2.1.1 t10.2.2.2.1.2.1 t10.2.2.2.1.2.2) s104_ rfl (show (3 : Nat) < 4 by decide) ?_
      intro h107_ s106_
      obtain ⟨g108_, hx109_, hd⟩ := Option.bind_eq_some_iff.1 hd
      refine s_join (fun (y : Bool × Unit) w_ g => ∃ ψ : Snap, Sub f83_ ψ ∧ y.1 = g ∧ St ψ (⟨Rep.raw 34, [.pointer (some ⟨r11, 0, none⟩)], [.slice t10.1.1 t10.1.2.1 t10.1.2.2, .slice t10.2.1.1 t10.2.1.2.1 t10.2.1.2.2, .slice t10.2.2.1.1 t10.2.2.1.2.1 t10.2.2.1.2.2, .slice t10.2.2.2.1.1 t10.2.2.2.1.2.1 t10.2.2.2.1.2.2]⟩ :: ⟨Rep.raw 34, [.pointer (some ⟨r5, 0, none⟩)], [.slice t4.1.1 t4.1.2.1 t4.1.2.2, .slice t4.2.1.1 t4.2.1.2.1 t4.2.1.2.2, .slice t4.2.2.1.1 t4.2.2.1.2.1 t4.2.2.1.2.2, .slice t4.2.2.2.1.1 t4.2.2.2.1.2.1 t4.2.2.2.1.2.2]⟩ :: F) w_) (g := g108_) ?_ ?_
      · refine s_loadR (b := r11) (j := 1) (x := t10.2.1) s106_ rfl ?_
        refine s_cond hx109_ (by rw [n90_, n2_]) (fun hb129_ hx109_ => ?_) (fun hb129_ hx109_ => ?_)
        · have s110_ := s106_.at1
          have s111_ := s110_.at1
          obtain rfl := Option.some.inj hx109_
          exact s_out (true, ()) rfl ⟨f83_, (Sub.refl _), rfl, s111_⟩
        · refine s_loadR (b := r5) (j := 1) (x := t4.2.1) s106_.at1 rfl ?_
          refine s_cond hx109_ (by rw [n35_, n2_]) (fun hb128_ hx109_ => ?_) (fun hb128_ hx109_ => ?_)
          · have s112_ := s106_.at1
            have s113_ := s112_.at1
            obtain rfl := Option.some.inj hx109_
            exact s_out (true, ()) rfl ⟨f83_, (Sub.refl _), rfl, s113_⟩
          · refine s_loadR (b := r11) (j := 0) (x := t10.1) s106_ rfl ?_
            refine s_loadR (b := r11) (j := 1) (x := t10.2.1) s106_ rfl ?_
            refine s_loadR (b := r11) (j := 2) (x := t10.2.2.1) s106_ rfl ?_
            refine s_loadR (b := r11) (j := 3) (x := t10.2.2.2.1) s106_ rfl ?_
            refine s_loadR (b := r5) (j := 0) (x := t4.1) s106_.at1 rfl ?_
            refine s_loadR (b := r5) (j := 1) (x := t4.2.1) s106_.at1 rfl ?_
            refine s_loadR (b := r5) (j := 2) (x := t4.2.2.1) s106_.at1 rfl ?_
            refine s_loadR (b := r5) (j := 3) (x := t4.2.2.2.1) s106_.at1 rfl ?_
            obtain ⟨r114_, hr115_, hx109_⟩ := Option.bind_eq_some_iff.1 hx109_
            refine s_call (table_Packed_Cells_sim k88_ k91_ k94_ k97_ s106_ hr115_) ?_
            rintro _ h116_ ⟨f117_, t23, le119_, rfl, rfl, s118_⟩
            refine ⟨t23, rfl, ?_⟩
            refine t_still (St.cell (b := r5) (j := 0) s118_.at1 rfl) ?_
            refine t_still (St.cell (b := r5) (j := 1) s118_.at1 rfl) ?_
            refine t_still (St.cell (b := r5) (j := 2) s118_.at1 rfl) ?_
            refine t_still (St.cell (b := r5) (j := 3) s118_.at1 rfl) ?_
            obtain ⟨r120_, hr121_, hx109_⟩ := Option.bind_eq_some_iff.1 hx109_
            refine s_call (table_Packed_Cells_sim (k33_.mono ((le77_.trans le85_).trans le119_)) (k36_.mono ((le77_.trans le85_).trans le119_)) (k39_.mono ((le77_.trans le85_).trans le119_)) (k42_.mono ((le77_.trans le85_).trans le119_)) s118_ hr121_) ?_
            rintro _ h122_ ⟨f123_, t24, le125_, rfl, rfl, s124_⟩
            refine ⟨t24, rfl, ?_⟩
            have s126_ := s124_.at1
            have s127_ := s126_.at1
            obtain rfl := Option.some.inj hx109_
            exact s_out ((decide (t23 < t24)), ()) rfl ⟨f123_, (le119_.trans le125_), rfl, s127_⟩
      · rintro z12 h130_ ⟨f131_, le132_, rfl, s133_⟩
        try dsimp only at hd
        refine s_cond hd rfl (fun hb268_ hd => ?_) (fun hb268_ hd => ?_)
        · obtain rfl := Option.some.inj hd
          have s134_ := s133_.tail
          have s135_ := s134_.tail
          exact finOf_back ⟨f131_, false, ((((((le10_.trans le16_).trans le23_).trans le30_).trans le77_).trans le85_).trans le132_), rfl, rfl, s135_⟩
        · have s138_ := s133_.at1
          have s139_ := s138_.at1
          obtain ⟨g136_, hx137_, hd⟩ := Option.bind_eq_some_iff.1 hd
          refine s_block (fun (y : Int × Bool × Unit) w_ g => ∃ ψ : Snap, Sub f131_ ψ ∧ Step.next () = g ∧ St ψ (⟨Rep.raw 34, [.pointer (some ⟨r11, 0, none⟩)], [.slice t10.1.1 t10.1.2.1 t10.1.2.2, .slice t10.2.1.1 t10.2.1.2.1 t10.2.1.2.2, .slice t10.2.2.1.1 t10.2.2.1.2.1 t10.2.2.1.2.2, .slice t10.2.2.2.1.1 t10.2.2.2.1.2.1 t10.2.2.2.1.2.2]⟩ :: ⟨Rep.raw 34, [.pointer (some ⟨r5, 0, none⟩)], [.slice t4.1.1 t4.1.2.1 t4.1.2.2, .slice t4.2.1.1 t4.2.1.2.1 t4.2.1.2.2, .slice t4.2.2.1.1 t4.2.2.1.2.1 t4.2.2.1.2.2, .slice t4.2.2.2.1.1 t4.2.2.2.1.2.1 t4.2.2.2.1.2.2]⟩ :: F) w_) (g := g136_) ?_ ?_
          · refine s_forN hx137_ (fun i140_ (y : Int × Bool × Unit) w_ g => ∃ ψ : Snap, Sub f131_ ψ ∧ y.1 = i140_ ∧ () = g ∧ St ψ (⟨Rep.raw 34, [.pointer (some ⟨r11, 0, none⟩)], [.slice t10.1.1 t10.1.2.1 t10.1.2.2, .slice t10.2.1.1 t10.2.1.2.1 t10.2.1.2.2, .slice t10.2.2.1.1 t10.2.2.1.2.1 t10.2.2.1.2.2, .slice t10.2.2.2.1.1 t10.2.2.2.1.2.1 t10.2.2.2.1.2.2]⟩ :: ⟨Rep.raw 34, [.pointer (some ⟨r5, 0, none⟩)], [.slice t4.1.1 t4.1.2.1 t4.1.2.2, .slice t4.2.1.1 t4.2.1.2.1 t4.2.1.2.2, .slice t4.2.2.1.1 t4.2.2.1.2.1 t4.2.2.1.2.2, .slice t4.2.2.2.1.1 t4.2.2.2.1.2.1 t4.2.2.2.1.2.2]⟩ :: F) w_) ((0 : Int), false, ()) rfl ⟨f131_, (Sub.refl _), rfl, rfl, s139_⟩ ?_ ?_
            · rintro _ z26 h146_ _ _ ⟨f143_, le144_, rfl, rfl, s145_⟩ he141_ h1148_ h2149_ hw147_ hb142_
              try dsimp only at he141_ h1148_ h2149_ hw147_
              refine s_loadR (b := r5) (j := 2) (x := t4.2.2.1) s145_.at1 rfl ?_
              refine t_true (by rw [n38_]; exact decide_eq_true h2149_) ?_
              obtain ⟨g150_, hx151_, he141_⟩ := Option.bind_eq_some_iff.1 he141_
              refine s_join (fun (y : Bool × Unit) w_ g => ∃ ψ : Snap, Sub f143_ ψ ∧ y.1 = g ∧ St ψ (⟨Rep.raw 34, [.pointer (some ⟨r11, 0, none⟩)], [.slice t10.1.1 t10.1.2.1 t10.1.2.2, .slice t10.2.1.1 t10.2.1.2.1 t10.2.1.2.2, .slice t10.2.2.1.1 t10.2.2.1.2.1 t10.2.2.1.2.2, .slice t10.2.2.2.1.1 t10.2.2.2.1.2.1 t10.2.2.2.1.2.2]⟩ :: ⟨Rep.raw 34, [.pointer (some ⟨r5, 0, none⟩)], [.slice t4.1.1 t4.1.2.1 t4.1.2.2, .slice t4.2.1.1 t4.2.1.2.1 t4.2.1.2.2, .slice t4.2.2.1.1 t4.2.2.1.2.1 t4.2.2.1.2.2, .slice t4.2.2.2.1.1 t4.2.2.2.1.2.1 t4.2.2.2.1.2.2]⟩ :: F) w_) (g := g150_) ?_ ?_
              · refine s_loadR (b := r5) (j := 3) (x := t4.2.2.2.1) s145_.at1 rfl ?_
                obtain ⟨x152_, hx153_, hx151_⟩ := Option.bind_eq_some_iff.1 hx151_
                obtain ⟨a154_, cs155_, ea156_, hi157_, q158_, cl159_⟩ := (k42_.mono (((le77_.trans le85_).trans le132_).trans le144_)).get hx153_
                refine t_deref _ ea156_ (t_chk hi157_ ?_)
                obtain rfl := q158_
                refine s_load (x := x152_) (cellS_heap (Sub.trans (Sub.refl _) s145_.sub) (cl159_ 0 _ rfl)) rfl ?_
                refine s_cond hx151_ rfl (fun hb204_ hx151_ => ?_) (fun hb204_ hx151_ => ?_)
                · refine s_loadR (b := r11) (j := 2) (x := t10.2.2.1) s145_ rfl ?_
                  obtain ⟨x161_, hx162_, hx151_⟩ := Option.bind_eq_some_iff.1 hx151_
                  obtain ⟨a163_, cs164_, ea165_, hi166_, q167_, cl168_⟩ := (k94_.mono (le132_.trans le144_)).get hx162_
                  refine t_deref _ ea165_ (t_chk hi166_ ?_)
                  obtain rfl := q167_
                  refine s_load (x := x161_) (cellS_heap (Sub.trans (Sub.refl _) s145_.sub) (cl168_ 0 _ rfl)) rfl ?_
                  refine s_loadR (b := r5) (j := 2) (x := t4.2.2.1) s145_.at1 rfl ?_
                  obtain ⟨x170_, hx171_, hx151_⟩ := Option.bind_eq_some_iff.1 hx151_
                  obtain ⟨a172_, cs173_, ea174_, hi175_, q176_, cl177_⟩ := (k39_.mono (((le77_.trans le85_).trans le132_).trans le144_)).get hx171_
                  refine t_deref _ ea174_ (t_chk hi175_ ?_)
                  obtain rfl := q176_
                  refine s_load (x := x170_) (cellS_heap (Sub.trans (Sub.refl _) s145_.sub) (cl177_ 0 _ rfl)) rfl ?_
                  refine s_cond hx151_ rfl (fun hb201_ hx151_ => ?_) (fun hb201_ hx151_ => ?_)
                  · have s179_ := s145_.at1
                    have s180_ := s179_.at1
                    obtain rfl := Option.some.inj hx151_
                    exact s_out (true, ()) rfl ⟨f143_, (Sub.refl _), rfl, s180_⟩
                  · refine s_loadR (b := r11) (j := 3) (x := t10.2.2.2.1) s145_ rfl ?_
                    obtain ⟨x181_, hx182_, hx151_⟩ := Option.bind_eq_some_iff.1 hx151_
                    obtain ⟨a183_, cs184_, ea185_, hi186_, q187_, cl188_⟩ := (k97_.mono (le132_.trans le144_)).get hx182_
                    refine t_deref _ ea185_ (t_chk hi186_ ?_)
                    obtain rfl := q187_
                    refine s_load (x := x181_) (cellS_heap (Sub.trans (Sub.refl _) s145_.sub) (cl188_ 0 _ rfl)) rfl ?_
                    refine s_loadR (b := r5) (j := 3) (x := t4.2.2.2.1) s145_.at1 rfl ?_
                    obtain ⟨x190_, hx191_, hx151_⟩ := Option.bind_eq_some_iff.1 hx151_
                    obtain ⟨a192_, cs193_, ea194_, hi195_, q196_, cl197_⟩ := (k42_.mono (((le77_.trans le85_).trans le132_).trans le144_)).get hx191_
                    refine t_deref _ ea194_ (t_chk hi195_ ?_)
                    obtain rfl := q196_
                    refine s_load (x := x190_) (cellS_heap (Sub.trans (Sub.refl _) s145_.sub) (cl197_ 0 _ rfl)) rfl ?_
                    have s199_ := s145_.at1
                    have s200_ := s199_.at1
                    obtain rfl := Option.some.inj hx151_
                    exact s_out ((x181_ != x190_), ()) rfl ⟨f143_, (Sub.refl _), rfl, s200_⟩
                · have s202_ := s145_.at1
                  have s203_ := s202_.at1
                  obtain rfl := Option.some.inj hx151_
                  exact s_out (false, ()) rfl ⟨f143_, (Sub.refl _), rfl, s203_⟩
              · rintro z28 h205_ ⟨f206_, le207_, rfl, s208_⟩
                try dsimp only at he141_
                refine s_cond he141_ rfl (fun hb213_ he141_ => ?_) (fun hb213_ he141_ => ?_)
                · obtain rfl := Option.some.inj he141_
                  obtain rfl := hb142_ _ rfl
                  try dsimp only at hd
                  obtain rfl := Option.some.inj hd
                  have s209_ := s208_.tail
                  have s210_ := s209_.tail
                  exact around_ret (meetB_ret (finOf_back ⟨f206_, false, ((((((((le10_.trans le16_).trans le23_).trans le30_).trans le77_).trans le85_).trans le132_).trans le144_).trans le207_), rfl, rfl, s210_⟩))
                · have s211_ := s208_.at1
                  have s212_ := s211_.at1
                  obtain rfl := Option.some.inj he141_
                  exact s_next ((IntKind.wrap .i64 (z26.1 + (1 : Int))), z26.2.1, ()) _ rfl rfl ⟨f206_, (le144_.trans le207_), hw147_, rfl, s212_⟩
            · rintro _ z26 h217_ _ ⟨f214_, le215_, rfl, rfl, s216_⟩ hge218_ hr219_
              subst hr219_
              refine s_loadR (b := r5) (j := 2) (x := t4.2.2.1) s216_.at1 rfl ?_
              refine t_false (by rw [n38_]; exact decide_eq_false (Int.not_lt.2 hge218_)) ?_
              have s220_ := s216_.at1
              have s221_ := s220_.at1
              exact around_brk (meetB_brk (z26.1, z26.2.1, ()) rfl ⟨f214_, le215_, rfl, s221_⟩)
          · rintro z25 h222_ ⟨f223_, le224_, rfl, s225_⟩
            try dsimp only at hd
            obtain ⟨g227_, hx228_, hd⟩ := Option.bind_eq_some_iff.1 hd
            refine s_join (fun (y : Bool × Unit) w_ g => ∃ ψ : Snap, Sub f223_ ψ ∧ y.1 = g ∧ St ψ (⟨Rep.raw 34, [.pointer (some ⟨r11, 0, none⟩)], [.slice t10.1.1 t10.1.2.1 t10.1.2.2, .slice t10.2.1.1 t10.2.1.2.1 t10.2.1.2.2, .slice t10.2.2.1.1 t10.2.2.1.2.1 t10.2.2.1.2.2, .slice t10.2.2.2.1.1 t10.2.2.2.1.2.1 t10.2.2.2.1.2.2]⟩ :: ⟨Rep.raw 34, [.pointer (some ⟨r5, 0, none⟩)], [.slice t4.1.1 t4.1.2.1 t4.1.2.2, .slice t4.2.1.1 t4.2.1.2.1 t4.2.1.2.2, .slice t4.2.2.1.1 t4.2.2.1.2.1 t4.2.2.1.2.2, .slice t4.2.2.2.1.1 t4.2.2.2.1.2.1 t4.2.2.2.1.2.2]⟩ :: F) w_) (g := g227_) ?_ ?_
            · refine s_cond hx228_ rfl (fun hb260_ hx228_ => ?_) (fun hb260_ hx228_ => ?_)
              · refine s_loadR (b := r5) (j := 1) (x := t4.2.1) s225_.at1 rfl ?_
                refine s_loadR (b := r11) (j := 1) (x := t10.2.1) s225_ rfl ?_
                obtain ⟨y229_, hy230_, hx228_⟩ := Option.bind_eq_some_iff.1 hx228_
                obtain ⟨hc231_, k232_⟩ := (k91_.mono (le132_.trans le224_)).cut (sz := 1) hy230_ rfl
                rw [← n2_] at hc231_ k232_
                refine t_chk hc231_ ?_
                have n233_ := k232_.length
                obtain ⟨r235_, hr236_, hx228_⟩ := Option.bind_eq_some_iff.1 hx228_
                refine s_call (tronageref01_Ints_sim (k36_.mono (((le77_.trans le85_).trans le132_).trans le224_)) k232_ s225_ hr236_) ?_
                rintro _ h237_ ⟨f238_, t47, le240_, rfl, rfl, s239_⟩
                refine ⟨t47, rfl, ?_⟩
                refine s_cond hx228_ rfl (fun hb257_ hx228_ => ?_) (fun hb257_ hx228_ => ?_)
                · refine s_loadR (b := r5) (j := 0) (x := t4.1) s239_.at1 rfl ?_
                  refine s_loadR (b := r11) (j := 0) (x := t10.1) s239_ rfl ?_
                  obtain ⟨y241_, hy242_, hx228_⟩ := Option.bind_eq_some_iff.1 hx228_
                  obtain ⟨hc243_, k244_⟩ := (k88_.mono ((le132_.trans le224_).trans le240_)).cut (sz := 1) hy242_ rfl
                  rw [← n2_] at hc243_ k244_
                  refine t_chk hc243_ ?_
                  have n245_ := k244_.length
                  obtain ⟨r247_, hr248_, hx228_⟩ := Option.bind_eq_some_iff.1 hx228_
                  refine s_call (tronageref01_Ints_sim (k33_.mono ((((le77_.trans le85_).trans le132_).trans le224_).trans le240_)) k244_ s239_ hr248_) ?_
                  rintro _ h249_ ⟨f250_, t50, le252_, rfl, rfl, s251_⟩
                  refine ⟨t50, rfl, ?_⟩
                  have s253_ := s251_.at1
                  have s254_ := s253_.at1
                  obtain rfl := Option.some.inj hx228_
                  exact s_out (t50, ()) rfl ⟨f250_, (le240_.trans le252_), rfl, s254_⟩
                · have s255_ := s239_.at1
                  have s256_ := s255_.at1
                  obtain rfl := Option.some.inj hx228_
                  exact s_out (false, ()) rfl ⟨f238_, le240_, rfl, s256_⟩
              · have s258_ := s225_.at1
                have s259_ := s258_.at1
                obtain rfl := Option.some.inj hx228_
                exact s_out (false, ()) rfl ⟨f223_, (Sub.refl _), rfl, s259_⟩
            · rintro z44 h261_ ⟨f262_, le263_, rfl, s264_⟩
              try dsimp only at hd
              obtain rfl := Option.some.inj hd
              have s265_ := s264_.tail
              have s266_ := s265_.tail
              exact finOf_back ⟨f262_, z44.1, ((((((((le10_.trans le16_).trans le23_).trans le30_).trans le77_).trans le85_).trans le132_).trans le224_).trans le263_), rfl, rfl, s266_⟩

noncomputable def tronagelaw15_TablePacks_D (rows_0 : List (List Int)) : Option Bool :=
  tronagelaw15_awake_D.bind fun t1 =>
  (tronagelaw15_few_D rows_0).bind fun t2 =>
  cond (!t2)
  (some t1)
  ((table_Share_D rows_0).bind fun t3 =>
    (tronageref15_Share_D rows_0).bind fun t4 =>
    (table_Pack_D rows_0).bind fun t5 =>
    (tronageref15_Pack_D rows_0).bind fun t7 =>
    (forS (σ := Int) (0 : Int) (((List.length rows_0) : Nat) : Int) (0 : Int) fun i_z9 z9 =>
      (loop (σ := (Int × Int)) (β := Int) ((0 : Int), z9) fun z11 =>
        (idx rows_0 i_z9).bind fun e126 =>
        cond (decide (z11.1 < (((List.length e126) : Nat) : Int)))
        ((idx rows_0 i_z9).bind fun e138 =>
          (idx e138 z11.1).bind fun e150 =>
          (cond (e150 != (0 : Int))
          (some (IntKind.wrap .i64 (z11.2 + (1 : Int))))
          (some z11.2)).bind fun z18 =>
          some (Step.next ((IntKind.wrap .i64 (z11.1 + (1 : Int))), z18)))
        (some (Step.done z11.2))).bind fun z10 =>
      some z10).bind fun z8 =>
    (cond t1
    ((tronageref01_Ints_D t3.1 t4.1).bind fun t20 =>
      cond t20
      ((tronageref01_Lists_D t3.2 t4.2).bind fun t21 =>
        cond t21
        ((tronageref01_Ints_D t5.1 t7.1).bind fun t25 =>
          cond t25
          ((tronageref01_Ints_D t5.2.1 t7.2.1).bind fun t29 =>
            cond t29
            ((tronageref01_Ints_D t5.2.2.1 t7.2.2.1).bind fun t33 =>
              cond t33
              ((tronageref01_Ints_D t5.2.2.2 t7.2.2.2).bind fun t37 =>
                cond t37
                ((table_Packed_Cells_D (t5.1, t5.2.1, t5.2.2.1, t5.2.2.2)).bind fun t44 =>
                  cond (t44 == (((List.length t7.2.2.1) : Nat) : Int))
                  ((table_Dense_D rows_0).bind fun t45 =>
                    some (t45 == z8))
                  (some false))
                (some false))
              (some false))
            (some false))
          (some false))
        (some false))
      (some false))
    (some false)).bind fun z19 =>
    some z19)
theorem tronagelaw15_TablePacks_sim {φ : Snap} {h : Heap} {F : List Chk} {rows_0 : Slc} {d_rows_0 : List (List Int)} (gk : Glob φ) (k1_ : Ro.SliceIs (Ro.list (Ro.int .i64)) φ rows_0 d_rows_0) (s0 : St φ (F) h) {r : Bool} (hd : tronagelaw15_TablePacks_D d_rows_0 = some r) :
    CallsH Tryd.prog 6 [(.slice rows_0.1 rows_0.2.1 rows_0.2.2)] h (Back fun v h' => ∃ ψ : Snap, ∃ y : Bool, Sub φ ψ ∧ v = ((.one (.atom .bool)) : Sh).val y ∧ y = r ∧ St ψ (F) h') := by
  refine calls_of mixed Tryd.func6 ?_
  rw [tronagelaw15_TablePacks_den]
  unfold tronagelaw15_TablePacks_T
  unfold tronagelaw15_TablePacks_D at hd
  have n2_ : rows_0.2.1 = List.length d_rows_0 := k1_.length
  obtain ⟨r3_, hr4_, hd⟩ := Option.bind_eq_some_iff.1 hd
  refine s_call (tronagelaw15_awake_sim gk  s0 hr4_) ?_
  rintro _ h5_ ⟨f6_, t1, le8_, rfl, rfl, s7_⟩
  refine ⟨t1, rfl, ?_⟩
  obtain ⟨r9_, hr10_, hd⟩ := Option.bind_eq_some_iff.1 hd
  refine s_call (tronagelaw15_few_sim (k1_.mono le8_) s7_ hr10_) ?_
  rintro _ h11_ ⟨f12_, t2, le14_, rfl, rfl, s13_⟩
  refine ⟨t2, rfl, ?_⟩
  refine s_cond hd rfl (fun hb238_ hd => ?_) (fun hb238_ hd => ?_)
  · obtain rfl := Option.some.inj hd
    exact finOf_back ⟨f12_, t1, (le8_.trans le14_), rfl, rfl, s13_⟩
  · obtain ⟨r15_, hr16_, hd⟩ := Option.bind_eq_some_iff.1 hd
    refine s_call (table_Share_sim (gk.mono (le8_.trans le14_)) (k1_.mono (le8_.trans le14_)) s13_ hr16_) ?_
    rintro _ h17_ ⟨f18_, t3, d21_, d24_, le20_, rfl, rfl, k23_, k26_, s19_⟩
    refine ⟨t3, rfl, ?_⟩
    try dsimp only at hd
    have n22_ := k23_.length
    have n25_ := k26_.length
    obtain ⟨r27_, hr28_, hd⟩ := Option.bind_eq_some_iff.1 hd
    refine s_call (tronageref15_Share_sim (k1_.mono ((le8_.trans le14_).trans le20_)) s19_ hr28_) ?_
    rintro _ h29_ ⟨f30_, t4, d33_, d36_, le32_, rfl, rfl, k35_, k38_, s31_⟩
    refine ⟨t4, rfl, ?_⟩
    try dsimp only at hd
    have n34_ := k35_.length
    have n37_ := k38_.length
    obtain ⟨r39_, hr40_, hd⟩ := Option.bind_eq_some_iff.1 hd
    refine s_call (table_Pack_sim (gk.mono (((le8_.trans le14_).trans le20_).trans le32_)) (k1_.mono (((le8_.trans le14_).trans le20_).trans le32_)) s31_ hr40_) ?_
    rintro _ h41_ ⟨f42_, t5, d45_, d48_, d51_, d54_, le44_, rfl, rfl, k47_, k50_, k53_, k56_, s43_⟩
    refine ⟨t5, rfl, ?_⟩
    try dsimp only at hd
    have n46_ := k47_.length
    have n49_ := k50_.length
    have n52_ := k53_.length
    have n55_ := k56_.length
    refine s_new (vs := [.slice none 0 0, .slice none 0 0, .slice none 0 0, .slice none 0 0]) s43_ ?_
    intro r6 h58_ s57_
    refine s_put (b := r6) (j := 0) (v := .slice t5.1.1 t5.1.2.1 t5.1.2.2) s57_ rfl (show (0 : Nat) < 4 by decide) ?_
    intro h60_ s59_
    refine s_put (b := r6) (j := 1) (v := .slice t5.2.1.1 t5.2.1.2.1 t5.2.1.2.2) s59_ rfl (show (1 : Nat) < 4 by decide) ?_
    intro h62_ s61_
    refine s_put (b := r6) (j := 2) (v := .slice t5.2.2.1.1 t5.2.2.1.2.1 t5.2.2.1.2.2) s61_ rfl (show (2 : Nat) < 4 by decide) ?_
    intro h64_ s63_
    refine s_put (b := r6) (j := 3) (v := .slice t5.2.2.2.1.1 t5.2.2.2.1.2.1 t5.2.2.2.1.2.2) s63_ rfl (show (3 : Nat) < 4 by decide) ?_
    intro h66_ s65_
    obtain ⟨r67_, hr68_, hd⟩ := Option.bind_eq_some_iff.1 hd
    refine s_call (tronageref15_Pack_sim (k1_.mono ((((le8_.trans le14_).trans le20_).trans le32_).trans le44_)) s65_ hr68_) ?_
    rintro _ h69_ ⟨f70_, t7, d73_, le72_, rfl, rfl, k74_, s71_⟩
    refine ⟨t7, rfl, ?_⟩
    obtain ⟨a75_, vs76_, e77_, q78_, hc79_⟩ := k74_
    obtain rfl : t7 = some a75_ := by simpa using e77_
    obtain ⟨_, _, rfl, q80_, q81_⟩ := q78_
    obtain ⟨t82_, rfl, k83_⟩ := q80_
    have n84_ := k83_.length
    obtain ⟨_, _, rfl, q85_, q86_⟩ := q81_
    obtain ⟨t87_, rfl, k88_⟩ := q85_
    have n89_ := k88_.length
    obtain ⟨_, _, rfl, q90_, q91_⟩ := q86_
    obtain ⟨t92_, rfl, k93_⟩ := q90_
    have n94_ := k93_.length
    obtain ⟨t95_, rfl, k96_⟩ := q91_
    have n97_ := k96_.length
    obtain ⟨g98_, hx99_, hd⟩ := Option.bind_eq_some_iff.1 hd
    refine s_block (fun (y : Int × Int × Unit) w_ g => ∃ ψ : Snap, Sub f70_ ψ ∧ y.2.1 = g ∧ St ψ (⟨Rep.raw 34, [.pointer (some ⟨r6, 0, none⟩)], [.slice t5.1.1 t5.1.2.1 t5.1.2.2, .slice t5.2.1.1 t5.2.1.2.1 t5.2.1.2.2, .slice t5.2.2.1.1 t5.2.2.1.2.1 t5.2.2.1.2.2, .slice t5.2.2.2.1.1 t5.2.2.2.1.2.1 t5.2.2.2.1.2.2]⟩ :: F) w_) (g := g98_) ?_ ?_
    · refine s_forS hx99_ (fun i100_ (y : Int × Int × Unit) w_ g => ∃ ψ : Snap, Sub f70_ ψ ∧ y.1 = i100_ ∧ y.2.1 = g ∧ St ψ (⟨Rep.raw 34, [.pointer (some ⟨r6, 0, none⟩)], [.slice t5.1.1 t5.1.2.1 t5.1.2.2, .slice t5.2.1.1 t5.2.1.2.1 t5.2.1.2.2, .slice t5.2.2.1.1 t5.2.2.1.2.1 t5.2.2.1.2.2, .slice t5.2.2.2.1.1 t5.2.2.2.1.2.1 t5.2.2.2.1.2.2]⟩ :: F) w_) ((0 : Int), (0 : Int), ()) rfl ⟨f70_, (Sub.refl _), rfl, rfl, s71_⟩ ?_ ?_
      · rintro _ z9 h106_ _ _ ⟨f103_, le104_, rfl, rfl, s105_⟩ he101_ h1108_ h2109_ hw107_
        try dsimp only at he101_ h1108_ h2109_ hw107_
        refine t_true (by rw [n2_]; exact decide_eq_true h2109_) ?_
        obtain ⟨g110_, hx111_, he101_⟩ := Option.bind_eq_some_iff.1 he101_
        refine s_block (fun (y : Int × Int × Unit) w_ g => ∃ ψ : Snap, Sub f103_ ψ ∧ y.2.1 = g ∧ St ψ (⟨Rep.raw 34, [.pointer (some ⟨r6, 0, none⟩)], [.slice t5.1.1 t5.1.2.1 t5.1.2.2, .slice t5.2.1.1 t5.2.1.2.1 t5.2.1.2.2, .slice t5.2.2.1.1 t5.2.2.1.2.1 t5.2.2.1.2.2, .slice t5.2.2.2.1.1 t5.2.2.2.1.2.1 t5.2.2.2.1.2.2]⟩ :: F) w_) (g := g110_) ?_ ?_
        · refine s_loop hx111_ (fun (y : Int × Int × Unit) w_ g => ∃ ψ : Snap, Sub f103_ ψ ∧ (y.1, y.2.1) = g ∧ St ψ (⟨Rep.raw 34, [.pointer (some ⟨r6, 0, none⟩)], [.slice t5.1.1 t5.1.2.1 t5.1.2.2, .slice t5.2.1.1 t5.2.1.2.1 t5.2.1.2.2, .slice t5.2.2.1.1 t5.2.2.1.2.1 t5.2.2.1.2.2, .slice t5.2.2.2.1.1 t5.2.2.2.1.2.1 t5.2.2.2.1.2.2]⟩ :: F) w_) ((0 : Int), z9.2.1, ()) rfl ⟨f103_, (Sub.refl _), rfl, s105_⟩ ?_
          · rintro z11 h117_ _ _ ⟨f114_, le115_, rfl, s116_⟩ he112_ hb113_
            try dsimp only at he112_
            obtain ⟨x118_, hx119_, he112_⟩ := Option.bind_eq_some_iff.1 he112_
            obtain ⟨a120_, cs121_, ea122_, hi123_, q124_, cl125_⟩ := (k1_.mono (((((((le8_.trans le14_).trans le20_).trans le32_).trans le44_).trans le72_).trans le104_).trans le115_)).get hx119_
            refine t_deref _ ea122_ (t_chk hi123_ ?_)
            obtain ⟨t127_, rfl, k128_⟩ := q124_
            have n129_ := k128_.length
            refine s_load (x := t127_) (cellS_heap (Sub.trans (Sub.refl _) s116_.sub) (cl125_ 0 _ rfl)) rfl ?_
            refine s_cond he112_ (by rw [n129_]) (fun hb158_ he112_ => ?_) (fun hb158_ he112_ => ?_)
            · obtain ⟨x130_, hx131_, he112_⟩ := Option.bind_eq_some_iff.1 he112_
              obtain ⟨a132_, cs133_, ea134_, hi135_, q136_, cl137_⟩ := (k1_.mono (((((((le8_.trans le14_).trans le20_).trans le32_).trans le44_).trans le72_).trans le104_).trans le115_)).get hx131_
              refine t_deref _ ea134_ (t_chk hi135_ ?_)
              obtain ⟨t139_, rfl, k140_⟩ := q136_
              have n141_ := k140_.length
              refine s_load (x := t139_) (cellS_heap (Sub.trans (Sub.refl _) s116_.sub) (cl137_ 0 _ rfl)) rfl ?_
              obtain ⟨x142_, hx143_, he112_⟩ := Option.bind_eq_some_iff.1 he112_
              obtain ⟨a144_, cs145_, ea146_, hi147_, q148_, cl149_⟩ := k140_.get hx143_
              refine t_deref _ ea146_ (t_chk hi147_ ?_)
              obtain rfl := q148_
              refine s_load (x := x142_) (cellS_heap (Sub.trans (Sub.refl _) s116_.sub) (cl149_ 0 _ rfl)) rfl ?_
              obtain ⟨g151_, hx152_, he112_⟩ := Option.bind_eq_some_iff.1 he112_
              refine s_join (fun (y : Int × Unit) w_ g => ∃ ψ : Snap, Sub f114_ ψ ∧ y.1 = g ∧ St ψ (⟨Rep.raw 34, [.pointer (some ⟨r6, 0, none⟩)], [.slice t5.1.1 t5.1.2.1 t5.1.2.2, .slice t5.2.1.1 t5.2.1.2.1 t5.2.1.2.2, .slice t5.2.2.1.1 t5.2.2.1.2.1 t5.2.2.1.2.2, .slice t5.2.2.2.1.1 t5.2.2.2.1.2.1 t5.2.2.2.1.2.2]⟩ :: F) w_) (g := g151_) ?_ ?_
              · refine s_cond hx152_ rfl (fun hb153_ hx152_ => ?_) (fun hb153_ hx152_ => ?_)
                · obtain rfl := Option.some.inj hx152_
                  exact s_out ((IntKind.wrap .i64 (z11.2.1 + (1 : Int))), ()) rfl ⟨f114_, (Sub.refl _), rfl, s116_⟩
                · obtain rfl := Option.some.inj hx152_
                  exact s_out (z11.2.1, ()) rfl ⟨f114_, (Sub.refl _), rfl, s116_⟩
              · rintro z18 h154_ ⟨f155_, le156_, rfl, s157_⟩
                try dsimp only at he112_
                obtain rfl := Option.some.inj he112_
                exact s_next ((IntKind.wrap .i64 (z11.1 + (1 : Int))), z18.1, ()) _ rfl rfl ⟨f155_, (le115_.trans le156_), rfl, s157_⟩
            · obtain rfl := Option.some.inj he112_
              obtain rfl := hb113_ _ rfl
              exact around_brk (meetB_brk (z11.1, z11.2.1, ()) rfl ⟨f114_, le115_, rfl, s116_⟩)
        · rintro z10 h159_ ⟨f160_, le161_, rfl, s162_⟩
          try dsimp only at he101_
          obtain rfl := Option.some.inj he101_
          exact s_next ((IntKind.wrap .i64 (z9.1 + (1 : Int))), z10.2.1, ()) _ rfl rfl ⟨f160_, (le104_.trans le161_), hw107_, rfl, s162_⟩
      · rintro _ z9 h167_ ⟨f164_, le165_, rfl, rfl, s166_⟩ hge168_
        refine t_false (by rw [n2_]; exact decide_eq_false (Int.not_lt.2 hge168_)) ?_
        exact around_brk (meetB_brk (z9.1, z9.2.1, ()) rfl ⟨f164_, le165_, rfl, s166_⟩)
    · rintro z8 h170_ ⟨f171_, le172_, rfl, s173_⟩
      try dsimp only at hd
      obtain ⟨g175_, hx176_, hd⟩ := Option.bind_eq_some_iff.1 hd
      refine s_join (fun (y : Bool × Unit) w_ g => ∃ ψ : Snap, Sub f171_ ψ ∧ y.1 = g ∧ St ψ (⟨Rep.raw 34, [.pointer (some ⟨r6, 0, none⟩)], [.slice t5.1.1 t5.1.2.1 t5.1.2.2, .slice t5.2.1.1 t5.2.1.2.1 t5.2.1.2.2, .slice t5.2.2.1.1 t5.2.2.1.2.1 t5.2.2.1.2.2, .slice t5.2.2.2.1.1 t5.2.2.2.1.2.1 t5.2.2.2.1.2.2]⟩ :: F) w_) (g := g175_) ?_ ?_
      · refine s_cond hx176_ rfl (fun hb232_ hx176_ => ?_) (fun hb232_ hx176_ => ?_)
        · obtain ⟨r177_, hr178_, hx176_⟩ := Option.bind_eq_some_iff.1 hx176_
          refine s_call (tronageref01_Ints_sim (k23_.mono (((le32_.trans le44_).trans le72_).trans le172_)) (k35_.mono ((le44_.trans le72_).trans le172_)) s173_ hr178_) ?_
          rintro _ h179_ ⟨f180_, t20, le182_, rfl, rfl, s181_⟩
          refine ⟨t20, rfl, ?_⟩
          refine s_cond hx176_ rfl (fun hb231_ hx176_ => ?_) (fun hb231_ hx176_ => ?_)
          · obtain ⟨r183_, hr184_, hx176_⟩ := Option.bind_eq_some_iff.1 hx176_
            refine s_call (tronageref01_Lists_sim (k26_.mono ((((le32_.trans le44_).trans le72_).trans le172_).trans le182_)) (k38_.mono (((le44_.trans le72_).trans le172_).trans le182_)) s181_ hr184_) ?_
            rintro _ h185_ ⟨f186_, t21, le188_, rfl, rfl, s187_⟩
            refine ⟨t21, rfl, ?_⟩
            refine s_cond hx176_ rfl (fun hb230_ hx176_ => ?_) (fun hb230_ hx176_ => ?_)
            · refine s_loadR (b := r6) (j := 0) (x := t5.1) s187_ rfl ?_
              refine t_deref _ rfl ?_
              refine s_load (x := t82_) (cellS_heap (Sub.trans ((le172_.trans le182_).trans le188_) s187_.sub) (hc79_.at 0 rfl)) rfl ?_
              obtain ⟨r189_, hr190_, hx176_⟩ := Option.bind_eq_some_iff.1 hx176_
              refine s_call (tronageref01_Ints_sim (k47_.mono (((le72_.trans le172_).trans le182_).trans le188_)) (k83_.mono ((le172_.trans le182_).trans le188_)) s187_ hr190_) ?_
              rintro _ h191_ ⟨f192_, t25, le194_, rfl, rfl, s193_⟩
              refine ⟨t25, rfl, ?_⟩
              refine s_cond hx176_ rfl (fun hb229_ hx176_ => ?_) (fun hb229_ hx176_ => ?_)
              · refine s_loadR (b := r6) (j := 1) (x := t5.2.1) s193_ rfl ?_
                refine t_deref _ rfl ?_
                refine s_load (x := t87_) (cellS_heap (Sub.trans (((le172_.trans le182_).trans le188_).trans le194_) s193_.sub) (hc79_.at 1 rfl)) rfl ?_
                obtain ⟨r195_, hr196_, hx176_⟩ := Option.bind_eq_some_iff.1 hx176_
                refine s_call (tronageref01_Ints_sim (k50_.mono ((((le72_.trans le172_).trans le182_).trans le188_).trans le194_)) (k88_.mono (((le172_.trans le182_).trans le188_).trans le194_)) s193_ hr196_) ?_
                rintro _ h197_ ⟨f198_, t29, le200_, rfl, rfl, s199_⟩
                refine ⟨t29, rfl, ?_⟩
                refine s_cond hx176_ rfl (fun hb228_ hx176_ => ?_) (fun hb228_ hx176_ => ?_)
                · refine s_loadR (b := r6) (j := 2) (x := t5.2.2.1) s199_ rfl ?_
                  refine t_deref _ rfl ?_
                  refine s_load (x := t92_) (cellS_heap (Sub.trans ((((le172_.trans le182_).trans le188_).trans le194_).trans le200_) s199_.sub) (hc79_.at 2 rfl)) rfl ?_
                  obtain ⟨r201_, hr202_, hx176_⟩ := Option.bind_eq_some_iff.1 hx176_
                  refine s_call (tronageref01_Ints_sim (k53_.mono (((((le72_.trans le172_).trans le182_).trans le188_).trans le194_).trans le200_)) (k93_.mono ((((le172_.trans le182_).trans le188_).trans le194_).trans le200_)) s199_ hr202_) ?_
                  rintro _ h203_ ⟨f204_, t33, le206_, rfl, rfl, s205_⟩
                  refine ⟨t33, rfl, ?_⟩
                  refine s_cond hx176_ rfl (fun hb227_ hx176_ => ?_) (fun hb227_ hx176_ => ?_)
                  · refine s_loadR (b := r6) (j := 3) (x := t5.2.2.2.1) s205_ rfl ?_
                    refine t_deref _ rfl ?_
                    refine s_load (x := t95_) (cellS_heap (Sub.trans (((((le172_.trans le182_).trans le188_).trans le194_).trans le200_).trans le206_) s205_.sub) (hc79_.at 3 rfl)) rfl ?_
                    obtain ⟨r207_, hr208_, hx176_⟩ := Option.bind_eq_some_iff.1 hx176_
                    refine s_call (tronageref01_Ints_sim (k56_.mono ((((((le72_.trans le172_).trans le182_).trans le188_).trans le194_).trans le200_).trans le206_)) (k96_.mono (((((le172_.trans le182_).trans le188_).trans le194_).trans le200_).trans le206_)) s205_ hr208_) ?_
                    rintro _ h209_ ⟨f210_, t37, le212_, rfl, rfl, s211_⟩
                    refine ⟨t37, rfl, ?_⟩
                    refine s_cond hx176_ rfl (fun hb226_ hx176_ => ?_) (fun hb226_ hx176_ => ?_)
                    · refine s_loadR (b := r6) (j := 0) (x := t5.1) s211_ rfl ?_
                      refine s_loadR (b := r6) (j := 1) (x := t5.2.1) s211_ rfl ?_
                      refine s_loadR (b := r6) (j := 2) (x := t5.2.2.1) s211_ rfl ?_
                      refine s_loadR (b := r6) (j := 3) (x := t5.2.2.2.1) s211_ rfl ?_
                      refine t_deref _ rfl ?_
                      refine s_load (x := t92_) (cellS_heap (Sub.trans ((((((le172_.trans le182_).trans le188_).trans le194_).trans le200_).trans le206_).trans le212_) s211_.sub) (hc79_.at 2 rfl)) rfl ?_
                      obtain ⟨r213_, hr214_, hx176_⟩ := Option.bind_eq_some_iff.1 hx176_
                      refine s_call (table_Packed_Cells_sim (k47_.mono (((((((le72_.trans le172_).trans le182_).trans le188_).trans le194_).trans le200_).trans le206_).trans le212_)) (k50_.mono (((((((le72_.trans le172_).trans le182_).trans le188_).trans le194_).trans le200_).trans le206_).trans le212_)) (k53_.mono (((((((le72_.trans le172_).trans le182_).trans le188_).trans le194_).trans le200_).trans le206_).trans le212_)) (k56_.mono (((((((le72_.trans le172_).trans le182_).trans le188_).trans le194_).trans le200_).trans le206_).trans le212_)) s211_ hr214_) ?_
                      rintro _ h215_ ⟨f216_, t44, le218_, rfl, rfl, s217_⟩
                      refine ⟨t44, rfl, ?_⟩
                      refine t_still (cellS_heap (Sub.trans (((((((le172_.trans le182_).trans le188_).trans le194_).trans le200_).trans le206_).trans le212_).trans le218_) s217_.sub) (hc79_.at 2 rfl)) ?_
                      refine s_cond hx176_ (by rw [n94_]) (fun hb225_ hx176_ => ?_) (fun hb225_ hx176_ => ?_)
                      · obtain ⟨r219_, hr220_, hx176_⟩ := Option.bind_eq_some_iff.1 hx176_
                        refine s_call (table_Dense_sim (k1_.mono (((((((((((((le8_.trans le14_).trans le20_).trans le32_).trans le44_).trans le72_).trans le172_).trans le182_).trans le188_).trans le194_).trans le200_).trans le206_).trans le212_).trans le218_)) s217_ hr220_) ?_
                        rintro _ h221_ ⟨f222_, t45, le224_, rfl, rfl, s223_⟩
                        refine ⟨t45, rfl, ?_⟩
                        obtain rfl := Option.some.inj hx176_
                        exact s_out ((t45 == z8.2.1), ()) rfl ⟨f222_, (((((((le182_.trans le188_).trans le194_).trans le200_).trans le206_).trans le212_).trans le218_).trans le224_), rfl, s223_⟩
                      · obtain rfl := Option.some.inj hx176_
                        exact s_out (false, ()) rfl ⟨f216_, ((((((le182_.trans le188_).trans le194_).trans le200_).trans le206_).trans le212_).trans le218_), rfl, s217_⟩
                    · obtain rfl := Option.some.inj hx176_
                      exact s_out (false, ()) rfl ⟨f210_, (((((le182_.trans le188_).trans le194_).trans le200_).trans le206_).trans le212_), rfl, s211_⟩
                  · obtain rfl := Option.some.inj hx176_
                    exact s_out (false, ()) rfl ⟨f204_, ((((le182_.trans le188_).trans le194_).trans le200_).trans le206_), rfl, s205_⟩
                · obtain rfl := Option.some.inj hx176_
                  exact s_out (false, ()) rfl ⟨f198_, (((le182_.trans le188_).trans le194_).trans le200_), rfl, s199_⟩
              · obtain rfl := Option.some.inj hx176_
                exact s_out (false, ()) rfl ⟨f192_, ((le182_.trans le188_).trans le194_), rfl, s193_⟩
            · obtain rfl := Option.some.inj hx176_
              exact s_out (false, ()) rfl ⟨f186_, (le182_.trans le188_), rfl, s187_⟩
          · obtain rfl := Option.some.inj hx176_
            exact s_out (false, ()) rfl ⟨f180_, le182_, rfl, s181_⟩
        · obtain rfl := Option.some.inj hx176_
          exact s_out (false, ()) rfl ⟨f171_, (Sub.refl _), rfl, s173_⟩
      · rintro z19 h233_ ⟨f234_, le235_, rfl, s236_⟩
        try dsimp only at hd
        obtain rfl := Option.some.inj hd
        have s237_ := s236_.tail
        exact finOf_back ⟨f234_, z19.1, (((((((le8_.trans le14_).trans le20_).trans le32_).trans le44_).trans le72_).trans le172_).trans le235_), rfl, rfl, s237_⟩

noncomputable def tronagelaw15_TableApart_D (rows_0 : List (List Int)) : Option Bool :=
  tronagelaw15_awake_D.bind fun t1 =>
  (tronagelaw15_few_D rows_0).bind fun t2 =>
  cond (!t2)
  (some t1)
  ((table_Share_D rows_0).bind fun t3 =>
    (table_Pack_D rows_0).bind fun t4 =>
    (cond ((((List.length t4.2.2.1) : Nat) : Int) != (((List.length t4.2.2.2) : Nat) : Int))
    (some true)
    (some ((((List.length t4.2.1) : Nat) : Int) != (((List.length rows_0) : Nat) : Int)))).bind fun z6 =>
    cond z6
    (some false)
    ((forN (σ := Int) (β := Bool) (0 : Int) (((List.length t4.2.2.2) : Nat) : Int) (0 : Int) fun i_z11 z11 =>
        ((idx t4.2.2.2 i_z11).bind fun e85 =>
        cond (decide (e85 < (0 : Int)))
        (some true)
        ((idx t4.2.2.2 i_z11).bind fun e94 =>
          cond (decide (e94 > (((List.length t3.2) : Nat) : Int)))
          (some true)
          ((idx t4.2.2.2 i_z11).bind fun e103 =>
            (idx t4.2.2.1 i_z11).bind fun e112 =>
            some (!((e103 == (0 : Int)) == (e112 == (0 : Int))))))).bind fun z13 =>
        cond z13
        (some (Step.done false))
        ((idx t4.2.2.2 i_z11).bind fun e128 =>
          (cond (decide (e128 > (0 : Int)))
          (some (IntKind.wrap .i64 (z11 + (1 : Int))))
          (some z11)).bind fun z29 =>
          some (Step.next z29))).bind fun e_z10 => match e_z10 with
      | .next z10 =>
        (cond ((((List.length t4.2.2.1) : Nat) : Int) == (0 : Int))
        (some true)
        ((idx t4.2.2.1 (IntKind.wrap .i64 ((((List.length t4.2.2.1) : Nat) : Int) - (1 : Int)))).bind fun e158 =>
          some (e158 != (0 : Int)))).bind fun z30 =>
        (cond t1
        ((table_Dense_D t3.2).bind fun t37 =>
          cond (z10 == t37)
          ((table_Packed_Cells_D (t4.1, t4.2.1, t4.2.2.1, t4.2.2.2)).bind fun t42 =>
            cond (decide (t42 ≥ z10))
            (some z30)
            (some false))
          (some false))
        (some false)).bind fun z36 =>
        some z36
      | .done q186 => some q186))
theorem tronagelaw15_TableApart_sim {φ : Snap} {h : Heap} {F : List Chk} {rows_0 : Slc} {d_rows_0 : List (List Int)} (gk : Glob φ) (k1_ : Ro.SliceIs (Ro.list (Ro.int .i64)) φ rows_0 d_rows_0) (s0 : St φ (F) h) {r : Bool} (hd : tronagelaw15_TableApart_D d_rows_0 = some r) :
    CallsH Tryd.prog 7 [(.slice rows_0.1 rows_0.2.1 rows_0.2.2)] h (Back fun v h' => ∃ ψ : Snap, ∃ y : Bool, Sub φ ψ ∧ v = ((.one (.atom .bool)) : Sh).val y ∧ y = r ∧ St ψ (F) h') := by
  refine calls_of mixed Tryd.func7 ?_
  rw [tronagelaw15_TableApart_den]
  unfold tronagelaw15_TableApart_T
  unfold tronagelaw15_TableApart_D at hd
  have n2_ : rows_0.2.1 = List.length d_rows_0 := k1_.length
  obtain ⟨r3_, hr4_, hd⟩ := Option.bind_eq_some_iff.1 hd
  refine s_call (tronagelaw15_awake_sim gk  s0 hr4_) ?_
  rintro _ h5_ ⟨f6_, t1, le8_, rfl, rfl, s7_⟩
  refine ⟨t1, rfl, ?_⟩
  obtain ⟨r9_, hr10_, hd⟩ := Option.bind_eq_some_iff.1 hd
  refine s_call (tronagelaw15_few_sim (k1_.mono le8_) s7_ hr10_) ?_
  rintro _ h11_ ⟨f12_, t2, le14_, rfl, rfl, s13_⟩
  refine ⟨t2, rfl, ?_⟩
  refine s_cond hd rfl (fun hb188_ hd => ?_) (fun hb188_ hd => ?_)
  · obtain rfl := Option.some.inj hd
    exact finOf_back ⟨f12_, t1, (le8_.trans le14_), rfl, rfl, s13_⟩
  · obtain ⟨r15_, hr16_, hd⟩ := Option.bind_eq_some_iff.1 hd
    refine s_call (table_Share_sim (gk.mono (le8_.trans le14_)) (k1_.mono (le8_.trans le14_)) s13_ hr16_) ?_
    rintro _ h17_ ⟨f18_, t3, d21_, d24_, le20_, rfl, rfl, k23_, k26_, s19_⟩
    refine ⟨t3, rfl, ?_⟩
    try dsimp only at hd
    have n22_ := k23_.length
    have n25_ := k26_.length
    obtain ⟨r27_, hr28_, hd⟩ := Option.bind_eq_some_iff.1 hd
    refine s_call (table_Pack_sim (gk.mono ((le8_.trans le14_).trans le20_)) (k1_.mono ((le8_.trans le14_).trans le20_)) s19_ hr28_) ?_
    rintro _ h29_ ⟨f30_, t4, d33_, d36_, d39_, d42_, le32_, rfl, rfl, k35_, k38_, k41_, k44_, s31_⟩
    refine ⟨t4, rfl, ?_⟩
    try dsimp only at hd
    have n34_ := k35_.length
    have n37_ := k38_.length
    have n40_ := k41_.length
    have n43_ := k44_.length
    refine s_new (vs := [.slice none 0 0, .slice none 0 0, .slice none 0 0, .slice none 0 0]) s31_ ?_
    intro r5 h46_ s45_
    refine s_put (b := r5) (j := 0) (v := .slice t4.1.1 t4.1.2.1 t4.1.2.2) s45_ rfl (show (0 : Nat) < 4 by decide) ?_
    intro h48_ s47_
    refine s_put (b := r5) (j := 1) (v := .slice t4.2.1.1 t4.2.1.2.1 t4.2.1.2.2) s47_ rfl (show (1 : Nat) < 4 by decide) ?_
    intro h50_ s49_
    refine s_put (b := r5) (j := 2) (v := .slice t4.2.2.1.1 t4.2.2.1.2.1 t4.2.2.1.2.2) s49_ rfl (show (2 : Nat) < 4 by decide) ?_
    intro h52_ s51_
    refine s_put (b := r5) (j := 3) (v := .slice t4.2.2.2.1.1 t4.2.2.2.1.2.1 t4.2.2.2.1.2.2) s51_ rfl (show (3 : Nat) < 4 by decide) ?_
    intro h54_ s53_
    obtain ⟨g55_, hx56_, hd⟩ := Option.bind_eq_some_iff.1 hd
    refine s_join (fun (y : Bool × Unit) w_ g => ∃ ψ : Snap, Sub f30_ ψ ∧ y.1 = g ∧ St ψ (⟨Rep.raw 34, [.pointer (some ⟨r5, 0, none⟩)], [.slice t4.1.1 t4.1.2.1 t4.1.2.2, .slice t4.2.1.1 t4.2.1.2.1 t4.2.1.2.2, .slice t4.2.2.1.1 t4.2.2.1.2.1 t4.2.2.1.2.2, .slice t4.2.2.2.1.1 t4.2.2.2.1.2.1 t4.2.2.2.1.2.2]⟩ :: F) w_) (g := g55_) ?_ ?_
    · refine s_loadR (b := r5) (j := 2) (x := t4.2.2.1) s53_ rfl ?_
      refine s_loadR (b := r5) (j := 3) (x := t4.2.2.2.1) s53_ rfl ?_
      refine s_cond hx56_ (by rw [n40_, n43_]) (fun hb57_ hx56_ => ?_) (fun hb57_ hx56_ => ?_)
      · obtain rfl := Option.some.inj hx56_
        exact s_out (true, ()) rfl ⟨f30_, (Sub.refl _), rfl, s53_⟩
      · refine s_loadR (b := r5) (j := 1) (x := t4.2.1) s53_ rfl ?_
        obtain rfl := Option.some.inj hx56_
        exact s_out ((((t4.2.1.2.1 : Nat) : Int) != ((rows_0.2.1 : Nat) : Int)), ()) rfl ⟨f30_, (Sub.refl _), (by rw [n37_, n2_]), s53_⟩
    · rintro z6 h58_ ⟨f59_, le60_, rfl, s61_⟩
      try dsimp only at hd
      refine s_cond hd rfl (fun hb187_ hd => ?_) (fun hb187_ hd => ?_)
      · obtain rfl := Option.some.inj hd
        have s62_ := s61_.tail
        exact finOf_back ⟨f59_, false, ((((le8_.trans le14_).trans le20_).trans le32_).trans le60_), rfl, rfl, s62_⟩
      · obtain ⟨g63_, hx64_, hd⟩ := Option.bind_eq_some_iff.1 hd
        refine s_block (fun (y : Int × Int × Bool × Unit) w_ g => ∃ ψ : Snap, Sub f59_ ψ ∧ Step.next y.2.1 = g ∧ St ψ (⟨Rep.raw 34, [.pointer (some ⟨r5, 0, none⟩)], [.slice t4.1.1 t4.1.2.1 t4.1.2.2, .slice t4.2.1.1 t4.2.1.2.1 t4.2.1.2.2, .slice t4.2.2.1.1 t4.2.2.1.2.1 t4.2.2.1.2.2, .slice t4.2.2.2.1.1 t4.2.2.2.1.2.1 t4.2.2.2.1.2.2]⟩ :: F) w_) (g := g63_) ?_ ?_
        · refine s_forN hx64_ (fun i65_ (y : Int × Int × Bool × Unit) w_ g => ∃ ψ : Snap, Sub f59_ ψ ∧ y.1 = i65_ ∧ y.2.1 = g ∧ St ψ (⟨Rep.raw 34, [.pointer (some ⟨r5, 0, none⟩)], [.slice t4.1.1 t4.1.2.1 t4.1.2.2, .slice t4.2.1.1 t4.2.1.2.1 t4.2.1.2.2, .slice t4.2.2.1.1 t4.2.2.1.2.1 t4.2.2.1.2.2, .slice t4.2.2.2.1.1 t4.2.2.2.1.2.1 t4.2.2.2.1.2.2]⟩ :: F) w_) ((0 : Int), (0 : Int), false, ()) rfl ⟨f59_, (Sub.refl _), rfl, rfl, s61_⟩ ?_ ?_
          · rintro _ z11 h71_ _ _ ⟨f68_, le69_, rfl, rfl, s70_⟩ he66_ h173_ h274_ hw72_ hb67_
            try dsimp only at he66_ h173_ h274_ hw72_
            refine s_loadR (b := r5) (j := 3) (x := t4.2.2.2.1) s70_ rfl ?_
            refine t_true (by rw [n43_]; exact decide_eq_true h274_) ?_
            obtain ⟨g75_, hx76_, he66_⟩ := Option.bind_eq_some_iff.1 he66_
            refine s_join (fun (y : Bool × Unit) w_ g => ∃ ψ : Snap, Sub f68_ ψ ∧ y.1 = g ∧ St ψ (⟨Rep.raw 34, [.pointer (some ⟨r5, 0, none⟩)], [.slice t4.1.1 t4.1.2.1 t4.1.2.2, .slice t4.2.1.1 t4.2.1.2.1 t4.2.1.2.2, .slice t4.2.2.1.1 t4.2.2.1.2.1 t4.2.2.1.2.2, .slice t4.2.2.2.1.1 t4.2.2.2.1.2.1 t4.2.2.2.1.2.2]⟩ :: F) w_) (g := g75_) ?_ ?_
            · refine s_loadR (b := r5) (j := 3) (x := t4.2.2.2.1) s70_ rfl ?_
              obtain ⟨x77_, hx78_, hx76_⟩ := Option.bind_eq_some_iff.1 hx76_
              obtain ⟨a79_, cs80_, ea81_, hi82_, q83_, cl84_⟩ := (k44_.mono (le60_.trans le69_)).get hx78_
              refine t_deref _ ea81_ (t_chk hi82_ ?_)
              obtain rfl := q83_
              refine s_load (x := x77_) (cellS_heap (Sub.trans (Sub.refl _) s70_.sub) (cl84_ 0 _ rfl)) rfl ?_
              refine s_cond hx76_ rfl (fun hb114_ hx76_ => ?_) (fun hb114_ hx76_ => ?_)
              · obtain rfl := Option.some.inj hx76_
                exact s_out (true, ()) rfl ⟨f68_, (Sub.refl _), rfl, s70_⟩
              · refine s_loadR (b := r5) (j := 3) (x := t4.2.2.2.1) s70_ rfl ?_
                obtain ⟨x86_, hx87_, hx76_⟩ := Option.bind_eq_some_iff.1 hx76_
                obtain ⟨a88_, cs89_, ea90_, hi91_, q92_, cl93_⟩ := (k44_.mono (le60_.trans le69_)).get hx87_
                refine t_deref _ ea90_ (t_chk hi91_ ?_)
                obtain rfl := q92_
                refine s_load (x := x86_) (cellS_heap (Sub.trans (Sub.refl _) s70_.sub) (cl93_ 0 _ rfl)) rfl ?_
                refine s_cond hx76_ (by rw [n25_]) (fun hb113_ hx76_ => ?_) (fun hb113_ hx76_ => ?_)
                · obtain rfl := Option.some.inj hx76_
                  exact s_out (true, ()) rfl ⟨f68_, (Sub.refl _), rfl, s70_⟩
                · refine s_loadR (b := r5) (j := 3) (x := t4.2.2.2.1) s70_ rfl ?_
                  obtain ⟨x95_, hx96_, hx76_⟩ := Option.bind_eq_some_iff.1 hx76_
                  obtain ⟨a97_, cs98_, ea99_, hi100_, q101_, cl102_⟩ := (k44_.mono (le60_.trans le69_)).get hx96_
                  refine t_deref _ ea99_ (t_chk hi100_ ?_)
                  obtain rfl := q101_
                  refine s_load (x := x95_) (cellS_heap (Sub.trans (Sub.refl _) s70_.sub) (cl102_ 0 _ rfl)) rfl ?_
                  refine s_loadR (b := r5) (j := 2) (x := t4.2.2.1) s70_ rfl ?_
                  obtain ⟨x104_, hx105_, hx76_⟩ := Option.bind_eq_some_iff.1 hx76_
                  obtain ⟨a106_, cs107_, ea108_, hi109_, q110_, cl111_⟩ := (k41_.mono (le60_.trans le69_)).get hx105_
                  refine t_deref _ ea108_ (t_chk hi109_ ?_)
                  obtain rfl := q110_
                  refine s_load (x := x104_) (cellS_heap (Sub.trans (Sub.refl _) s70_.sub) (cl111_ 0 _ rfl)) rfl ?_
                  obtain rfl := Option.some.inj hx76_
                  exact s_out ((!((x95_ == (0 : Int)) == (x104_ == (0 : Int)))), ()) rfl ⟨f68_, (Sub.refl _), rfl, s70_⟩
            · rintro z13 h115_ ⟨f116_, le117_, rfl, s118_⟩
              try dsimp only at he66_
              refine s_cond he66_ rfl (fun hb136_ he66_ => ?_) (fun hb136_ he66_ => ?_)
              · obtain rfl := Option.some.inj he66_
                obtain rfl := hb67_ _ rfl
                try dsimp only at hd
                obtain rfl := Option.some.inj hd
                have s119_ := s118_.tail
                exact around_ret (meetB_ret (finOf_back ⟨f116_, false, ((((((le8_.trans le14_).trans le20_).trans le32_).trans le60_).trans le69_).trans le117_), rfl, rfl, s119_⟩))
              · refine s_loadR (b := r5) (j := 3) (x := t4.2.2.2.1) s118_ rfl ?_
                obtain ⟨x120_, hx121_, he66_⟩ := Option.bind_eq_some_iff.1 he66_
                obtain ⟨a122_, cs123_, ea124_, hi125_, q126_, cl127_⟩ := (k44_.mono ((le60_.trans le69_).trans le117_)).get hx121_
                refine t_deref _ ea124_ (t_chk hi125_ ?_)
                obtain rfl := q126_
                refine s_load (x := x120_) (cellS_heap (Sub.trans (Sub.refl _) s118_.sub) (cl127_ 0 _ rfl)) rfl ?_
                obtain ⟨g129_, hx130_, he66_⟩ := Option.bind_eq_some_iff.1 he66_
                refine s_join (fun (y : Int × Unit) w_ g => ∃ ψ : Snap, Sub f116_ ψ ∧ y.1 = g ∧ St ψ (⟨Rep.raw 34, [.pointer (some ⟨r5, 0, none⟩)], [.slice t4.1.1 t4.1.2.1 t4.1.2.2, .slice t4.2.1.1 t4.2.1.2.1 t4.2.1.2.2, .slice t4.2.2.1.1 t4.2.2.1.2.1 t4.2.2.1.2.2, .slice t4.2.2.2.1.1 t4.2.2.2.1.2.1 t4.2.2.2.1.2.2]⟩ :: F) w_) (g := g129_) ?_ ?_
                · refine s_cond hx130_ rfl (fun hb131_ hx130_ => ?_) (fun hb131_ hx130_ => ?_)
                  · obtain rfl := Option.some.inj hx130_
                    exact s_out ((IntKind.wrap .i64 (z11.2.1 + (1 : Int))), ()) rfl ⟨f116_, (Sub.refl _), rfl, s118_⟩
                  · obtain rfl := Option.some.inj hx130_
                    exact s_out (z11.2.1, ()) rfl ⟨f116_, (Sub.refl _), rfl, s118_⟩
                · rintro z29 h132_ ⟨f133_, le134_, rfl, s135_⟩
                  try dsimp only at he66_
                  obtain rfl := Option.some.inj he66_
                  exact s_next ((IntKind.wrap .i64 (z11.1 + (1 : Int))), z29.1, z11.2.2.1, ()) _ rfl rfl ⟨f133_, ((le69_.trans le117_).trans le134_), hw72_, rfl, s135_⟩
          · rintro _ z11 h140_ _ ⟨f137_, le138_, rfl, rfl, s139_⟩ hge141_ hr142_
            subst hr142_
            refine s_loadR (b := r5) (j := 3) (x := t4.2.2.2.1) s139_ rfl ?_
            refine t_false (by rw [n43_]; exact decide_eq_false (Int.not_lt.2 hge141_)) ?_
            exact around_brk (meetB_brk (z11.1, z11.2.1, z11.2.2.1, ()) rfl ⟨f137_, le138_, rfl, s139_⟩)
        · rintro z10 h143_ ⟨f144_, le145_, rfl, s146_⟩
          try dsimp only at hd
          obtain ⟨g148_, hx149_, hd⟩ := Option.bind_eq_some_iff.1 hd
          refine s_join (fun (y : Bool × Unit) w_ g => ∃ ψ : Snap, Sub f144_ ψ ∧ y.1 = g ∧ St ψ (⟨Rep.raw 34, [.pointer (some ⟨r5, 0, none⟩)], [.slice t4.1.1 t4.1.2.1 t4.1.2.2, .slice t4.2.1.1 t4.2.1.2.1 t4.2.1.2.2, .slice t4.2.2.1.1 t4.2.2.1.2.1 t4.2.2.1.2.2, .slice t4.2.2.2.1.1 t4.2.2.2.1.2.1 t4.2.2.2.1.2.2]⟩ :: F) w_) (g := g148_) ?_ ?_
          · refine s_loadR (b := r5) (j := 2) (x := t4.2.2.1) s146_ rfl ?_
            refine s_cond hx149_ (by rw [n40_]) (fun hb159_ hx149_ => ?_) (fun hb159_ hx149_ => ?_)
            · obtain rfl := Option.some.inj hx149_
              exact s_out (true, ()) rfl ⟨f144_, (Sub.refl _), rfl, s146_⟩
            · refine s_loadR (b := r5) (j := 2) (x := t4.2.2.1) s146_ rfl ?_
              refine s_loadR (b := r5) (j := 2) (x := t4.2.2.1) s146_ rfl ?_
              obtain ⟨x150_, hx151_, hx149_⟩ := Option.bind_eq_some_iff.1 hx149_
              rw [← n40_] at hx151_
              obtain ⟨a152_, cs153_, ea154_, hi155_, q156_, cl157_⟩ := (k41_.mono (le60_.trans le145_)).get hx151_
              refine t_deref _ ea154_ (t_chk hi155_ ?_)
              obtain rfl := q156_
              refine s_load (x := x150_) (cellS_heap (Sub.trans (Sub.refl _) s146_.sub) (cl157_ 0 _ rfl)) rfl ?_
              obtain rfl := Option.some.inj hx149_
              exact s_out ((x150_ != (0 : Int)), ()) rfl ⟨f144_, (Sub.refl _), rfl, s146_⟩
          · rintro z30 h160_ ⟨f161_, le162_, rfl, s163_⟩
            try dsimp only at hd
            obtain ⟨g164_, hx165_, hd⟩ := Option.bind_eq_some_iff.1 hd
            refine s_join (fun (y : Bool × Unit) w_ g => ∃ ψ : Snap, Sub f161_ ψ ∧ y.1 = g ∧ St ψ (⟨Rep.raw 34, [.pointer (some ⟨r5, 0, none⟩)], [.slice t4.1.1 t4.1.2.1 t4.1.2.2, .slice t4.2.1.1 t4.2.1.2.1 t4.2.1.2.2, .slice t4.2.2.1.1 t4.2.2.1.2.1 t4.2.2.1.2.2, .slice t4.2.2.2.1.1 t4.2.2.2.1.2.1 t4.2.2.2.1.2.2]⟩ :: F) w_) (g := g164_) ?_ ?_
            · refine s_cond hx165_ rfl (fun hb180_ hx165_ => ?_) (fun hb180_ hx165_ => ?_)
              · obtain ⟨r166_, hr167_, hx165_⟩ := Option.bind_eq_some_iff.1 hx165_
                refine s_call (table_Dense_sim (k26_.mono (((le32_.trans le60_).trans le145_).trans le162_)) s163_ hr167_) ?_
                rintro _ h168_ ⟨f169_, t37, le171_, rfl, rfl, s170_⟩
                refine ⟨t37, rfl, ?_⟩
                refine s_cond hx165_ rfl (fun hb179_ hx165_ => ?_) (fun hb179_ hx165_ => ?_)
                · refine s_loadR (b := r5) (j := 0) (x := t4.1) s170_ rfl ?_
                  refine s_loadR (b := r5) (j := 1) (x := t4.2.1) s170_ rfl ?_
                  refine s_loadR (b := r5) (j := 2) (x := t4.2.2.1) s170_ rfl ?_
                  refine s_loadR (b := r5) (j := 3) (x := t4.2.2.2.1) s170_ rfl ?_
                  obtain ⟨r172_, hr173_, hx165_⟩ := Option.bind_eq_some_iff.1 hx165_
                  refine s_call (table_Packed_Cells_sim (k35_.mono (((le60_.trans le145_).trans le162_).trans le171_)) (k38_.mono (((le60_.trans le145_).trans le162_).trans le171_)) (k41_.mono (((le60_.trans le145_).trans le162_).trans le171_)) (k44_.mono (((le60_.trans le145_).trans le162_).trans le171_)) s170_ hr173_) ?_
                  rintro _ h174_ ⟨f175_, t42, le177_, rfl, rfl, s176_⟩
                  refine ⟨t42, rfl, ?_⟩
                  refine s_cond hx165_ rfl (fun hb178_ hx165_ => ?_) (fun hb178_ hx165_ => ?_)
                  · obtain rfl := Option.some.inj hx165_
                    exact s_out (z30.1, ()) rfl ⟨f175_, (le171_.trans le177_), rfl, s176_⟩
                  · obtain rfl := Option.some.inj hx165_
                    exact s_out (false, ()) rfl ⟨f175_, (le171_.trans le177_), rfl, s176_⟩
                · obtain rfl := Option.some.inj hx165_
                  exact s_out (false, ()) rfl ⟨f169_, le171_, rfl, s170_⟩
              · obtain rfl := Option.some.inj hx165_
                exact s_out (false, ()) rfl ⟨f161_, (Sub.refl _), rfl, s163_⟩
            · rintro z36 h181_ ⟨f182_, le183_, rfl, s184_⟩
              try dsimp only at hd
              obtain rfl := Option.some.inj hd
              have s185_ := s184_.tail
              exact finOf_back ⟨f182_, z36.1, (((((((le8_.trans le14_).trans le20_).trans le32_).trans le60_).trans le145_).trans le162_).trans le183_), rfl, rfl, s185_⟩

end Go.Proofs.YtklamaeccniblaaDoor
