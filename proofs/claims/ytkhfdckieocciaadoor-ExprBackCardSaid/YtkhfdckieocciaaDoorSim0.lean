import Derived.Test.YtkhfdckieocciaaDoorBase
import Derived.KernelRfl
namespace Go.Proofs.YtkhfdckieocciaaDoor
open Go Go.Eng
set_option linter.unusedVariables false
set_option maxRecDepth 100000


noncomputable def slices_Index_byte_byte_D (s_0 : List Int) (v_1 : Int) : Option Int :=
  (forN (σ := Unit) (β := Int) (0 : Int) (((List.length s_0) : Nat) : Int) () fun i_z2 z2 =>
    (idx s_0 i_z2).bind fun e23 =>
    cond (v_1 == e23)
    (some (Step.done i_z2))
    (some (Step.next ()))).bind fun e_z1 => match e_z1 with
  | .next z1 =>
    some (-1 : Int)
  | .done q36 => some q36
theorem slices_Index_byte_byte_sim {φ : Snap} {h : Heap} {F : List Chk} {s_0 : Slc} {d_s_0 : List Int} {v_1 : Int} (k1_ : Ro.SliceIs (Ro.int .u8) φ s_0 d_s_0) (s0 : St φ (F) h) {r : Int} (hd : slices_Index_byte_byte_D d_s_0 v_1 = some r) :
    CallsH Tryd.prog 44 [(.slice s_0.1 s_0.2.1 s_0.2.2), (.int .u8 v_1)] h (Back fun v h' => ∃ ψ : Snap, ∃ y : Int, Sub φ ψ ∧ v = ((.one (.atom (.int .i64))) : Sh).val y ∧ y = r ∧ St ψ (F) h') := by
  refine calls_of mixed Tryd.func44 ?_
  rw [slices_Index_byte_byte_den]
  unfold slices_Index_byte_byte_T
  unfold slices_Index_byte_byte_D at hd
  try dsimp only [Ex.kind_mk, Ex.n_mk, Ex.kids_mk] at hd
  have n2_ : s_0.2.1 = List.length d_s_0 := k1_.length
  obtain ⟨g3_, hx4_, hd⟩ := Option.bind_eq_some_iff.1 hd
  refine s_block (fun (y : Int × Int × Unit) w_ g => ∃ ψ : Snap, Sub φ ψ ∧ Step.next () = g ∧ St ψ (F) w_) (g := g3_) ?_ ?_
  · refine s_forN hx4_ (fun i5_ (y : Int × Int × Unit) w_ g => ∃ ψ : Snap, Sub φ ψ ∧ y.1 = i5_ ∧ () = g ∧ St ψ (F) w_) ((0 : Int), (0 : Int), ()) rfl ⟨φ, (Sub.refl _), rfl, rfl, s0⟩ ?_ ?_
    · rintro _ z2 h11_ _ _ ⟨f8_, le9_, rfl, rfl, s10_⟩ he6_ h113_ h214_ hw12_ hb7_
      try dsimp only at he6_ h113_ h214_ hw12_
      refine t_true (by rw [n2_]; exact decide_eq_true h214_) ?_
      obtain ⟨x15_, hx16_, he6_⟩ := Option.bind_eq_some_iff.1 he6_
      obtain ⟨a17_, cs18_, ea19_, hi20_, q21_, cl22_⟩ := (k1_.mono le9_).get hx16_
      refine t_deref _ ea19_ (t_chk hi20_ ?_)
      obtain rfl := q21_
      refine s_load (x := x15_) (cellS_heap (Sub.trans (Sub.refl _) s10_.sub) (cl22_ 0 _ rfl)) rfl ?_
      refine s_cond he6_ rfl (fun hb24_ he6_ => ?_) (fun hb24_ he6_ => ?_)
      · obtain rfl := Option.some.inj he6_
        obtain rfl := hb7_ _ rfl
        try dsimp only at hd
        obtain rfl := Option.some.inj hd
        exact around_ret (meetB_ret (finOf_back ⟨f8_, z2.1, le9_, rfl, rfl, s10_⟩))
      · obtain rfl := Option.some.inj he6_
        exact s_next ((IntKind.wrap .i64 (z2.1 + (1 : Int))), z2.2.1, ()) _ rfl rfl ⟨f8_, le9_, hw12_, rfl, s10_⟩
    · rintro _ z2 h28_ _ ⟨f25_, le26_, rfl, rfl, s27_⟩ hge29_ hr30_
      subst hr30_
      refine t_false (by rw [n2_]; exact decide_eq_false (Int.not_lt.2 hge29_)) ?_
      exact around_brk (meetB_brk (z2.1, z2.2.1, ()) rfl ⟨f25_, le26_, rfl, s27_⟩)
  · rintro z1 h31_ ⟨f32_, le33_, rfl, s34_⟩
    try dsimp only at hd
    obtain rfl := Option.some.inj hd
    exact finOf_back ⟨f32_, (-1 : Int), le33_, rfl, rfl, s34_⟩

noncomputable def slices_Contains_byte_byte_D (s_0 : List Int) (v_1 : Int) : Option Bool :=
  (slices_Index_byte_byte_D s_0 v_1).bind fun t1 =>
  some (decide (t1 ≥ (0 : Int)))
theorem slices_Contains_byte_byte_sim {φ : Snap} {h : Heap} {F : List Chk} {s_0 : Slc} {d_s_0 : List Int} {v_1 : Int} (k1_ : Ro.SliceIs (Ro.int .u8) φ s_0 d_s_0) (s0 : St φ (F) h) {r : Bool} (hd : slices_Contains_byte_byte_D d_s_0 v_1 = some r) :
    CallsH Tryd.prog 36 [(.slice s_0.1 s_0.2.1 s_0.2.2), (.int .u8 v_1)] h (Back fun v h' => ∃ ψ : Snap, ∃ y : Bool, Sub φ ψ ∧ v = ((.one (.atom .bool)) : Sh).val y ∧ y = r ∧ St ψ (F) h') := by
  refine calls_of mixed Tryd.func36 ?_
  rw [slices_Contains_byte_byte_den]
  unfold slices_Contains_byte_byte_T
  unfold slices_Contains_byte_byte_D at hd
  try dsimp only [Ex.kind_mk, Ex.n_mk, Ex.kids_mk] at hd
  have n2_ : s_0.2.1 = List.length d_s_0 := k1_.length
  obtain ⟨r3_, hr4_, hd⟩ := Option.bind_eq_some_iff.1 hd
  refine s_call (slices_Index_byte_byte_sim k1_ s0 hr4_) ?_
  rintro _ h5_ ⟨f6_, t1, le8_, rfl, rfl, s7_⟩
  refine ⟨t1, rfl, ?_⟩
  obtain rfl := Option.some.inj hd
  exact finOf_back ⟨f6_, (decide (t1 ≥ (0 : Int))), le8_, rfl, rfl, s7_⟩

noncomputable def expr_sign_D (c_0 : Int) : Option Int :=
  cond (c_0 == (43 : Int))
  (some (5 : Int))
  (cond (c_0 == (45 : Int))
    (some (6 : Int))
    (cond (c_0 == (42 : Int))
      (some (7 : Int))
      (cond (c_0 == (47 : Int))
        (some (8 : Int))
        (cond (c_0 == (37 : Int))
          (some (9 : Int))
          (some (0 : Int))))))
theorem expr_sign_sim {φ : Snap} {h : Heap} {F : List Chk} {c_0 : Int}  (s0 : St φ (F) h) {r : Int} (hd : expr_sign_D c_0 = some r) :
    CallsH Tryd.prog 45 [(.int .u8 c_0)] h (Back fun v h' => ∃ ψ : Snap, ∃ y : Int, Sub φ ψ ∧ v = ((.one (.atom (.int .i64))) : Sh).val y ∧ y = r ∧ St ψ (F) h') := by
  refine calls_of mixed Tryd.func45 ?_
  rw [expr_sign_den]
  unfold expr_sign_T
  unfold expr_sign_D at hd
  try dsimp only [Ex.kind_mk, Ex.n_mk, Ex.kids_mk] at hd
  refine s_cond hd rfl (fun hb5_ hd => ?_) (fun hb5_ hd => ?_)
  · obtain rfl := Option.some.inj hd
    exact finOf_back ⟨φ, (5 : Int), (Sub.refl _), rfl, rfl, s0⟩
  · refine s_cond hd rfl (fun hb4_ hd => ?_) (fun hb4_ hd => ?_)
    · obtain rfl := Option.some.inj hd
      exact finOf_back ⟨φ, (6 : Int), (Sub.refl _), rfl, rfl, s0⟩
    · refine s_cond hd rfl (fun hb3_ hd => ?_) (fun hb3_ hd => ?_)
      · obtain rfl := Option.some.inj hd
        exact finOf_back ⟨φ, (7 : Int), (Sub.refl _), rfl, rfl, s0⟩
      · refine s_cond hd rfl (fun hb2_ hd => ?_) (fun hb2_ hd => ?_)
        · obtain rfl := Option.some.inj hd
          exact finOf_back ⟨φ, (8 : Int), (Sub.refl _), rfl, rfl, s0⟩
        · refine s_cond hd rfl (fun hb1_ hd => ?_) (fun hb1_ hd => ?_)
          · obtain rfl := Option.some.inj hd
            exact finOf_back ⟨φ, (9 : Int), (Sub.refl _), rfl, rfl, s0⟩
          · obtain rfl := Option.some.inj hd
            exact finOf_back ⟨φ, (0 : Int), (Sub.refl _), rfl, rfl, s0⟩

noncomputable def expr_reader_now_D (r_0 : (ByteArray × Int × Int)) : Option (Int × (ByteArray × Int × Int)) :=
  (loop (σ := (ByteArray × Int × Int)) (β := (ByteArray × Int × Int)) r_0 fun z2 =>
    (cond (decide ((z2.2.1) < ((ByteArray.size (z2.1) : Nat) : Int)))
    (need (0 ≤ (z2.2.1) ∧ (z2.2.1) < (ByteArray.size (z2.1) : Nat)) <|
      (slices_Contains_byte_byte_D ([(32 : Int), (9 : Int), (10 : Int), (13 : Int)] : List Int) ((UInt8.toNat (byteAt (z2.1) (Int.toNat (z2.2.1))) : Nat) : Int)).bind fun t14 =>
      some t14)
    (some false)).bind fun z3 =>
    cond z3
    (some (Step.next ((z2.1), (IntKind.wrap .i64 ((z2.2.1) + (1 : Int))), (z2.2.2))))
    (some (Step.done z2))).bind fun z1 =>
  cond (decide ((z1.2.1) ≥ ((ByteArray.size (z1.1) : Nat) : Int)))
  (some ((0 : Int), ((z1.1), (z1.2.1), (z1.2.2))))
  (need (0 ≤ (z1.2.1) ∧ (z1.2.1) < (ByteArray.size (z1.1) : Nat)) <|
    some (((UInt8.toNat (byteAt (z1.1) (Int.toNat (z1.2.1))) : Nat) : Int), ((z1.1), (z1.2.1), (z1.2.2))))
theorem expr_reader_now_sim {φ : Snap} {h : Heap} {F : List Chk} {r_0 : Option Addr} {d_r_0 : (ByteArray × Int × Int)}  (s0 : St φ (⟨Rep.obj 45 (Rep.prod (Rep.ro Ro.str) (Rep.prod (Rep.ro (Ro.int .i64)) (Rep.ro (Ro.int .i64)))), [.pointer r_0], d_r_0⟩ :: F) h) {r : (Int × (ByteArray × Int × Int))} (hd : expr_reader_now_D d_r_0 = some r) :
    CallsH Tryd.prog 25 [(.pointer r_0)] h (Back fun v h' => ∃ ψ : Snap, ∃ y : Int, ∃ l1_ : (ByteArray × Int × Int), Sub φ ψ ∧ v = ((.one (.atom (.int .u8))) : Sh).val y ∧ (y, l1_) = r ∧ St ψ (⟨Rep.obj 45 (Rep.prod (Rep.ro Ro.str) (Rep.prod (Rep.ro (Ro.int .i64)) (Rep.ro (Ro.int .i64)))), [.pointer r_0], l1_⟩ :: F) h') := by
  refine calls_of mixed Tryd.func25 ?_
  rw [expr_reader_now_den]
  unfold expr_reader_now_T
  unfold expr_reader_now_D at hd
  try dsimp only [Ex.kind_mk, Ex.n_mk, Ex.kids_mk] at hd
  obtain ⟨g3_, hx4_, hd⟩ := Option.bind_eq_some_iff.1 hd
  refine s_block (fun (y : Unit) w_ g => ∃ ψ : Snap, ∃ l5_ : (ByteArray × Int × Int), Sub φ ψ ∧ l5_ = g ∧ St ψ (⟨Rep.obj 45 (Rep.prod (Rep.ro Ro.str) (Rep.prod (Rep.ro (Ro.int .i64)) (Rep.ro (Ro.int .i64)))), [.pointer r_0], l5_⟩ :: F) w_) (g := g3_) ?_ ?_
  · refine s_loop hx4_ (fun (y : Unit) w_ g => ∃ ψ : Snap, ∃ l6_ : (ByteArray × Int × Int), Sub φ ψ ∧ l6_ = g ∧ St ψ (⟨Rep.obj 45 (Rep.prod (Rep.ro Ro.str) (Rep.prod (Rep.ro (Ro.int .i64)) (Rep.ro (Ro.int .i64)))), [.pointer r_0], l6_⟩ :: F) w_) (()) rfl ⟨φ, d_r_0, (Sub.refl _), rfl, s0⟩ ?_
    · rintro z2 h12_ _ _ ⟨f9_, d13_, le10_, rfl, s11_⟩ he7_ hb8_
      try dsimp only at he7_
      obtain ⟨g14_, hx15_, he7_⟩ := Option.bind_eq_some_iff.1 he7_
      refine s_join (fun (y : Bool × Unit) w_ g => ∃ ψ : Snap, Sub f9_ ψ ∧ y.1 = g ∧ St ψ (⟨Rep.obj 45 (Rep.prod (Rep.ro Ro.str) (Rep.prod (Rep.ro (Ro.int .i64)) (Rep.ro (Ro.int .i64)))), [.pointer r_0], d13_⟩ :: F) w_) (g := g14_) ?_ ?_
      · obtain ⟨b16_, vs17_, e18_, hl19_, s20_⟩ := s11_.open
        obtain rfl : r_0 = some ⟨b16_, 0, none⟩ := by simpa using e18_
        clear e18_
        have s21_ := s20_.at1
        obtain ⟨v22_, w23_, rfl, hl25_, s24_⟩ := s21_.pair
        obtain ⟨g26_, s27_⟩ := s24_.ro
        subst g26_
        obtain ⟨v29_, w30_, rfl, hl32_, s31_⟩ := s27_.pair
        obtain ⟨g33_, s34_⟩ := s31_.ro
        subst g33_
        obtain ⟨g36_, s37_⟩ := s34_.ro
        subst g36_
        have s39_ : St f9_ (⟨Rep.raw 45, [.pointer (some ⟨b16_, 0, none⟩)], [.string (d13_.1), .int .i64 (d13_.2.1), .int .i64 (d13_.2.2)]⟩ :: F) _ := s37_
        refine t_deref _ rfl ?_
        refine s_loadR (b := b16_) (j := 1) (x := (d13_.2.1)) s39_ rfl ?_
        refine t_deref _ rfl ?_
        refine s_loadR (b := b16_) (j := 0) (x := (d13_.1)) s39_ rfl ?_
        refine s_cond hx15_ rfl (fun hb67_ hx15_ => ?_) (fun hb67_ hx15_ => ?_)
        · refine t_deref _ rfl ?_
          refine s_loadR (b := b16_) (j := 0) (x := (d13_.1)) s39_ rfl ?_
          refine t_deref _ rfl ?_
          refine s_loadR (b := b16_) (j := 1) (x := (d13_.2.1)) s39_ rfl ?_
          refine s_chk hx15_ id fun hp40_ hx15_ => ?_
          refine s_new (vs := [.int .u8 (32 : Int), .int .u8 (9 : Int), .int .u8 (10 : Int), .int .u8 (13 : Int)]) s39_ ?_
          intro r12 h42_ s41_
          refine t_still (St.cell (b := b16_) (j := 1) s41_.at1 rfl) ?_
          refine t_still (St.cell (b := b16_) (j := 0) s41_.at1 rfl) ?_
          refine s_view (r := (Ro.int .u8)) (l := ([(32 : Int), (9 : Int), (10 : Int), (13 : Int)] : List Int)) Tryd.underlying32 Tryd.underlying5 s41_ (.cons (a := [_]) rfl (.cons (a := [_]) rfl (.cons (a := [_]) rfl (.cons (a := [_]) rfl .nil)))) rfl (by decide) ?_
          intro f43_ h47_ le44_ k45_ s46_
          have n48_ := k45_.length
          refine t_still (St.cell (b := b16_) (j := 1) s46_ rfl) ?_
          refine t_still (St.cell (b := b16_) (j := 0) s46_ rfl) ?_
          obtain ⟨r49_, hr50_, hx15_⟩ := Option.bind_eq_some_iff.1 hx15_
          refine s_call (slices_Contains_byte_byte_sim k45_ s46_ hr50_) ?_
          rintro _ h51_ ⟨f52_, t14, le54_, rfl, rfl, s53_⟩
          refine ⟨t14, rfl, ?_⟩
          have s55_ := St.unro (r := (Ro.int .i64)) (cs := [.int .i64 (d13_.2.2)]) (x := (d13_.2.2)) s53_ rfl
          have s56_ := St.unro (r := (Ro.int .i64)) (cs := [.int .i64 (d13_.2.1)]) (x := (d13_.2.1)) s55_ rfl
          have s57_ := St.unpair s56_
          have s58_ := St.unro (r := Ro.str) (cs := [.string (d13_.1)]) (x := (d13_.1)) s57_ rfl
          have s59_ := St.unpair s58_
          have s60_ : St f52_ (⟨Rep.obj 45 (Rep.prod (Rep.ro Ro.str) (Rep.prod (Rep.ro (Ro.int .i64)) (Rep.ro (Ro.int .i64)))), [.pointer (some ⟨b16_, 0, none⟩)], ((d13_.1), (d13_.2.1), (d13_.2.2))⟩ :: F) _ := St.shut s59_.at1
          obtain rfl := Option.some.inj hx15_
          exact s_out (t14, ()) rfl ⟨f52_, (le44_.trans le54_), rfl, s60_⟩
        · have s61_ := St.unro (r := (Ro.int .i64)) (cs := [.int .i64 (d13_.2.2)]) (x := (d13_.2.2)) s39_ rfl
          have s62_ := St.unro (r := (Ro.int .i64)) (cs := [.int .i64 (d13_.2.1)]) (x := (d13_.2.1)) s61_ rfl
          have s63_ := St.unpair s62_
          have s64_ := St.unro (r := Ro.str) (cs := [.string (d13_.1)]) (x := (d13_.1)) s63_ rfl
          have s65_ := St.unpair s64_
          have s66_ : St f9_ (⟨Rep.obj 45 (Rep.prod (Rep.ro Ro.str) (Rep.prod (Rep.ro (Ro.int .i64)) (Rep.ro (Ro.int .i64)))), [.pointer (some ⟨b16_, 0, none⟩)], ((d13_.1), (d13_.2.1), (d13_.2.2))⟩ :: F) _ := St.shut s65_.at1
          obtain rfl := Option.some.inj hx15_
          exact s_out (false, ()) rfl ⟨f9_, (Sub.refl _), rfl, s66_⟩
      · rintro z3 h68_ ⟨f69_, le70_, rfl, s71_⟩
        try dsimp only at he7_
        refine s_cond he7_ rfl (fun hb104_ he7_ => ?_) (fun hb104_ he7_ => ?_)
        · obtain ⟨b72_, vs73_, e74_, hl75_, s76_⟩ := s71_.open
          obtain rfl : r_0 = some ⟨b72_, 0, none⟩ := by simpa using e74_
          clear e74_
          have s77_ := s76_.at1
          obtain ⟨v78_, w79_, rfl, hl81_, s80_⟩ := s77_.pair
          obtain ⟨g82_, s83_⟩ := s80_.ro
          subst g82_
          obtain ⟨v85_, w86_, rfl, hl88_, s87_⟩ := s83_.pair
          obtain ⟨g89_, s90_⟩ := s87_.ro
          subst g89_
          obtain ⟨g92_, s93_⟩ := s90_.ro
          subst g92_
          have s95_ : St f69_ (⟨Rep.raw 45, [.pointer (some ⟨b72_, 0, none⟩)], [.string (d13_.1), .int .i64 (d13_.2.1), .int .i64 (d13_.2.2)]⟩ :: F) _ := s93_
          refine t_deref _ rfl ?_
          refine s_loadR (b := b72_) (j := 1) (x := (d13_.2.1)) s95_ rfl ?_
          refine t_deref _ rfl ?_
          refine s_put (b := b72_) (j := 1) (v := .int .i64 (IntKind.wrap .i64 ((d13_.2.1) + (1 : Int)))) s95_ rfl (show (1 : Nat) < 3 by decide) ?_
          intro h97_ s96_
          have s98_ := St.unro (r := (Ro.int .i64)) (cs := [.int .i64 (d13_.2.2)]) (x := (d13_.2.2)) s96_ rfl
          have s99_ := St.unro (r := (Ro.int .i64)) (cs := [.int .i64 (IntKind.wrap .i64 ((d13_.2.1) + (1 : Int)))]) (x := (IntKind.wrap .i64 ((d13_.2.1) + (1 : Int)))) s98_ rfl
          have s100_ := St.unpair s99_
          have s101_ := St.unro (r := Ro.str) (cs := [.string (d13_.1)]) (x := (d13_.1)) s100_ rfl
          have s102_ := St.unpair s101_
          have s103_ : St f69_ (⟨Rep.obj 45 (Rep.prod (Rep.ro Ro.str) (Rep.prod (Rep.ro (Ro.int .i64)) (Rep.ro (Ro.int .i64)))), [.pointer (some ⟨b72_, 0, none⟩)], ((d13_.1), (IntKind.wrap .i64 ((d13_.2.1) + (1 : Int))), (d13_.2.2))⟩ :: F) _ := St.shut s102_.at1
          obtain rfl := Option.some.inj he7_
          exact s_next (()) _ rfl rfl ⟨f69_, ((d13_.1), (IntKind.wrap .i64 ((d13_.2.1) + (1 : Int))), (d13_.2.2)), (le10_.trans le70_), rfl, s103_⟩
        · obtain rfl := Option.some.inj he7_
          obtain rfl := hb8_ _ rfl
          exact around_brk (meetB_brk (()) rfl ⟨f69_, d13_, (le10_.trans le70_), rfl, s71_⟩)
  · rintro z1 h105_ ⟨f106_, d109_, le107_, rfl, s108_⟩
    try dsimp only at hd
    obtain ⟨b111_, vs112_, e113_, hl114_, s115_⟩ := s108_.open
    obtain rfl : r_0 = some ⟨b111_, 0, none⟩ := by simpa using e113_
    clear e113_
    have s116_ := s115_.at1
    obtain ⟨v117_, w118_, rfl, hl120_, s119_⟩ := s116_.pair
    obtain ⟨g121_, s122_⟩ := s119_.ro
    subst g121_
    obtain ⟨v124_, w125_, rfl, hl127_, s126_⟩ := s122_.pair
    obtain ⟨g128_, s129_⟩ := s126_.ro
    subst g128_
    obtain ⟨g131_, s132_⟩ := s129_.ro
    subst g131_
    have s134_ : St f106_ (⟨Rep.raw 45, [.pointer (some ⟨b111_, 0, none⟩)], [.string (d109_.1), .int .i64 (d109_.2.1), .int .i64 (d109_.2.2)]⟩ :: F) _ := s132_
    refine t_deref _ rfl ?_
    refine s_loadR (b := b111_) (j := 1) (x := (d109_.2.1)) s134_ rfl ?_
    refine t_deref _ rfl ?_
    refine s_loadR (b := b111_) (j := 0) (x := (d109_.1)) s134_ rfl ?_
    refine s_cond hd rfl (fun hb148_ hd => ?_) (fun hb148_ hd => ?_)
    · have s135_ := St.unro (r := (Ro.int .i64)) (cs := [.int .i64 (d109_.2.2)]) (x := (d109_.2.2)) s134_ rfl
      have s136_ := St.unro (r := (Ro.int .i64)) (cs := [.int .i64 (d109_.2.1)]) (x := (d109_.2.1)) s135_ rfl
      have s137_ := St.unpair s136_
      have s138_ := St.unro (r := Ro.str) (cs := [.string (d109_.1)]) (x := (d109_.1)) s137_ rfl
      have s139_ := St.unpair s138_
      have s140_ : St f106_ (⟨Rep.obj 45 (Rep.prod (Rep.ro Ro.str) (Rep.prod (Rep.ro (Ro.int .i64)) (Rep.ro (Ro.int .i64)))), [.pointer (some ⟨b111_, 0, none⟩)], ((d109_.1), (d109_.2.1), (d109_.2.2))⟩ :: F) _ := St.shut s139_.at1
      obtain rfl := Option.some.inj hd
      exact finOf_back ⟨f106_, (0 : Int), ((d109_.1), (d109_.2.1), (d109_.2.2)), le107_, rfl, rfl, s140_⟩
    · refine t_deref _ rfl ?_
      refine s_loadR (b := b111_) (j := 0) (x := (d109_.1)) s134_ rfl ?_
      refine t_deref _ rfl ?_
      refine s_loadR (b := b111_) (j := 1) (x := (d109_.2.1)) s134_ rfl ?_
      refine s_chk hd id fun hp141_ hd => ?_
      have s142_ := St.unro (r := (Ro.int .i64)) (cs := [.int .i64 (d109_.2.2)]) (x := (d109_.2.2)) s134_ rfl
      have s143_ := St.unro (r := (Ro.int .i64)) (cs := [.int .i64 (d109_.2.1)]) (x := (d109_.2.1)) s142_ rfl
      have s144_ := St.unpair s143_
      have s145_ := St.unro (r := Ro.str) (cs := [.string (d109_.1)]) (x := (d109_.1)) s144_ rfl
      have s146_ := St.unpair s145_
      have s147_ : St f106_ (⟨Rep.obj 45 (Rep.prod (Rep.ro Ro.str) (Rep.prod (Rep.ro (Ro.int .i64)) (Rep.ro (Ro.int .i64)))), [.pointer (some ⟨b111_, 0, none⟩)], ((d109_.1), (d109_.2.1), (d109_.2.2))⟩ :: F) _ := St.shut s146_.at1
      obtain rfl := Option.some.inj hd
      exact finOf_back ⟨f106_, ((UInt8.toNat (byteAt (d109_.1) (Int.toNat (d109_.2.1))) : Nat) : Int), ((d109_.1), (d109_.2.1), (d109_.2.2)), le107_, rfl, rfl, s147_⟩

noncomputable def expr_reader_fail_D (r_0 : (ByteArray × Int × Int)) (code_1 : Int) : Option (Step Unit (Int × Int)) :=
  some (Step.done (code_1, (r_0.2.1)))
theorem expr_reader_fail_sim {φ : Snap} {h : Heap} {F : List Chk} {r_0 : Option Addr} {d_r_0 : (ByteArray × Int × Int)} {code_1 : Int}  (s0 : St φ (⟨Rep.obj 45 (Rep.prod (Rep.ro Ro.str) (Rep.prod (Rep.ro (Ro.int .i64)) (Rep.ro (Ro.int .i64)))), [.pointer r_0], d_r_0⟩ :: F) h) {r : (Step Unit (Int × Int))} (hd : expr_reader_fail_D d_r_0 code_1 = some r) :
    CallsH Tryd.prog 27 [(.pointer r_0), (.int .i64 code_1)] h (Ends2 (fun v h' => ∃ ψ : Snap, ∃ y : Unit, Sub φ ψ ∧ v = ((.tuple []) : Sh).val y ∧ Step.next () = r ∧ St ψ (⟨Rep.obj 45 (Rep.prod (Rep.ro Ro.str) (Rep.prod (Rep.ro (Ro.int .i64)) (Rep.ro (Ro.int .i64)))), [.pointer r_0], d_r_0⟩ :: F) h') (fun c h' => ∃ ψ : Snap, ∃ code at_ : Int, Sub φ ψ ∧ c = [{ v := .iface 41 (.agg #[.int .i64 code, .int .i64 at_]), recovered := false }] ∧ Step.done (code, at_) = r ∧ St ψ (⟨Rep.obj 45 (Rep.prod (Rep.ro Ro.str) (Rep.prod (Rep.ro (Ro.int .i64)) (Rep.ro (Ro.int .i64)))), [.pointer r_0], d_r_0⟩ :: F) h')) := by
  refine calls_of mixed Tryd.func27 ?_
  rw [expr_reader_fail_den]
  unfold expr_reader_fail_T
  unfold expr_reader_fail_D at hd
  try dsimp only [Ex.kind_mk, Ex.n_mk, Ex.kids_mk] at hd
  obtain ⟨b1_, vs2_, e3_, hl4_, s5_⟩ := s0.open
  obtain rfl : r_0 = some ⟨b1_, 0, none⟩ := by simpa using e3_
  clear e3_
  have s6_ := s5_.at1
  obtain ⟨v7_, w8_, rfl, hl10_, s9_⟩ := s6_.pair
  obtain ⟨g11_, s12_⟩ := s9_.ro
  subst g11_
  obtain ⟨v14_, w15_, rfl, hl17_, s16_⟩ := s12_.pair
  obtain ⟨g18_, s19_⟩ := s16_.ro
  subst g18_
  obtain ⟨g21_, s22_⟩ := s19_.ro
  subst g21_
  have s24_ : St φ (⟨Rep.raw 45, [.pointer (some ⟨b1_, 0, none⟩)], [.string (d_r_0.1), .int .i64 (d_r_0.2.1), .int .i64 (d_r_0.2.2)]⟩ :: F) _ := s22_
  refine t_deref _ rfl ?_
  refine s_loadR (b := b1_) (j := 1) (x := (d_r_0.2.1)) s24_ rfl ?_
  refine s_pan ?_
  have s25_ := St.unro (r := (Ro.int .i64)) (cs := [.int .i64 (d_r_0.2.2)]) (x := (d_r_0.2.2)) s24_ rfl
  have s26_ := St.unro (r := (Ro.int .i64)) (cs := [.int .i64 (d_r_0.2.1)]) (x := (d_r_0.2.1)) s25_ rfl
  have s27_ := St.unpair s26_
  have s28_ := St.unro (r := Ro.str) (cs := [.string (d_r_0.1)]) (x := (d_r_0.1)) s27_ rfl
  have s29_ := St.unpair s28_
  have s30_ : St φ (⟨Rep.obj 45 (Rep.prod (Rep.ro Ro.str) (Rep.prod (Rep.ro (Ro.int .i64)) (Rep.ro (Ro.int .i64)))), [.pointer (some ⟨b1_, 0, none⟩)], ((d_r_0.1), (d_r_0.2.1), (d_r_0.2.2))⟩ :: F) _ := St.shut s29_.at1
  obtain rfl := Option.some.inj hd
  exact finOf_pan ⟨φ, code_1, (d_r_0.2.1), (Sub.refl _), rfl, rfl, s30_⟩

noncomputable def expr_reader_number_D (r_0 : (ByteArray × Int × Int)) : Option (Step (Int × (ByteArray × Int × Int)) (Int × Int)) :=
  (loop (σ := (Int × Int × (ByteArray × Int × Int))) (β := Step (Int × Int × (ByteArray × Int × Int)) (Int × Int)) ((0 : Int), (0 : Int), r_0) fun z2 =>
    (cond (decide ((z2.2.2.2.1) < ((ByteArray.size (z2.2.2.1) : Nat) : Int)))
    (need (0 ≤ (z2.2.2.2.1) ∧ (z2.2.2.2.1) < (ByteArray.size (z2.2.2.1) : Nat)) <|
      cond (decide (((UInt8.toNat (byteAt (z2.2.2.1) (Int.toNat (z2.2.2.2.1))) : Nat) : Int) ≥ (48 : Int)))
      (need (0 ≤ (z2.2.2.2.1) ∧ (z2.2.2.2.1) < (ByteArray.size (z2.2.2.1) : Nat)) <|
        some (decide (((UInt8.toNat (byteAt (z2.2.2.1) (Int.toNat (z2.2.2.2.1))) : Nat) : Int) ≤ (57 : Int))))
      (some false))
    (some false)).bind fun z3 =>
    cond z3
    (((cond (decide ((IntKind.wrap .i64 (z2.1 + (1 : Int))) > (18 : Int)))
      ((expr_reader_fail_D z2.2.2 (30 : Int)).bind fun e_t17 => match e_t17 with
        | .next t17 =>
          some (Step.next ())
        | .done p_t17 => some (Step.done p_t17))
      (some (Step.next ()))) : Option (Step Unit (Int × Int))).bind fun e_z16 => match e_z16 with
      | .next z16 =>
        need (0 ≤ (z2.2.2.2.1) ∧ (z2.2.2.2.1) < (ByteArray.size (z2.2.2.1) : Nat)) <|
        some (Step.next ((IntKind.wrap .i64 (z2.1 + (1 : Int))), (IntKind.wrap .i64 ((IntKind.wrap .i64 ((10 : Int) * z2.2.1)) + (IntKind.wrap .i64 (IntKind.wrap .u8 (((UInt8.toNat (byteAt (z2.2.2.1) (Int.toNat (z2.2.2.2.1))) : Nat) : Int) - (48 : Int)))))), ((z2.2.2.1), (IntKind.wrap .i64 ((z2.2.2.2.1) + (1 : Int))), (z2.2.2.2.2))))
      | .done q118 => some (Step.done (Step.done q118)))
    (some (Step.done (Step.next (z2.1, z2.2.1, z2.2.2))))).bind fun e_z1 => match e_z1 with
  | .next z1 =>
    ((cond (z1.1 == (0 : Int))
    ((expr_reader_fail_D z1.2.2 (30 : Int)).bind fun e_t26 => match e_t26 with
      | .next t26 =>
        some (Step.next ())
      | .done p_t26 => some (Step.done p_t26))
    (some (Step.next ()))) : Option (Step Unit (Int × Int))).bind fun e_z25 => match e_z25 with
    | .next z25 =>
      some (Step.next (z1.2.1, z1.2.2))
    | .done q145 => some (Step.done q145)
  | .done q146 => some (Step.done q146)
theorem expr_reader_number_sim {φ : Snap} {h : Heap} {F : List Chk} {r_0 : Option Addr} {d_r_0 : (ByteArray × Int × Int)}  (s0 : St φ (⟨Rep.obj 45 (Rep.prod (Rep.ro Ro.str) (Rep.prod (Rep.ro (Ro.int .i64)) (Rep.ro (Ro.int .i64)))), [.pointer r_0], d_r_0⟩ :: F) h) {r : (Step (Int × (ByteArray × Int × Int)) (Int × Int))} (hd : expr_reader_number_D d_r_0 = some r) :
    CallsH Tryd.prog 51 [(.pointer r_0)] h (Ends2 (fun v h' => ∃ ψ : Snap, ∃ y : Int, ∃ l1_ : (ByteArray × Int × Int), Sub φ ψ ∧ v = ((.one (.atom (.int .i64))) : Sh).val y ∧ Step.next (y, l1_) = r ∧ St ψ (⟨Rep.obj 45 (Rep.prod (Rep.ro Ro.str) (Rep.prod (Rep.ro (Ro.int .i64)) (Rep.ro (Ro.int .i64)))), [.pointer r_0], l1_⟩ :: F) h') (fun c h' => ∃ ψ : Snap, ∃ code at_ : Int, ∃ l2_ : (ByteArray × Int × Int), Sub φ ψ ∧ c = [{ v := .iface 41 (.agg #[.int .i64 code, .int .i64 at_]), recovered := false }] ∧ Step.done (code, at_) = r ∧ St ψ (⟨Rep.obj 45 (Rep.prod (Rep.ro Ro.str) (Rep.prod (Rep.ro (Ro.int .i64)) (Rep.ro (Ro.int .i64)))), [.pointer r_0], l2_⟩ :: F) h')) := by
  refine calls_of mixed Tryd.func51 ?_
  rw [expr_reader_number_den]
  unfold expr_reader_number_T
  unfold expr_reader_number_D at hd
  try dsimp only [Ex.kind_mk, Ex.n_mk, Ex.kids_mk] at hd
  obtain ⟨g3_, hx4_, hd⟩ := Option.bind_eq_some_iff.1 hd
  refine s_block (fun (y : Int × Int × Unit) w_ g => ∃ ψ : Snap, ∃ l5_ : (ByteArray × Int × Int), Sub φ ψ ∧ Step.next (y.1, y.2.1, l5_) = g ∧ St ψ (⟨Rep.obj 45 (Rep.prod (Rep.ro Ro.str) (Rep.prod (Rep.ro (Ro.int .i64)) (Rep.ro (Ro.int .i64)))), [.pointer r_0], l5_⟩ :: F) w_) (g := g3_) ?_ ?_
  · refine s_loop hx4_ (fun (y : Int × Int × Unit) w_ g => ∃ ψ : Snap, ∃ l6_ : (ByteArray × Int × Int), Sub φ ψ ∧ (y.1, y.2.1, l6_) = g ∧ St ψ (⟨Rep.obj 45 (Rep.prod (Rep.ro Ro.str) (Rep.prod (Rep.ro (Ro.int .i64)) (Rep.ro (Ro.int .i64)))), [.pointer r_0], l6_⟩ :: F) w_) ((0 : Int), (0 : Int), ()) rfl ⟨φ, d_r_0, (Sub.refl _), rfl, s0⟩ ?_
    · rintro z2 h12_ _ _ ⟨f9_, d13_, le10_, rfl, s11_⟩ he7_ hb8_
      try dsimp only at he7_
      obtain ⟨g14_, hx15_, he7_⟩ := Option.bind_eq_some_iff.1 he7_
      refine s_join (fun (y : Bool × Unit) w_ g => ∃ ψ : Snap, Sub f9_ ψ ∧ y.1 = g ∧ St ψ (⟨Rep.obj 45 (Rep.prod (Rep.ro Ro.str) (Rep.prod (Rep.ro (Ro.int .i64)) (Rep.ro (Ro.int .i64)))), [.pointer r_0], d13_⟩ :: F) w_) (g := g14_) ?_ ?_
      · obtain ⟨b16_, vs17_, e18_, hl19_, s20_⟩ := s11_.open
        obtain rfl : r_0 = some ⟨b16_, 0, none⟩ := by simpa using e18_
        clear e18_
        have s21_ := s20_.at1
        obtain ⟨v22_, w23_, rfl, hl25_, s24_⟩ := s21_.pair
        obtain ⟨g26_, s27_⟩ := s24_.ro
        subst g26_
        obtain ⟨v29_, w30_, rfl, hl32_, s31_⟩ := s27_.pair
        obtain ⟨g33_, s34_⟩ := s31_.ro
        subst g33_
        obtain ⟨g36_, s37_⟩ := s34_.ro
        subst g36_
        have s39_ : St f9_ (⟨Rep.raw 45, [.pointer (some ⟨b16_, 0, none⟩)], [.string (d13_.1), .int .i64 (d13_.2.1), .int .i64 (d13_.2.2)]⟩ :: F) _ := s37_
        refine t_deref _ rfl ?_
        refine s_loadR (b := b16_) (j := 1) (x := (d13_.2.1)) s39_ rfl ?_
        refine t_deref _ rfl ?_
        refine s_loadR (b := b16_) (j := 0) (x := (d13_.1)) s39_ rfl ?_
        refine s_cond hx15_ rfl (fun hb61_ hx15_ => ?_) (fun hb61_ hx15_ => ?_)
        · refine t_deref _ rfl ?_
          refine s_loadR (b := b16_) (j := 0) (x := (d13_.1)) s39_ rfl ?_
          refine t_deref _ rfl ?_
          refine s_loadR (b := b16_) (j := 1) (x := (d13_.2.1)) s39_ rfl ?_
          refine s_chk hx15_ id fun hp40_ hx15_ => ?_
          refine s_cond hx15_ rfl (fun hb54_ hx15_ => ?_) (fun hb54_ hx15_ => ?_)
          · refine t_deref _ rfl ?_
            refine s_loadR (b := b16_) (j := 0) (x := (d13_.1)) s39_ rfl ?_
            refine t_deref _ rfl ?_
            refine s_loadR (b := b16_) (j := 1) (x := (d13_.2.1)) s39_ rfl ?_
            refine s_chk hx15_ id fun hp41_ hx15_ => ?_
            have s42_ := St.unro (r := (Ro.int .i64)) (cs := [.int .i64 (d13_.2.2)]) (x := (d13_.2.2)) s39_ rfl
            have s43_ := St.unro (r := (Ro.int .i64)) (cs := [.int .i64 (d13_.2.1)]) (x := (d13_.2.1)) s42_ rfl
            have s44_ := St.unpair s43_
            have s45_ := St.unro (r := Ro.str) (cs := [.string (d13_.1)]) (x := (d13_.1)) s44_ rfl
            have s46_ := St.unpair s45_
            have s47_ : St f9_ (⟨Rep.obj 45 (Rep.prod (Rep.ro Ro.str) (Rep.prod (Rep.ro (Ro.int .i64)) (Rep.ro (Ro.int .i64)))), [.pointer (some ⟨b16_, 0, none⟩)], ((d13_.1), (d13_.2.1), (d13_.2.2))⟩ :: F) _ := St.shut s46_.at1
            obtain rfl := Option.some.inj hx15_
            exact s_out ((decide (((UInt8.toNat (byteAt (d13_.1) (Int.toNat (d13_.2.1))) : Nat) : Int) ≤ (57 : Int))), ()) rfl ⟨f9_, (Sub.refl _), rfl, s47_⟩
          · have s48_ := St.unro (r := (Ro.int .i64)) (cs := [.int .i64 (d13_.2.2)]) (x := (d13_.2.2)) s39_ rfl
            have s49_ := St.unro (r := (Ro.int .i64)) (cs := [.int .i64 (d13_.2.1)]) (x := (d13_.2.1)) s48_ rfl
            have s50_ := St.unpair s49_
            have s51_ := St.unro (r := Ro.str) (cs := [.string (d13_.1)]) (x := (d13_.1)) s50_ rfl
            have s52_ := St.unpair s51_
            have s53_ : St f9_ (⟨Rep.obj 45 (Rep.prod (Rep.ro Ro.str) (Rep.prod (Rep.ro (Ro.int .i64)) (Rep.ro (Ro.int .i64)))), [.pointer (some ⟨b16_, 0, none⟩)], ((d13_.1), (d13_.2.1), (d13_.2.2))⟩ :: F) _ := St.shut s52_.at1
            obtain rfl := Option.some.inj hx15_
            exact s_out (false, ()) rfl ⟨f9_, (Sub.refl _), rfl, s53_⟩
        · have s55_ := St.unro (r := (Ro.int .i64)) (cs := [.int .i64 (d13_.2.2)]) (x := (d13_.2.2)) s39_ rfl
          have s56_ := St.unro (r := (Ro.int .i64)) (cs := [.int .i64 (d13_.2.1)]) (x := (d13_.2.1)) s55_ rfl
          have s57_ := St.unpair s56_
          have s58_ := St.unro (r := Ro.str) (cs := [.string (d13_.1)]) (x := (d13_.1)) s57_ rfl
          have s59_ := St.unpair s58_
          have s60_ : St f9_ (⟨Rep.obj 45 (Rep.prod (Rep.ro Ro.str) (Rep.prod (Rep.ro (Ro.int .i64)) (Rep.ro (Ro.int .i64)))), [.pointer (some ⟨b16_, 0, none⟩)], ((d13_.1), (d13_.2.1), (d13_.2.2))⟩ :: F) _ := St.shut s59_.at1
          obtain rfl := Option.some.inj hx15_
          exact s_out (false, ()) rfl ⟨f9_, (Sub.refl _), rfl, s60_⟩
      · rintro z3 h62_ ⟨f63_, le64_, rfl, s65_⟩
        try dsimp only at he7_
        refine s_cond he7_ rfl (fun hb119_ he7_ => ?_) (fun hb119_ he7_ => ?_)
        · obtain ⟨g66_, hx67_, he7_⟩ := Option.bind_eq_some_iff.1 he7_
          refine s_join (fun (y : Unit) w_ g => ∃ ψ : Snap, Sub f63_ ψ ∧ Step.next () = g ∧ St ψ (⟨Rep.obj 45 (Rep.prod (Rep.ro Ro.str) (Rep.prod (Rep.ro (Ro.int .i64)) (Rep.ro (Ro.int .i64)))), [.pointer r_0], d13_⟩ :: F) w_) (g := g66_) ?_ ?_
          · refine s_cond hx67_ rfl (fun hb80_ hx67_ => ?_) (fun hb80_ hx67_ => ?_)
            · obtain ⟨r68_, hr69_, hx67_⟩ := Option.bind_eq_some_iff.1 hx67_
              refine s_callP (expr_reader_fail_sim  s65_ hr69_) ?_ ?_
              · rintro _ h70_ ⟨f71_, t17, le73_, rfl, rfl, s72_⟩
                refine ⟨t17, rfl, ?_⟩
                try dsimp only at hx67_
                obtain rfl := Option.some.inj hx67_
                exact s_out (()) rfl ⟨f71_, le73_, rfl, s72_⟩
              · rintro _ h74_ ⟨f75_, co78_, ca79_, le77_, rfl, rfl, s76_⟩
                try dsimp only at hx67_
                obtain rfl := Option.some.inj hx67_
                try dsimp only at he7_
                obtain rfl := Option.some.inj he7_
                obtain rfl := hb8_ _ rfl
                try dsimp only at hd
                obtain rfl := Option.some.inj hd
                exact meet_pan (around_pan (meetB_pan (finOf_pan ⟨f75_, co78_, ca79_, d13_, ((le10_.trans le64_).trans le77_), rfl, rfl, s76_⟩)))
            · obtain rfl := Option.some.inj hx67_
              exact s_out (()) rfl ⟨f63_, (Sub.refl _), rfl, s65_⟩
          · rintro z16 h81_ ⟨f82_, le83_, rfl, s84_⟩
            try dsimp only at he7_
            obtain ⟨b85_, vs86_, e87_, hl88_, s89_⟩ := s84_.open
            obtain rfl : r_0 = some ⟨b85_, 0, none⟩ := by simpa using e87_
            clear e87_
            have s90_ := s89_.at1
            obtain ⟨v91_, w92_, rfl, hl94_, s93_⟩ := s90_.pair
            obtain ⟨g95_, s96_⟩ := s93_.ro
            subst g95_
            obtain ⟨v98_, w99_, rfl, hl101_, s100_⟩ := s96_.pair
            obtain ⟨g102_, s103_⟩ := s100_.ro
            subst g102_
            obtain ⟨g105_, s106_⟩ := s103_.ro
            subst g105_
            have s108_ : St f82_ (⟨Rep.raw 45, [.pointer (some ⟨b85_, 0, none⟩)], [.string (d13_.1), .int .i64 (d13_.2.1), .int .i64 (d13_.2.2)]⟩ :: F) _ := s106_
            refine t_deref _ rfl ?_
            refine s_loadR (b := b85_) (j := 0) (x := (d13_.1)) s108_ rfl ?_
            refine t_deref _ rfl ?_
            refine s_loadR (b := b85_) (j := 1) (x := (d13_.2.1)) s108_ rfl ?_
            refine s_chk he7_ id fun hp109_ he7_ => ?_
            refine t_deref _ rfl ?_
            refine s_loadR (b := b85_) (j := 1) (x := (d13_.2.1)) s108_ rfl ?_
            refine t_deref _ rfl ?_
            refine s_put (b := b85_) (j := 1) (v := .int .i64 (IntKind.wrap .i64 ((d13_.2.1) + (1 : Int)))) s108_ rfl (show (1 : Nat) < 3 by decide) ?_
            intro h111_ s110_
            have s112_ := St.unro (r := (Ro.int .i64)) (cs := [.int .i64 (d13_.2.2)]) (x := (d13_.2.2)) s110_ rfl
            have s113_ := St.unro (r := (Ro.int .i64)) (cs := [.int .i64 (IntKind.wrap .i64 ((d13_.2.1) + (1 : Int)))]) (x := (IntKind.wrap .i64 ((d13_.2.1) + (1 : Int)))) s112_ rfl
            have s114_ := St.unpair s113_
            have s115_ := St.unro (r := Ro.str) (cs := [.string (d13_.1)]) (x := (d13_.1)) s114_ rfl
            have s116_ := St.unpair s115_
            have s117_ : St f82_ (⟨Rep.obj 45 (Rep.prod (Rep.ro Ro.str) (Rep.prod (Rep.ro (Ro.int .i64)) (Rep.ro (Ro.int .i64)))), [.pointer (some ⟨b85_, 0, none⟩)], ((d13_.1), (IntKind.wrap .i64 ((d13_.2.1) + (1 : Int))), (d13_.2.2))⟩ :: F) _ := St.shut s116_.at1
            obtain rfl := Option.some.inj he7_
            exact s_next ((IntKind.wrap .i64 (z2.1 + (1 : Int))), (IntKind.wrap .i64 ((IntKind.wrap .i64 ((10 : Int) * z2.2.1)) + (IntKind.wrap .i64 (IntKind.wrap .u8 (((UInt8.toNat (byteAt (d13_.1) (Int.toNat (d13_.2.1))) : Nat) : Int) - (48 : Int)))))), ()) _ rfl rfl ⟨f82_, ((d13_.1), (IntKind.wrap .i64 ((d13_.2.1) + (1 : Int))), (d13_.2.2)), ((le10_.trans le64_).trans le83_), rfl, s117_⟩
        · obtain rfl := Option.some.inj he7_
          obtain rfl := hb8_ _ rfl
          exact around_brk (meetB_brk (z2.1, z2.2.1, ()) rfl ⟨f63_, d13_, (le10_.trans le64_), rfl, s65_⟩)
  · rintro z1 h120_ ⟨f121_, d124_, le122_, rfl, s123_⟩
    try dsimp only at hd
    obtain ⟨g126_, hx127_, hd⟩ := Option.bind_eq_some_iff.1 hd
    refine s_join (fun (y : Unit) w_ g => ∃ ψ : Snap, Sub f121_ ψ ∧ Step.next () = g ∧ St ψ (⟨Rep.obj 45 (Rep.prod (Rep.ro Ro.str) (Rep.prod (Rep.ro (Ro.int .i64)) (Rep.ro (Ro.int .i64)))), [.pointer r_0], d124_⟩ :: F) w_) (g := g126_) ?_ ?_
    · refine s_cond hx127_ rfl (fun hb140_ hx127_ => ?_) (fun hb140_ hx127_ => ?_)
      · obtain ⟨r128_, hr129_, hx127_⟩ := Option.bind_eq_some_iff.1 hx127_
        refine s_callP (expr_reader_fail_sim  s123_ hr129_) ?_ ?_
        · rintro _ h130_ ⟨f131_, t26, le133_, rfl, rfl, s132_⟩
          refine ⟨t26, rfl, ?_⟩
          try dsimp only at hx127_
          obtain rfl := Option.some.inj hx127_
          exact s_out (()) rfl ⟨f131_, le133_, rfl, s132_⟩
        · rintro _ h134_ ⟨f135_, co138_, ca139_, le137_, rfl, rfl, s136_⟩
          try dsimp only at hx127_
          obtain rfl := Option.some.inj hx127_
          try dsimp only at hd
          obtain rfl := Option.some.inj hd
          exact meet_pan (finOf_pan ⟨f135_, co138_, ca139_, d124_, (le122_.trans le137_), rfl, rfl, s136_⟩)
      · obtain rfl := Option.some.inj hx127_
        exact s_out (()) rfl ⟨f121_, (Sub.refl _), rfl, s123_⟩
    · rintro z25 h141_ ⟨f142_, le143_, rfl, s144_⟩
      try dsimp only at hd
      obtain rfl := Option.some.inj hd
      exact finOf_ret ⟨f142_, z1.2.1, d124_, (le122_.trans le143_), rfl, rfl, s144_⟩

noncomputable def expr_many_D (kind_0 : Int) : Option Int :=
  cond (decide (kind_0 < (4 : Int)))
  (some (0 : Int))
  (cond (kind_0 == (4 : Int))
    (some (1 : Int))
    (some (2 : Int)))
theorem expr_many_sim {φ : Snap} {h : Heap} {F : List Chk} {kind_0 : Int}  (s0 : St φ (F) h) {r : Int} (hd : expr_many_D kind_0 = some r) :
    CallsH Tryd.prog 41 [(.int .i64 kind_0)] h (Back fun v h' => ∃ ψ : Snap, ∃ y : Int, Sub φ ψ ∧ v = ((.one (.atom (.int .i64))) : Sh).val y ∧ y = r ∧ St ψ (F) h') := by
  refine calls_of mixed Tryd.func41 ?_
  rw [expr_many_den]
  unfold expr_many_T
  unfold expr_many_D at hd
  try dsimp only [Ex.kind_mk, Ex.n_mk, Ex.kids_mk] at hd
  refine s_cond hd rfl (fun hb2_ hd => ?_) (fun hb2_ hd => ?_)
  · obtain rfl := Option.some.inj hd
    exact finOf_back ⟨φ, (0 : Int), (Sub.refl _), rfl, rfl, s0⟩
  · refine s_cond hd rfl (fun hb1_ hd => ?_) (fun hb1_ hd => ?_)
    · obtain rfl := Option.some.inj hd
      exact finOf_back ⟨φ, (1 : Int), (Sub.refl _), rfl, rfl, s0⟩
    · obtain rfl := Option.some.inj hd
      exact finOf_back ⟨φ, (2 : Int), (Sub.refl _), rfl, rfl, s0⟩

noncomputable def expr_kid_D (x_0 : Ex) (i_1 : Int) : Option (Int × Int × List Ex) :=
  cond (decide (i_1 ≥ (((List.length x_0.kids) : Nat) : Int)))
  (some ((0 : Int), (0 : Int), ([] : List Ex)))
  ((idx x_0.kids i_1).bind fun e24 =>
    some (e24.kind, e24.n, e24.kids))
theorem expr_kid_sim {φ : Snap} {h : Heap} {F : List Chk} {x_0 : Int × Int × (Option Addr × Nat × Nat) × Unit} {d_x_0_2 : List Ex} {i_1 : Int} (k1_ : Ro.SliceIs exRo φ x_0.2.2.1 d_x_0_2) (s0 : St φ (F) h) {r : (Int × Int × List Ex)} (hd : expr_kid_D (Ex.mk x_0.1 x_0.2.1 d_x_0_2) i_1 = some r) :
    CallsH Tryd.prog 34 [(.agg #[(.int .i64 x_0.1), (.int .i64 x_0.2.1), (.slice x_0.2.2.1.1 x_0.2.2.1.2.1 x_0.2.2.1.2.2)]), (.int .i64 i_1)] h (Back fun v h' => ∃ ψ : Snap, ∃ y : Int × Int × (Option Addr × Nat × Nat) × Unit, ∃ l3_ : List Ex, Sub φ ψ ∧ v = ((.one (.agg [(.int .i64), (.int .i64), .slice])) : Sh).val y ∧ (y.1, y.2.1, l3_) = r ∧ Ro.SliceIs exRo ψ y.2.2.1 l3_ ∧ St ψ (F) h') := by
  refine calls_of mixed Tryd.func34 ?_
  rw [expr_kid_den]
  unfold expr_kid_T
  unfold expr_kid_D at hd
  try dsimp only [Ex.kind_mk, Ex.n_mk, Ex.kids_mk] at hd
  have n2_ : x_0.2.2.1.2.1 = List.length d_x_0_2 := k1_.length
  refine s_new (vs := [.int .i64 x_0.1, .int .i64 x_0.2.1, .slice x_0.2.2.1.1 x_0.2.2.1.2.1 x_0.2.2.1.2.2]) s0 ?_
  intro r1 h5_ s4_
  refine s_new (vs := [.int .i64 (0 : Int), .int .i64 (0 : Int), .slice none 0 0]) s4_ ?_
  intro r2 h7_ s6_
  refine s_loadR (b := r1) (j := 2) (x := x_0.2.2.1) s6_.at1 rfl ?_
  refine s_cond hd (by rw [n2_] <;> rfl) (fun hb41_ hd => ?_) (fun hb41_ hd => ?_)
  · refine s_put (b := r2) (j := 0) (v := .int .i64 (0 : Int)) s6_ rfl (show (0 : Nat) < 3 by decide) ?_
    intro h9_ s8_
    refine s_put (b := r2) (j := 1) (v := .int .i64 (0 : Int)) s8_ rfl (show (1 : Nat) < 3 by decide) ?_
    intro h11_ s10_
    refine s_put (b := r2) (j := 2) (v := .slice none 0 0) s10_ rfl (show (2 : Nat) < 3 by decide) ?_
    intro h13_ s12_
    refine s_loadR (b := r2) (j := 0) (x := (0 : Int)) s12_ rfl ?_
    refine s_loadR (b := r2) (j := 1) (x := (0 : Int)) s12_ rfl ?_
    refine s_loadR (b := r2) (j := 2) (x := ((none, 0, 0) : Slc)) s12_ rfl ?_
    obtain rfl := Option.some.inj hd
    have s14_ := s12_.tail
    have s15_ := s14_.tail
    exact finOf_back ⟨φ, ((0 : Int), (0 : Int), ((none, 0, 0) : Slc), ()), ([] : List Ex), (Sub.refl _), rfl, rfl, (Ro.SliceIs.nil exRo φ), s15_⟩
  · refine s_loadR (b := r1) (j := 2) (x := x_0.2.2.1) s6_.at1 rfl ?_
    obtain ⟨x16_, hx17_, hd⟩ := Option.bind_eq_some_iff.1 hd
    obtain ⟨a18_, cs19_, ea20_, hi21_, q22_, cl23_⟩ := k1_.get hx17_
    refine t_deref _ ea20_ (t_chk hi21_ ?_)
    have q25_ := exRo_open q22_
    obtain ⟨_, _, rfl, q26_, q27_⟩ := q25_
    obtain rfl := q26_
    obtain ⟨_, _, rfl, q28_, q29_⟩ := q27_
    obtain rfl := q28_
    obtain ⟨t30_, rfl, k31_⟩ := q29_
    have n32_ := k31_.length
    refine s_load (x := x16_.kind) (cellS_heap (Sub.trans (Sub.refl _) s6_.sub) (cl23_ 0 _ rfl)) rfl ?_
    refine s_load (x := x16_.n) (by rw [add_add]; exact (cellS_heap (Sub.trans (Sub.refl _) s6_.sub) (cl23_ 1 _ rfl))) rfl ?_
    refine s_load (x := t30_) (by rw [add_add]; exact (cellS_heap (Sub.trans (Sub.refl _) s6_.sub) (cl23_ 2 _ rfl))) rfl ?_
    refine s_put (b := r2) (j := 0) (v := .int .i64 x16_.kind) s6_ rfl (show (0 : Nat) < 3 by decide) ?_
    intro h34_ s33_
    refine s_put (b := r2) (j := 1) (v := .int .i64 x16_.n) s33_ rfl (show (1 : Nat) < 3 by decide) ?_
    intro h36_ s35_
    refine s_put (b := r2) (j := 2) (v := .slice t30_.1 t30_.2.1 t30_.2.2) s35_ rfl (show (2 : Nat) < 3 by decide) ?_
    intro h38_ s37_
    refine s_loadR (b := r2) (j := 0) (x := x16_.kind) s37_ rfl ?_
    refine s_loadR (b := r2) (j := 1) (x := x16_.n) s37_ rfl ?_
    refine s_loadR (b := r2) (j := 2) (x := t30_) s37_ rfl ?_
    obtain rfl := Option.some.inj hd
    have s39_ := s37_.tail
    have s40_ := s39_.tail
    exact finOf_back ⟨φ, (x16_.kind, x16_.n, t30_, ()), x16_.kids, (Sub.refl _), rfl, rfl, k31_, s40_⟩

noncomputable def tronageref20_Reader_now_D (r_0 : (ByteArray × Int × Int × Int × Int)) : Option (Int × (ByteArray × Int × Int × Int × Int)) :=
  (loop (σ := (ByteArray × Int × Int × Int × Int)) (β := (ByteArray × Int × Int × Int × Int)) r_0 fun z2 =>
    (cond (decide ((z2.2.1) < ((ByteArray.size (z2.1) : Nat) : Int)))
    (need (0 ≤ (z2.2.1) ∧ (z2.2.1) < (ByteArray.size (z2.1) : Nat)) <|
      cond (((UInt8.toNat (byteAt (z2.1) (Int.toNat (z2.2.1))) : Nat) : Int) == (32 : Int))
      (some true)
      (need (0 ≤ (z2.2.1) ∧ (z2.2.1) < (ByteArray.size (z2.1) : Nat)) <|
        cond (((UInt8.toNat (byteAt (z2.1) (Int.toNat (z2.2.1))) : Nat) : Int) == (9 : Int))
        (some true)
        (need (0 ≤ (z2.2.1) ∧ (z2.2.1) < (ByteArray.size (z2.1) : Nat)) <|
          cond (((UInt8.toNat (byteAt (z2.1) (Int.toNat (z2.2.1))) : Nat) : Int) == (10 : Int))
          (some true)
          (need (0 ≤ (z2.2.1) ∧ (z2.2.1) < (ByteArray.size (z2.1) : Nat)) <|
            some (((UInt8.toNat (byteAt (z2.1) (Int.toNat (z2.2.1))) : Nat) : Int) == (13 : Int))))))
    (some false)).bind fun z3 =>
    cond z3
    (some (Step.next ((z2.1), (IntKind.wrap .i64 ((z2.2.1) + (1 : Int))), (z2.2.2.1), (z2.2.2.2.1), (z2.2.2.2.2))))
    (some (Step.done z2))).bind fun z1 =>
  cond (decide ((z1.2.1) < ((ByteArray.size (z1.1) : Nat) : Int)))
  (need (0 ≤ (z1.2.1) ∧ (z1.2.1) < (ByteArray.size (z1.1) : Nat)) <|
    some ((IntKind.wrap .i64 ((UInt8.toNat (byteAt (z1.1) (Int.toNat (z1.2.1))) : Nat) : Int)), ((z1.1), (z1.2.1), (z1.2.2.1), (z1.2.2.2.1), (z1.2.2.2.2))))
  (some ((-1 : Int), ((z1.1), (z1.2.1), (z1.2.2.1), (z1.2.2.2.1), (z1.2.2.2.2))))
theorem tronageref20_Reader_now_sim {φ : Snap} {h : Heap} {F : List Chk} {r_0 : Option Addr} {d_r_0 : (ByteArray × Int × Int × Int × Int)}  (s0 : St φ (⟨Rep.obj 51 (Rep.prod (Rep.ro Ro.str) (Rep.prod (Rep.ro (Ro.int .i64)) (Rep.prod (Rep.ro (Ro.int .i64)) (Rep.prod (Rep.ro (Ro.int .i64)) (Rep.ro (Ro.int .i64)))))), [.pointer r_0], d_r_0⟩ :: F) h) {r : (Int × (ByteArray × Int × Int × Int × Int))} (hd : tronageref20_Reader_now_D d_r_0 = some r) :
    CallsH Tryd.prog 28 [(.pointer r_0)] h (Back fun v h' => ∃ ψ : Snap, ∃ y : Int, ∃ l1_ : (ByteArray × Int × Int × Int × Int), Sub φ ψ ∧ v = ((.one (.atom (.int .i64))) : Sh).val y ∧ (y, l1_) = r ∧ St ψ (⟨Rep.obj 51 (Rep.prod (Rep.ro Ro.str) (Rep.prod (Rep.ro (Ro.int .i64)) (Rep.prod (Rep.ro (Ro.int .i64)) (Rep.prod (Rep.ro (Ro.int .i64)) (Rep.ro (Ro.int .i64)))))), [.pointer r_0], l1_⟩ :: F) h') := by
  refine calls_of mixed Tryd.func28 ?_
  rw [tronageref20_Reader_now_den]
  unfold tronageref20_Reader_now_T
  unfold tronageref20_Reader_now_D at hd
  try dsimp only [Ex.kind_mk, Ex.n_mk, Ex.kids_mk] at hd
  obtain ⟨g3_, hx4_, hd⟩ := Option.bind_eq_some_iff.1 hd
  refine s_block (fun (y : Unit) w_ g => ∃ ψ : Snap, ∃ l5_ : (ByteArray × Int × Int × Int × Int), Sub φ ψ ∧ l5_ = g ∧ St ψ (⟨Rep.obj 51 (Rep.prod (Rep.ro Ro.str) (Rep.prod (Rep.ro (Ro.int .i64)) (Rep.prod (Rep.ro (Ro.int .i64)) (Rep.prod (Rep.ro (Ro.int .i64)) (Rep.ro (Ro.int .i64)))))), [.pointer r_0], l5_⟩ :: F) w_) (g := g3_) ?_ ?_
  · refine s_loop hx4_ (fun (y : Unit) w_ g => ∃ ψ : Snap, ∃ l6_ : (ByteArray × Int × Int × Int × Int), Sub φ ψ ∧ l6_ = g ∧ St ψ (⟨Rep.obj 51 (Rep.prod (Rep.ro Ro.str) (Rep.prod (Rep.ro (Ro.int .i64)) (Rep.prod (Rep.ro (Ro.int .i64)) (Rep.prod (Rep.ro (Ro.int .i64)) (Rep.ro (Ro.int .i64)))))), [.pointer r_0], l6_⟩ :: F) w_) (()) rfl ⟨φ, d_r_0, (Sub.refl _), rfl, s0⟩ ?_
    · rintro z2 h12_ _ _ ⟨f9_, d13_, le10_, rfl, s11_⟩ he7_ hb8_
      try dsimp only at he7_
      obtain ⟨g14_, hx15_, he7_⟩ := Option.bind_eq_some_iff.1 he7_
      refine s_join (fun (y : Bool × Unit) w_ g => ∃ ψ : Snap, Sub f9_ ψ ∧ y.1 = g ∧ St ψ (⟨Rep.obj 51 (Rep.prod (Rep.ro Ro.str) (Rep.prod (Rep.ro (Ro.int .i64)) (Rep.prod (Rep.ro (Ro.int .i64)) (Rep.prod (Rep.ro (Ro.int .i64)) (Rep.ro (Ro.int .i64)))))), [.pointer r_0], d13_⟩ :: F) w_) (g := g14_) ?_ ?_
      · obtain ⟨b16_, vs17_, e18_, hl19_, s20_⟩ := s11_.open
        obtain rfl : r_0 = some ⟨b16_, 0, none⟩ := by simpa using e18_
        clear e18_
        have s21_ := s20_.at1
        obtain ⟨v22_, w23_, rfl, hl25_, s24_⟩ := s21_.pair
        obtain ⟨g26_, s27_⟩ := s24_.ro
        subst g26_
        obtain ⟨v29_, w30_, rfl, hl32_, s31_⟩ := s27_.pair
        obtain ⟨g33_, s34_⟩ := s31_.ro
        subst g33_
        obtain ⟨v36_, w37_, rfl, hl39_, s38_⟩ := s34_.pair
        obtain ⟨g40_, s41_⟩ := s38_.ro
        subst g40_
        obtain ⟨v43_, w44_, rfl, hl46_, s45_⟩ := s41_.pair
        obtain ⟨g47_, s48_⟩ := s45_.ro
        subst g47_
        obtain ⟨g50_, s51_⟩ := s48_.ro
        subst g50_
        have s53_ : St f9_ (⟨Rep.raw 51, [.pointer (some ⟨b16_, 0, none⟩)], [.string (d13_.1), .int .i64 (d13_.2.1), .int .i64 (d13_.2.2.1), .int .i64 (d13_.2.2.2.1), .int .i64 (d13_.2.2.2.2)]⟩ :: F) _ := s51_
        refine t_deref _ rfl ?_
        refine s_loadR (b := b16_) (j := 1) (x := (d13_.2.1)) s53_ rfl ?_
        refine t_deref _ rfl ?_
        refine s_loadR (b := b16_) (j := 0) (x := (d13_.1)) s53_ rfl ?_
        refine s_cond hx15_ rfl (fun hb111_ hx15_ => ?_) (fun hb111_ hx15_ => ?_)
        · refine t_deref _ rfl ?_
          refine s_loadR (b := b16_) (j := 0) (x := (d13_.1)) s53_ rfl ?_
          refine t_deref _ rfl ?_
          refine s_loadR (b := b16_) (j := 1) (x := (d13_.2.1)) s53_ rfl ?_
          refine s_chk hx15_ id fun hp54_ hx15_ => ?_
          refine s_cond hx15_ rfl (fun hb100_ hx15_ => ?_) (fun hb100_ hx15_ => ?_)
          · have s55_ := St.unro (r := (Ro.int .i64)) (cs := [.int .i64 (d13_.2.2.2.2)]) (x := (d13_.2.2.2.2)) s53_ rfl
            have s56_ := St.unro (r := (Ro.int .i64)) (cs := [.int .i64 (d13_.2.2.2.1)]) (x := (d13_.2.2.2.1)) s55_ rfl
            have s57_ := St.unpair s56_
            have s58_ := St.unro (r := (Ro.int .i64)) (cs := [.int .i64 (d13_.2.2.1)]) (x := (d13_.2.2.1)) s57_ rfl
            have s59_ := St.unpair s58_
            have s60_ := St.unro (r := (Ro.int .i64)) (cs := [.int .i64 (d13_.2.1)]) (x := (d13_.2.1)) s59_ rfl
            have s61_ := St.unpair s60_
            have s62_ := St.unro (r := Ro.str) (cs := [.string (d13_.1)]) (x := (d13_.1)) s61_ rfl
            have s63_ := St.unpair s62_
            have s64_ : St f9_ (⟨Rep.obj 51 (Rep.prod (Rep.ro Ro.str) (Rep.prod (Rep.ro (Ro.int .i64)) (Rep.prod (Rep.ro (Ro.int .i64)) (Rep.prod (Rep.ro (Ro.int .i64)) (Rep.ro (Ro.int .i64)))))), [.pointer (some ⟨b16_, 0, none⟩)], ((d13_.1), (d13_.2.1), (d13_.2.2.1), (d13_.2.2.2.1), (d13_.2.2.2.2))⟩ :: F) _ := St.shut s63_.at1
            obtain rfl := Option.some.inj hx15_
            exact s_out (true, ()) rfl ⟨f9_, (Sub.refl _), rfl, s64_⟩
          · refine t_deref _ rfl ?_
            refine s_loadR (b := b16_) (j := 0) (x := (d13_.1)) s53_ rfl ?_
            refine t_deref _ rfl ?_
            refine s_loadR (b := b16_) (j := 1) (x := (d13_.2.1)) s53_ rfl ?_
            refine s_chk hx15_ id fun hp65_ hx15_ => ?_
            refine s_cond hx15_ rfl (fun hb99_ hx15_ => ?_) (fun hb99_ hx15_ => ?_)
            · have s66_ := St.unro (r := (Ro.int .i64)) (cs := [.int .i64 (d13_.2.2.2.2)]) (x := (d13_.2.2.2.2)) s53_ rfl
              have s67_ := St.unro (r := (Ro.int .i64)) (cs := [.int .i64 (d13_.2.2.2.1)]) (x := (d13_.2.2.2.1)) s66_ rfl
              have s68_ := St.unpair s67_
              have s69_ := St.unro (r := (Ro.int .i64)) (cs := [.int .i64 (d13_.2.2.1)]) (x := (d13_.2.2.1)) s68_ rfl
              have s70_ := St.unpair s69_
              have s71_ := St.unro (r := (Ro.int .i64)) (cs := [.int .i64 (d13_.2.1)]) (x := (d13_.2.1)) s70_ rfl
              have s72_ := St.unpair s71_
              have s73_ := St.unro (r := Ro.str) (cs := [.string (d13_.1)]) (x := (d13_.1)) s72_ rfl
              have s74_ := St.unpair s73_
              have s75_ : St f9_ (⟨Rep.obj 51 (Rep.prod (Rep.ro Ro.str) (Rep.prod (Rep.ro (Ro.int .i64)) (Rep.prod (Rep.ro (Ro.int .i64)) (Rep.prod (Rep.ro (Ro.int .i64)) (Rep.ro (Ro.int .i64)))))), [.pointer (some ⟨b16_, 0, none⟩)], ((d13_.1), (d13_.2.1), (d13_.2.2.1), (d13_.2.2.2.1), (d13_.2.2.2.2))⟩ :: F) _ := St.shut s74_.at1
              obtain rfl := Option.some.inj hx15_
              exact s_out (true, ()) rfl ⟨f9_, (Sub.refl _), rfl, s75_⟩
            · refine t_deref _ rfl ?_
              refine s_loadR (b := b16_) (j := 0) (x := (d13_.1)) s53_ rfl ?_
              refine t_deref _ rfl ?_
              refine s_loadR (b := b16_) (j := 1) (x := (d13_.2.1)) s53_ rfl ?_
              refine s_chk hx15_ id fun hp76_ hx15_ => ?_
              refine s_cond hx15_ rfl (fun hb98_ hx15_ => ?_) (fun hb98_ hx15_ => ?_)
              · have s77_ := St.unro (r := (Ro.int .i64)) (cs := [.int .i64 (d13_.2.2.2.2)]) (x := (d13_.2.2.2.2)) s53_ rfl
                have s78_ := St.unro (r := (Ro.int .i64)) (cs := [.int .i64 (d13_.2.2.2.1)]) (x := (d13_.2.2.2.1)) s77_ rfl
                have s79_ := St.unpair s78_
                have s80_ := St.unro (r := (Ro.int .i64)) (cs := [.int .i64 (d13_.2.2.1)]) (x := (d13_.2.2.1)) s79_ rfl
                have s81_ := St.unpair s80_
                have s82_ := St.unro (r := (Ro.int .i64)) (cs := [.int .i64 (d13_.2.1)]) (x := (d13_.2.1)) s81_ rfl
                have s83_ := St.unpair s82_
                have s84_ := St.unro (r := Ro.str) (cs := [.string (d13_.1)]) (x := (d13_.1)) s83_ rfl
                have s85_ := St.unpair s84_
                have s86_ : St f9_ (⟨Rep.obj 51 (Rep.prod (Rep.ro Ro.str) (Rep.prod (Rep.ro (Ro.int .i64)) (Rep.prod (Rep.ro (Ro.int .i64)) (Rep.prod (Rep.ro (Ro.int .i64)) (Rep.ro (Ro.int .i64)))))), [.pointer (some ⟨b16_, 0, none⟩)], ((d13_.1), (d13_.2.1), (d13_.2.2.1), (d13_.2.2.2.1), (d13_.2.2.2.2))⟩ :: F) _ := St.shut s85_.at1
                obtain rfl := Option.some.inj hx15_
                exact s_out (true, ()) rfl ⟨f9_, (Sub.refl _), rfl, s86_⟩
              · refine t_deref _ rfl ?_
                refine s_loadR (b := b16_) (j := 0) (x := (d13_.1)) s53_ rfl ?_
                refine t_deref _ rfl ?_
                refine s_loadR (b := b16_) (j := 1) (x := (d13_.2.1)) s53_ rfl ?_
                refine s_chk hx15_ id fun hp87_ hx15_ => ?_
                have s88_ := St.unro (r := (Ro.int .i64)) (cs := [.int .i64 (d13_.2.2.2.2)]) (x := (d13_.2.2.2.2)) s53_ rfl
                have s89_ := St.unro (r := (Ro.int .i64)) (cs := [.int .i64 (d13_.2.2.2.1)]) (x := (d13_.2.2.2.1)) s88_ rfl
                have s90_ := St.unpair s89_
                have s91_ := St.unro (r := (Ro.int .i64)) (cs := [.int .i64 (d13_.2.2.1)]) (x := (d13_.2.2.1)) s90_ rfl
                have s92_ := St.unpair s91_
                have s93_ := St.unro (r := (Ro.int .i64)) (cs := [.int .i64 (d13_.2.1)]) (x := (d13_.2.1)) s92_ rfl
                have s94_ := St.unpair s93_
                have s95_ := St.unro (r := Ro.str) (cs := [.string (d13_.1)]) (x := (d13_.1)) s94_ rfl
                have s96_ := St.unpair s95_
                have s97_ : St f9_ (⟨Rep.obj 51 (Rep.prod (Rep.ro Ro.str) (Rep.prod (Rep.ro (Ro.int .i64)) (Rep.prod (Rep.ro (Ro.int .i64)) (Rep.prod (Rep.ro (Ro.int .i64)) (Rep.ro (Ro.int .i64)))))), [.pointer (some ⟨b16_, 0, none⟩)], ((d13_.1), (d13_.2.1), (d13_.2.2.1), (d13_.2.2.2.1), (d13_.2.2.2.2))⟩ :: F) _ := St.shut s96_.at1
                obtain rfl := Option.some.inj hx15_
                exact s_out ((((UInt8.toNat (byteAt (d13_.1) (Int.toNat (d13_.2.1))) : Nat) : Int) == (13 : Int)), ()) rfl ⟨f9_, (Sub.refl _), rfl, s97_⟩
        · have s101_ := St.unro (r := (Ro.int .i64)) (cs := [.int .i64 (d13_.2.2.2.2)]) (x := (d13_.2.2.2.2)) s53_ rfl
          have s102_ := St.unro (r := (Ro.int .i64)) (cs := [.int .i64 (d13_.2.2.2.1)]) (x := (d13_.2.2.2.1)) s101_ rfl
          have s103_ := St.unpair s102_
          have s104_ := St.unro (r := (Ro.int .i64)) (cs := [.int .i64 (d13_.2.2.1)]) (x := (d13_.2.2.1)) s103_ rfl
          have s105_ := St.unpair s104_
          have s106_ := St.unro (r := (Ro.int .i64)) (cs := [.int .i64 (d13_.2.1)]) (x := (d13_.2.1)) s105_ rfl
          have s107_ := St.unpair s106_
          have s108_ := St.unro (r := Ro.str) (cs := [.string (d13_.1)]) (x := (d13_.1)) s107_ rfl
          have s109_ := St.unpair s108_
          have s110_ : St f9_ (⟨Rep.obj 51 (Rep.prod (Rep.ro Ro.str) (Rep.prod (Rep.ro (Ro.int .i64)) (Rep.prod (Rep.ro (Ro.int .i64)) (Rep.prod (Rep.ro (Ro.int .i64)) (Rep.ro (Ro.int .i64)))))), [.pointer (some ⟨b16_, 0, none⟩)], ((d13_.1), (d13_.2.1), (d13_.2.2.1), (d13_.2.2.2.1), (d13_.2.2.2.2))⟩ :: F) _ := St.shut s109_.at1
          obtain rfl := Option.some.inj hx15_
          exact s_out (false, ()) rfl ⟨f9_, (Sub.refl _), rfl, s110_⟩
      · rintro z3 h112_ ⟨f113_, le114_, rfl, s115_⟩
        try dsimp only at he7_
        refine s_cond he7_ rfl (fun hb166_ he7_ => ?_) (fun hb166_ he7_ => ?_)
        · obtain ⟨b116_, vs117_, e118_, hl119_, s120_⟩ := s115_.open
          obtain rfl : r_0 = some ⟨b116_, 0, none⟩ := by simpa using e118_
          clear e118_
          have s121_ := s120_.at1
          obtain ⟨v122_, w123_, rfl, hl125_, s124_⟩ := s121_.pair
          obtain ⟨g126_, s127_⟩ := s124_.ro
          subst g126_
          obtain ⟨v129_, w130_, rfl, hl132_, s131_⟩ := s127_.pair
          obtain ⟨g133_, s134_⟩ := s131_.ro
          subst g133_
          obtain ⟨v136_, w137_, rfl, hl139_, s138_⟩ := s134_.pair
          obtain ⟨g140_, s141_⟩ := s138_.ro
          subst g140_
          obtain ⟨v143_, w144_, rfl, hl146_, s145_⟩ := s141_.pair
          obtain ⟨g147_, s148_⟩ := s145_.ro
          subst g147_
          obtain ⟨g150_, s151_⟩ := s148_.ro
          subst g150_
          have s153_ : St f113_ (⟨Rep.raw 51, [.pointer (some ⟨b116_, 0, none⟩)], [.string (d13_.1), .int .i64 (d13_.2.1), .int .i64 (d13_.2.2.1), .int .i64 (d13_.2.2.2.1), .int .i64 (d13_.2.2.2.2)]⟩ :: F) _ := s151_
          refine t_deref _ rfl ?_
          refine s_loadR (b := b116_) (j := 1) (x := (d13_.2.1)) s153_ rfl ?_
          refine t_deref _ rfl ?_
          refine s_put (b := b116_) (j := 1) (v := .int .i64 (IntKind.wrap .i64 ((d13_.2.1) + (1 : Int)))) s153_ rfl (show (1 : Nat) < 5 by decide) ?_
          intro h155_ s154_
          have s156_ := St.unro (r := (Ro.int .i64)) (cs := [.int .i64 (d13_.2.2.2.2)]) (x := (d13_.2.2.2.2)) s154_ rfl
          have s157_ := St.unro (r := (Ro.int .i64)) (cs := [.int .i64 (d13_.2.2.2.1)]) (x := (d13_.2.2.2.1)) s156_ rfl
          have s158_ := St.unpair s157_
          have s159_ := St.unro (r := (Ro.int .i64)) (cs := [.int .i64 (d13_.2.2.1)]) (x := (d13_.2.2.1)) s158_ rfl
          have s160_ := St.unpair s159_
          have s161_ := St.unro (r := (Ro.int .i64)) (cs := [.int .i64 (IntKind.wrap .i64 ((d13_.2.1) + (1 : Int)))]) (x := (IntKind.wrap .i64 ((d13_.2.1) + (1 : Int)))) s160_ rfl
          have s162_ := St.unpair s161_
          have s163_ := St.unro (r := Ro.str) (cs := [.string (d13_.1)]) (x := (d13_.1)) s162_ rfl
          have s164_ := St.unpair s163_
          have s165_ : St f113_ (⟨Rep.obj 51 (Rep.prod (Rep.ro Ro.str) (Rep.prod (Rep.ro (Ro.int .i64)) (Rep.prod (Rep.ro (Ro.int .i64)) (Rep.prod (Rep.ro (Ro.int .i64)) (Rep.ro (Ro.int .i64)))))), [.pointer (some ⟨b116_, 0, none⟩)], ((d13_.1), (IntKind.wrap .i64 ((d13_.2.1) + (1 : Int))), (d13_.2.2.1), (d13_.2.2.2.1), (d13_.2.2.2.2))⟩ :: F) _ := St.shut s164_.at1
          obtain rfl := Option.some.inj he7_
          exact s_next (()) _ rfl rfl ⟨f113_, ((d13_.1), (IntKind.wrap .i64 ((d13_.2.1) + (1 : Int))), (d13_.2.2.1), (d13_.2.2.2.1), (d13_.2.2.2.2)), (le10_.trans le114_), rfl, s165_⟩
        · obtain rfl := Option.some.inj he7_
          obtain rfl := hb8_ _ rfl
          exact around_brk (meetB_brk (()) rfl ⟨f113_, d13_, (le10_.trans le114_), rfl, s115_⟩)
  · rintro z1 h167_ ⟨f168_, d171_, le169_, rfl, s170_⟩
    try dsimp only at hd
    obtain ⟨b173_, vs174_, e175_, hl176_, s177_⟩ := s170_.open
    obtain rfl : r_0 = some ⟨b173_, 0, none⟩ := by simpa using e175_
    clear e175_
    have s178_ := s177_.at1
    obtain ⟨v179_, w180_, rfl, hl182_, s181_⟩ := s178_.pair
    obtain ⟨g183_, s184_⟩ := s181_.ro
    subst g183_
    obtain ⟨v186_, w187_, rfl, hl189_, s188_⟩ := s184_.pair
    obtain ⟨g190_, s191_⟩ := s188_.ro
    subst g190_
    obtain ⟨v193_, w194_, rfl, hl196_, s195_⟩ := s191_.pair
    obtain ⟨g197_, s198_⟩ := s195_.ro
    subst g197_
    obtain ⟨v200_, w201_, rfl, hl203_, s202_⟩ := s198_.pair
    obtain ⟨g204_, s205_⟩ := s202_.ro
    subst g204_
    obtain ⟨g207_, s208_⟩ := s205_.ro
    subst g207_
    have s210_ : St f168_ (⟨Rep.raw 51, [.pointer (some ⟨b173_, 0, none⟩)], [.string (d171_.1), .int .i64 (d171_.2.1), .int .i64 (d171_.2.2.1), .int .i64 (d171_.2.2.2.1), .int .i64 (d171_.2.2.2.2)]⟩ :: F) _ := s208_
    refine t_deref _ rfl ?_
    refine s_loadR (b := b173_) (j := 1) (x := (d171_.2.1)) s210_ rfl ?_
    refine t_deref _ rfl ?_
    refine s_loadR (b := b173_) (j := 0) (x := (d171_.1)) s210_ rfl ?_
    refine s_cond hd rfl (fun hb232_ hd => ?_) (fun hb232_ hd => ?_)
    · refine t_deref _ rfl ?_
      refine s_loadR (b := b173_) (j := 0) (x := (d171_.1)) s210_ rfl ?_
      refine t_deref _ rfl ?_
      refine s_loadR (b := b173_) (j := 1) (x := (d171_.2.1)) s210_ rfl ?_
      refine s_chk hd id fun hp211_ hd => ?_
      have s212_ := St.unro (r := (Ro.int .i64)) (cs := [.int .i64 (d171_.2.2.2.2)]) (x := (d171_.2.2.2.2)) s210_ rfl
      have s213_ := St.unro (r := (Ro.int .i64)) (cs := [.int .i64 (d171_.2.2.2.1)]) (x := (d171_.2.2.2.1)) s212_ rfl
      have s214_ := St.unpair s213_
      have s215_ := St.unro (r := (Ro.int .i64)) (cs := [.int .i64 (d171_.2.2.1)]) (x := (d171_.2.2.1)) s214_ rfl
      have s216_ := St.unpair s215_
      have s217_ := St.unro (r := (Ro.int .i64)) (cs := [.int .i64 (d171_.2.1)]) (x := (d171_.2.1)) s216_ rfl
      have s218_ := St.unpair s217_
      have s219_ := St.unro (r := Ro.str) (cs := [.string (d171_.1)]) (x := (d171_.1)) s218_ rfl
      have s220_ := St.unpair s219_
      have s221_ : St f168_ (⟨Rep.obj 51 (Rep.prod (Rep.ro Ro.str) (Rep.prod (Rep.ro (Ro.int .i64)) (Rep.prod (Rep.ro (Ro.int .i64)) (Rep.prod (Rep.ro (Ro.int .i64)) (Rep.ro (Ro.int .i64)))))), [.pointer (some ⟨b173_, 0, none⟩)], ((d171_.1), (d171_.2.1), (d171_.2.2.1), (d171_.2.2.2.1), (d171_.2.2.2.2))⟩ :: F) _ := St.shut s220_.at1
      obtain rfl := Option.some.inj hd
      exact finOf_back ⟨f168_, (IntKind.wrap .i64 ((UInt8.toNat (byteAt (d171_.1) (Int.toNat (d171_.2.1))) : Nat) : Int)), ((d171_.1), (d171_.2.1), (d171_.2.2.1), (d171_.2.2.2.1), (d171_.2.2.2.2)), le169_, rfl, rfl, s221_⟩
    · have s222_ := St.unro (r := (Ro.int .i64)) (cs := [.int .i64 (d171_.2.2.2.2)]) (x := (d171_.2.2.2.2)) s210_ rfl
      have s223_ := St.unro (r := (Ro.int .i64)) (cs := [.int .i64 (d171_.2.2.2.1)]) (x := (d171_.2.2.2.1)) s222_ rfl
      have s224_ := St.unpair s223_
      have s225_ := St.unro (r := (Ro.int .i64)) (cs := [.int .i64 (d171_.2.2.1)]) (x := (d171_.2.2.1)) s224_ rfl
      have s226_ := St.unpair s225_
      have s227_ := St.unro (r := (Ro.int .i64)) (cs := [.int .i64 (d171_.2.1)]) (x := (d171_.2.1)) s226_ rfl
      have s228_ := St.unpair s227_
      have s229_ := St.unro (r := Ro.str) (cs := [.string (d171_.1)]) (x := (d171_.1)) s228_ rfl
      have s230_ := St.unpair s229_
      have s231_ : St f168_ (⟨Rep.obj 51 (Rep.prod (Rep.ro Ro.str) (Rep.prod (Rep.ro (Ro.int .i64)) (Rep.prod (Rep.ro (Ro.int .i64)) (Rep.prod (Rep.ro (Ro.int .i64)) (Rep.ro (Ro.int .i64)))))), [.pointer (some ⟨b173_, 0, none⟩)], ((d171_.1), (d171_.2.1), (d171_.2.2.1), (d171_.2.2.2.1), (d171_.2.2.2.2))⟩ :: F) _ := St.shut s230_.at1
      obtain rfl := Option.some.inj hd
      exact finOf_back ⟨f168_, (-1 : Int), ((d171_.1), (d171_.2.1), (d171_.2.2.1), (d171_.2.2.2.1), (d171_.2.2.2.2)), le169_, rfl, rfl, s231_⟩

noncomputable def tronageref20_Reader_fail_D (r_0 : (ByteArray × Int × Int × Int × Int)) (code_1 : Int) : Option (ByteArray × Int × Int × Int × Int) :=
  (cond ((r_0.2.2.2.1) == (0 : Int))
  (some ((((r_0.1), (r_0.2.1), (r_0.2.2.1), (r_0.2.2.2.1), (r_0.2.2.2.2)).1), (((r_0.1), (r_0.2.1), (r_0.2.2.1), (r_0.2.2.2.1), (r_0.2.2.2.2)).2.1), (((r_0.1), (r_0.2.1), (r_0.2.2.1), (r_0.2.2.2.1), (r_0.2.2.2.2)).2.2.1), code_1, (((r_0.1), (r_0.2.1), (r_0.2.2.1), (r_0.2.2.2.1), (r_0.2.2.2.2)).2.1)))
  (some ((r_0.1), (r_0.2.1), (r_0.2.2.1), (r_0.2.2.2.1), (r_0.2.2.2.2)))).bind fun z3 =>
  some z3
theorem tronageref20_Reader_fail_sim {φ : Snap} {h : Heap} {F : List Chk} {r_0 : Option Addr} {d_r_0 : (ByteArray × Int × Int × Int × Int)} {code_1 : Int}  (s0 : St φ (⟨Rep.obj 51 (Rep.prod (Rep.ro Ro.str) (Rep.prod (Rep.ro (Ro.int .i64)) (Rep.prod (Rep.ro (Ro.int .i64)) (Rep.prod (Rep.ro (Ro.int .i64)) (Rep.ro (Ro.int .i64)))))), [.pointer r_0], d_r_0⟩ :: F) h) {r : (ByteArray × Int × Int × Int × Int)} (hd : tronageref20_Reader_fail_D d_r_0 code_1 = some r) :
    CallsH Tryd.prog 30 [(.pointer r_0), (.int .i64 code_1)] h (Back fun v h' => ∃ ψ : Snap, ∃ y : Unit, ∃ l1_ : (ByteArray × Int × Int × Int × Int), Sub φ ψ ∧ v = ((.tuple []) : Sh).val y ∧ l1_ = r ∧ St ψ (⟨Rep.obj 51 (Rep.prod (Rep.ro Ro.str) (Rep.prod (Rep.ro (Ro.int .i64)) (Rep.prod (Rep.ro (Ro.int .i64)) (Rep.prod (Rep.ro (Ro.int .i64)) (Rep.ro (Ro.int .i64)))))), [.pointer r_0], l1_⟩ :: F) h') := by
  refine calls_of mixed Tryd.func30 ?_
  rw [tronageref20_Reader_fail_den]
  unfold tronageref20_Reader_fail_T
  unfold tronageref20_Reader_fail_D at hd
  try dsimp only [Ex.kind_mk, Ex.n_mk, Ex.kids_mk] at hd
  obtain ⟨b3_, vs4_, e5_, hl6_, s7_⟩ := s0.open
  obtain rfl : r_0 = some ⟨b3_, 0, none⟩ := by simpa using e5_
  clear e5_
  have s8_ := s7_.at1
  obtain ⟨v9_, w10_, rfl, hl12_, s11_⟩ := s8_.pair
  obtain ⟨g13_, s14_⟩ := s11_.ro
  subst g13_
  obtain ⟨v16_, w17_, rfl, hl19_, s18_⟩ := s14_.pair
  obtain ⟨g20_, s21_⟩ := s18_.ro
  subst g20_
  obtain ⟨v23_, w24_, rfl, hl26_, s25_⟩ := s21_.pair
  obtain ⟨g27_, s28_⟩ := s25_.ro
  subst g27_
  obtain ⟨v30_, w31_, rfl, hl33_, s32_⟩ := s28_.pair
  obtain ⟨g34_, s35_⟩ := s32_.ro
  subst g34_
  obtain ⟨g37_, s38_⟩ := s35_.ro
  subst g37_
  have s40_ : St φ (⟨Rep.raw 51, [.pointer (some ⟨b3_, 0, none⟩)], [.string (d_r_0.1), .int .i64 (d_r_0.2.1), .int .i64 (d_r_0.2.2.1), .int .i64 (d_r_0.2.2.2.1), .int .i64 (d_r_0.2.2.2.2)]⟩ :: F) _ := s38_
  refine t_deref _ rfl ?_
  refine s_loadR (b := b3_) (j := 3) (x := (d_r_0.2.2.2.1)) s40_ rfl ?_
  have s41_ := St.unro (r := (Ro.int .i64)) (cs := [.int .i64 (d_r_0.2.2.2.2)]) (x := (d_r_0.2.2.2.2)) s40_ rfl
  have s42_ := St.unro (r := (Ro.int .i64)) (cs := [.int .i64 (d_r_0.2.2.2.1)]) (x := (d_r_0.2.2.2.1)) s41_ rfl
  have s43_ := St.unpair s42_
  have s44_ := St.unro (r := (Ro.int .i64)) (cs := [.int .i64 (d_r_0.2.2.1)]) (x := (d_r_0.2.2.1)) s43_ rfl
  have s45_ := St.unpair s44_
  have s46_ := St.unro (r := (Ro.int .i64)) (cs := [.int .i64 (d_r_0.2.1)]) (x := (d_r_0.2.1)) s45_ rfl
  have s47_ := St.unpair s46_
  have s48_ := St.unro (r := Ro.str) (cs := [.string (d_r_0.1)]) (x := (d_r_0.1)) s47_ rfl
  have s49_ := St.unpair s48_
  have s50_ : St φ (⟨Rep.obj 51 (Rep.prod (Rep.ro Ro.str) (Rep.prod (Rep.ro (Ro.int .i64)) (Rep.prod (Rep.ro (Ro.int .i64)) (Rep.prod (Rep.ro (Ro.int .i64)) (Rep.ro (Ro.int .i64)))))), [.pointer (some ⟨b3_, 0, none⟩)], ((d_r_0.1), (d_r_0.2.1), (d_r_0.2.2.1), (d_r_0.2.2.2.1), (d_r_0.2.2.2.2))⟩ :: F) _ := St.shut s49_.at1
  obtain ⟨g51_, hx52_, hd⟩ := Option.bind_eq_some_iff.1 hd
  refine s_join (fun (y : Unit) w_ g => ∃ ψ : Snap, ∃ l53_ : (ByteArray × Int × Int × Int × Int), Sub φ ψ ∧ l53_ = g ∧ St ψ (⟨Rep.obj 51 (Rep.prod (Rep.ro Ro.str) (Rep.prod (Rep.ro (Ro.int .i64)) (Rep.prod (Rep.ro (Ro.int .i64)) (Rep.prod (Rep.ro (Ro.int .i64)) (Rep.ro (Ro.int .i64)))))), [.pointer (some ⟨b3_, 0, none⟩)], l53_⟩ :: F) w_) (g := g51_) ?_ ?_
  · refine s_cond hx52_ rfl (fun hb106_ hx52_ => ?_) (fun hb106_ hx52_ => ?_)
    · obtain ⟨b54_, vs55_, e56_, hl57_, s58_⟩ := s50_.open
      obtain rfl : b3_ = b54_ := by simpa using e56_
      clear e56_
      have s59_ := s58_.at1
      obtain ⟨v60_, w61_, rfl, hl63_, s62_⟩ := s59_.pair
      obtain ⟨g64_, s65_⟩ := s62_.ro
      subst g64_
      obtain ⟨v67_, w68_, rfl, hl70_, s69_⟩ := s65_.pair
      obtain ⟨g71_, s72_⟩ := s69_.ro
      subst g71_
      obtain ⟨v74_, w75_, rfl, hl77_, s76_⟩ := s72_.pair
      obtain ⟨g78_, s79_⟩ := s76_.ro
      subst g78_
      obtain ⟨v81_, w82_, rfl, hl84_, s83_⟩ := s79_.pair
      obtain ⟨g85_, s86_⟩ := s83_.ro
      subst g85_
      obtain ⟨g88_, s89_⟩ := s86_.ro
      subst g88_
      have s91_ : St φ (⟨Rep.raw 51, [.pointer (some ⟨b3_, 0, none⟩)], [.string ((d_r_0.1)), .int .i64 ((d_r_0.2.1)), .int .i64 ((d_r_0.2.2.1)), .int .i64 ((d_r_0.2.2.2.1)), .int .i64 ((d_r_0.2.2.2.2))]⟩ :: F) _ := s89_
      refine t_deref _ rfl ?_
      refine s_put (b := b3_) (j := 3) (v := .int .i64 code_1) s91_ rfl (show (3 : Nat) < 5 by decide) ?_
      intro h93_ s92_
      refine t_deref _ rfl ?_
      refine s_loadR (b := b3_) (j := 1) (x := ((d_r_0.2.1))) s92_ rfl ?_
      refine t_deref _ rfl ?_
      refine s_put (b := b3_) (j := 4) (v := .int .i64 ((d_r_0.2.1))) s92_ rfl (show (4 : Nat) < 5 by decide) ?_
      intro h95_ s94_
      have s96_ := St.unro (r := (Ro.int .i64)) (cs := [.int .i64 ((d_r_0.2.1))]) (x := ((d_r_0.2.1))) s94_ rfl
      have s97_ := St.unro (r := (Ro.int .i64)) (cs := [.int .i64 code_1]) (x := code_1) s96_ rfl
      have s98_ := St.unpair s97_
      have s99_ := St.unro (r := (Ro.int .i64)) (cs := [.int .i64 ((d_r_0.2.2.1))]) (x := ((d_r_0.2.2.1))) s98_ rfl
      have s100_ := St.unpair s99_
      have s101_ := St.unro (r := (Ro.int .i64)) (cs := [.int .i64 ((d_r_0.2.1))]) (x := ((d_r_0.2.1))) s100_ rfl
      have s102_ := St.unpair s101_
      have s103_ := St.unro (r := Ro.str) (cs := [.string ((d_r_0.1))]) (x := ((d_r_0.1))) s102_ rfl
      have s104_ := St.unpair s103_
      have s105_ : St φ (⟨Rep.obj 51 (Rep.prod (Rep.ro Ro.str) (Rep.prod (Rep.ro (Ro.int .i64)) (Rep.prod (Rep.ro (Ro.int .i64)) (Rep.prod (Rep.ro (Ro.int .i64)) (Rep.ro (Ro.int .i64)))))), [.pointer (some ⟨b3_, 0, none⟩)], (((d_r_0.1)), ((d_r_0.2.1)), ((d_r_0.2.2.1)), code_1, ((d_r_0.2.1)))⟩ :: F) _ := St.shut s104_.at1
      obtain rfl := Option.some.inj hx52_
      exact s_out (()) rfl ⟨φ, (((d_r_0.1)), ((d_r_0.2.1)), ((d_r_0.2.2.1)), code_1, ((d_r_0.2.1))), (Sub.refl _), rfl, s105_⟩
    · obtain rfl := Option.some.inj hx52_
      exact s_out (()) rfl ⟨φ, ((d_r_0.1), (d_r_0.2.1), (d_r_0.2.2.1), (d_r_0.2.2.2.1), (d_r_0.2.2.2.2)), (Sub.refl _), rfl, s50_⟩
  · rintro z3 h107_ ⟨f108_, d111_, le109_, rfl, s110_⟩
    try dsimp only at hd
    obtain rfl := Option.some.inj hd
    exact finOf_back ⟨f108_, (()), d111_, le109_, rfl, rfl, s110_⟩

noncomputable def tronageref20_Reader_number_D (r_0 : (ByteArray × Int × Int × Int × Int)) : Option (Int × (ByteArray × Int × Int × Int × Int)) :=
  (loop (σ := (Int × Int × (ByteArray × Int × Int × Int × Int))) (β := Step (Int × Int × (ByteArray × Int × Int × Int × Int)) (Int × (ByteArray × Int × Int × Int × Int))) ((0 : Int), (0 : Int), r_0) fun z2 =>
    (cond (decide ((z2.2.2.2.1) < ((ByteArray.size (z2.2.2.1) : Nat) : Int)))
    (need (0 ≤ (z2.2.2.2.1) ∧ (z2.2.2.2.1) < (ByteArray.size (z2.2.2.1) : Nat)) <|
      cond (decide (((UInt8.toNat (byteAt (z2.2.2.1) (Int.toNat (z2.2.2.2.1))) : Nat) : Int) ≥ (48 : Int)))
      (need (0 ≤ (z2.2.2.2.1) ∧ (z2.2.2.2.1) < (ByteArray.size (z2.2.2.1) : Nat)) <|
        some (decide (((UInt8.toNat (byteAt (z2.2.2.1) (Int.toNat (z2.2.2.2.1))) : Nat) : Int) ≤ (57 : Int))))
      (some false))
    (some false)).bind fun z3 =>
    cond z3
    (cond (z2.1 == (18 : Int))
      ((tronageref20_Reader_fail_D z2.2.2 (30 : Int)).bind fun t16 =>
        some (Step.done (Step.done ((0 : Int), t16))))
      (need (0 ≤ (z2.2.2.2.1) ∧ (z2.2.2.2.1) < (ByteArray.size (z2.2.2.1) : Nat)) <|
        some (Step.next ((IntKind.wrap .i64 (z2.1 + (1 : Int))), (IntKind.wrap .i64 ((IntKind.wrap .i64 ((10 : Int) * z2.2.1)) + (IntKind.wrap .i64 (IntKind.wrap .u8 (((UInt8.toNat (byteAt (z2.2.2.1) (Int.toNat (z2.2.2.2.1))) : Nat) : Int) - (48 : Int)))))), ((z2.2.2.1), (IntKind.wrap .i64 ((z2.2.2.2.1) + (1 : Int))), (z2.2.2.2.2.1), (z2.2.2.2.2.2.1), (z2.2.2.2.2.2.2))))))
    (some (Step.done (Step.next (z2.1, z2.2.1, z2.2.2))))).bind fun e_z1 => match e_z1 with
  | .next z1 =>
    (cond (z1.1 == (0 : Int))
    ((tronageref20_Reader_fail_D z1.2.2 (30 : Int)).bind fun t25 =>
      some t25)
    (some z1.2.2)).bind fun z24 =>
    some (z1.2.1, z24)
  | .done q174 => some q174
theorem tronageref20_Reader_number_sim {φ : Snap} {h : Heap} {F : List Chk} {r_0 : Option Addr} {d_r_0 : (ByteArray × Int × Int × Int × Int)}  (s0 : St φ (⟨Rep.obj 51 (Rep.prod (Rep.ro Ro.str) (Rep.prod (Rep.ro (Ro.int .i64)) (Rep.prod (Rep.ro (Ro.int .i64)) (Rep.prod (Rep.ro (Ro.int .i64)) (Rep.ro (Ro.int .i64)))))), [.pointer r_0], d_r_0⟩ :: F) h) {r : (Int × (ByteArray × Int × Int × Int × Int))} (hd : tronageref20_Reader_number_D d_r_0 = some r) :
    CallsH Tryd.prog 52 [(.pointer r_0)] h (Back fun v h' => ∃ ψ : Snap, ∃ y : Int, ∃ l1_ : (ByteArray × Int × Int × Int × Int), Sub φ ψ ∧ v = ((.one (.atom (.int .i64))) : Sh).val y ∧ (y, l1_) = r ∧ St ψ (⟨Rep.obj 51 (Rep.prod (Rep.ro Ro.str) (Rep.prod (Rep.ro (Ro.int .i64)) (Rep.prod (Rep.ro (Ro.int .i64)) (Rep.prod (Rep.ro (Ro.int .i64)) (Rep.ro (Ro.int .i64)))))), [.pointer r_0], l1_⟩ :: F) h') := by
  refine calls_of mixed Tryd.func52 ?_
  rw [tronageref20_Reader_number_den]
  unfold tronageref20_Reader_number_T
  unfold tronageref20_Reader_number_D at hd
  try dsimp only [Ex.kind_mk, Ex.n_mk, Ex.kids_mk] at hd
  obtain ⟨g3_, hx4_, hd⟩ := Option.bind_eq_some_iff.1 hd
  refine s_block (fun (y : Int × Int × Int × Unit) w_ g => ∃ ψ : Snap, ∃ l5_ : (ByteArray × Int × Int × Int × Int), Sub φ ψ ∧ Step.next (y.1, y.2.1, l5_) = g ∧ St ψ (⟨Rep.obj 51 (Rep.prod (Rep.ro Ro.str) (Rep.prod (Rep.ro (Ro.int .i64)) (Rep.prod (Rep.ro (Ro.int .i64)) (Rep.prod (Rep.ro (Ro.int .i64)) (Rep.ro (Ro.int .i64)))))), [.pointer r_0], l5_⟩ :: F) w_) (g := g3_) ?_ ?_
  · refine s_loop hx4_ (fun (y : Int × Int × Int × Unit) w_ g => ∃ ψ : Snap, ∃ l6_ : (ByteArray × Int × Int × Int × Int), Sub φ ψ ∧ (y.1, y.2.1, l6_) = g ∧ St ψ (⟨Rep.obj 51 (Rep.prod (Rep.ro Ro.str) (Rep.prod (Rep.ro (Ro.int .i64)) (Rep.prod (Rep.ro (Ro.int .i64)) (Rep.prod (Rep.ro (Ro.int .i64)) (Rep.ro (Ro.int .i64)))))), [.pointer r_0], l6_⟩ :: F) w_) ((0 : Int), (0 : Int), (0 : Int), ()) rfl ⟨φ, d_r_0, (Sub.refl _), rfl, s0⟩ ?_
    · rintro z2 h12_ _ _ ⟨f9_, d13_, le10_, rfl, s11_⟩ he7_ hb8_
      try dsimp only at he7_
      obtain ⟨g14_, hx15_, he7_⟩ := Option.bind_eq_some_iff.1 he7_
      refine s_join (fun (y : Bool × Unit) w_ g => ∃ ψ : Snap, Sub f9_ ψ ∧ y.1 = g ∧ St ψ (⟨Rep.obj 51 (Rep.prod (Rep.ro Ro.str) (Rep.prod (Rep.ro (Ro.int .i64)) (Rep.prod (Rep.ro (Ro.int .i64)) (Rep.prod (Rep.ro (Ro.int .i64)) (Rep.ro (Ro.int .i64)))))), [.pointer r_0], d13_⟩ :: F) w_) (g := g14_) ?_ ?_
      · obtain ⟨b16_, vs17_, e18_, hl19_, s20_⟩ := s11_.open
        obtain rfl : r_0 = some ⟨b16_, 0, none⟩ := by simpa using e18_
        clear e18_
        have s21_ := s20_.at1
        obtain ⟨v22_, w23_, rfl, hl25_, s24_⟩ := s21_.pair
        obtain ⟨g26_, s27_⟩ := s24_.ro
        subst g26_
        obtain ⟨v29_, w30_, rfl, hl32_, s31_⟩ := s27_.pair
        obtain ⟨g33_, s34_⟩ := s31_.ro
        subst g33_
        obtain ⟨v36_, w37_, rfl, hl39_, s38_⟩ := s34_.pair
        obtain ⟨g40_, s41_⟩ := s38_.ro
        subst g40_
        obtain ⟨v43_, w44_, rfl, hl46_, s45_⟩ := s41_.pair
        obtain ⟨g47_, s48_⟩ := s45_.ro
        subst g47_
        obtain ⟨g50_, s51_⟩ := s48_.ro
        subst g50_
        have s53_ : St f9_ (⟨Rep.raw 51, [.pointer (some ⟨b16_, 0, none⟩)], [.string (d13_.1), .int .i64 (d13_.2.1), .int .i64 (d13_.2.2.1), .int .i64 (d13_.2.2.2.1), .int .i64 (d13_.2.2.2.2)]⟩ :: F) _ := s51_
        refine t_deref _ rfl ?_
        refine s_loadR (b := b16_) (j := 1) (x := (d13_.2.1)) s53_ rfl ?_
        refine t_deref _ rfl ?_
        refine s_loadR (b := b16_) (j := 0) (x := (d13_.1)) s53_ rfl ?_
        refine s_cond hx15_ rfl (fun hb87_ hx15_ => ?_) (fun hb87_ hx15_ => ?_)
        · refine t_deref _ rfl ?_
          refine s_loadR (b := b16_) (j := 0) (x := (d13_.1)) s53_ rfl ?_
          refine t_deref _ rfl ?_
          refine s_loadR (b := b16_) (j := 1) (x := (d13_.2.1)) s53_ rfl ?_
          refine s_chk hx15_ id fun hp54_ hx15_ => ?_
          refine s_cond hx15_ rfl (fun hb76_ hx15_ => ?_) (fun hb76_ hx15_ => ?_)
          · refine t_deref _ rfl ?_
            refine s_loadR (b := b16_) (j := 0) (x := (d13_.1)) s53_ rfl ?_
            refine t_deref _ rfl ?_
            refine s_loadR (b := b16_) (j := 1) (x := (d13_.2.1)) s53_ rfl ?_
            refine s_chk hx15_ id fun hp55_ hx15_ => ?_
            have s56_ := St.unro (r := (Ro.int .i64)) (cs := [.int .i64 (d13_.2.2.2.2)]) (x := (d13_.2.2.2.2)) s53_ rfl
            have s57_ := St.unro (r := (Ro.int .i64)) (cs := [.int .i64 (d13_.2.2.2.1)]) (x := (d13_.2.2.2.1)) s56_ rfl
            have s58_ := St.unpair s57_
            have s59_ := St.unro (r := (Ro.int .i64)) (cs := [.int .i64 (d13_.2.2.1)]) (x := (d13_.2.2.1)) s58_ rfl
            have s60_ := St.unpair s59_
            have s61_ := St.unro (r := (Ro.int .i64)) (cs := [.int .i64 (d13_.2.1)]) (x := (d13_.2.1)) s60_ rfl
            have s62_ := St.unpair s61_
            have s63_ := St.unro (r := Ro.str) (cs := [.string (d13_.1)]) (x := (d13_.1)) s62_ rfl
            have s64_ := St.unpair s63_
            have s65_ : St f9_ (⟨Rep.obj 51 (Rep.prod (Rep.ro Ro.str) (Rep.prod (Rep.ro (Ro.int .i64)) (Rep.prod (Rep.ro (Ro.int .i64)) (Rep.prod (Rep.ro (Ro.int .i64)) (Rep.ro (Ro.int .i64)))))), [.pointer (some ⟨b16_, 0, none⟩)], ((d13_.1), (d13_.2.1), (d13_.2.2.1), (d13_.2.2.2.1), (d13_.2.2.2.2))⟩ :: F) _ := St.shut s64_.at1
            obtain rfl := Option.some.inj hx15_
            exact s_out ((decide (((UInt8.toNat (byteAt (d13_.1) (Int.toNat (d13_.2.1))) : Nat) : Int) ≤ (57 : Int))), ()) rfl ⟨f9_, (Sub.refl _), rfl, s65_⟩
          · have s66_ := St.unro (r := (Ro.int .i64)) (cs := [.int .i64 (d13_.2.2.2.2)]) (x := (d13_.2.2.2.2)) s53_ rfl
            have s67_ := St.unro (r := (Ro.int .i64)) (cs := [.int .i64 (d13_.2.2.2.1)]) (x := (d13_.2.2.2.1)) s66_ rfl
            have s68_ := St.unpair s67_
            have s69_ := St.unro (r := (Ro.int .i64)) (cs := [.int .i64 (d13_.2.2.1)]) (x := (d13_.2.2.1)) s68_ rfl
            have s70_ := St.unpair s69_
            have s71_ := St.unro (r := (Ro.int .i64)) (cs := [.int .i64 (d13_.2.1)]) (x := (d13_.2.1)) s70_ rfl
            have s72_ := St.unpair s71_
            have s73_ := St.unro (r := Ro.str) (cs := [.string (d13_.1)]) (x := (d13_.1)) s72_ rfl
            have s74_ := St.unpair s73_
            have s75_ : St f9_ (⟨Rep.obj 51 (Rep.prod (Rep.ro Ro.str) (Rep.prod (Rep.ro (Ro.int .i64)) (Rep.prod (Rep.ro (Ro.int .i64)) (Rep.prod (Rep.ro (Ro.int .i64)) (Rep.ro (Ro.int .i64)))))), [.pointer (some ⟨b16_, 0, none⟩)], ((d13_.1), (d13_.2.1), (d13_.2.2.1), (d13_.2.2.2.1), (d13_.2.2.2.2))⟩ :: F) _ := St.shut s74_.at1
            obtain rfl := Option.some.inj hx15_
            exact s_out (false, ()) rfl ⟨f9_, (Sub.refl _), rfl, s75_⟩
        · have s77_ := St.unro (r := (Ro.int .i64)) (cs := [.int .i64 (d13_.2.2.2.2)]) (x := (d13_.2.2.2.2)) s53_ rfl
          have s78_ := St.unro (r := (Ro.int .i64)) (cs := [.int .i64 (d13_.2.2.2.1)]) (x := (d13_.2.2.2.1)) s77_ rfl
          have s79_ := St.unpair s78_
          have s80_ := St.unro (r := (Ro.int .i64)) (cs := [.int .i64 (d13_.2.2.1)]) (x := (d13_.2.2.1)) s79_ rfl
          have s81_ := St.unpair s80_
          have s82_ := St.unro (r := (Ro.int .i64)) (cs := [.int .i64 (d13_.2.1)]) (x := (d13_.2.1)) s81_ rfl
          have s83_ := St.unpair s82_
          have s84_ := St.unro (r := Ro.str) (cs := [.string (d13_.1)]) (x := (d13_.1)) s83_ rfl
          have s85_ := St.unpair s84_
          have s86_ : St f9_ (⟨Rep.obj 51 (Rep.prod (Rep.ro Ro.str) (Rep.prod (Rep.ro (Ro.int .i64)) (Rep.prod (Rep.ro (Ro.int .i64)) (Rep.prod (Rep.ro (Ro.int .i64)) (Rep.ro (Ro.int .i64)))))), [.pointer (some ⟨b16_, 0, none⟩)], ((d13_.1), (d13_.2.1), (d13_.2.2.1), (d13_.2.2.2.1), (d13_.2.2.2.2))⟩ :: F) _ := St.shut s85_.at1
          obtain rfl := Option.some.inj hx15_
          exact s_out (false, ()) rfl ⟨f9_, (Sub.refl _), rfl, s86_⟩
      · rintro z3 h88_ ⟨f89_, le90_, rfl, s91_⟩
        try dsimp only at he7_
        refine s_cond he7_ rfl (fun hb151_ he7_ => ?_) (fun hb151_ he7_ => ?_)
        · refine s_cond he7_ rfl (fun hb150_ he7_ => ?_) (fun hb150_ he7_ => ?_)
          · obtain ⟨r92_, hr93_, he7_⟩ := Option.bind_eq_some_iff.1 he7_
            refine s_call (tronageref20_Reader_fail_sim  s91_ hr93_) ?_
            rintro _ h94_ ⟨f95_, t16, d98_, le97_, rfl, rfl, s96_⟩
            refine ⟨t16, rfl, ?_⟩
            obtain rfl := Option.some.inj he7_
            obtain rfl := hb8_ _ rfl
            try dsimp only at hd
            obtain rfl := Option.some.inj hd
            exact around_ret (meetB_ret (finOf_back ⟨f95_, (0 : Int), d98_, ((le10_.trans le90_).trans le97_), rfl, rfl, s96_⟩))
          · obtain ⟨b99_, vs100_, e101_, hl102_, s103_⟩ := s91_.open
            obtain rfl : r_0 = some ⟨b99_, 0, none⟩ := by simpa using e101_
            clear e101_
            have s104_ := s103_.at1
            obtain ⟨v105_, w106_, rfl, hl108_, s107_⟩ := s104_.pair
            obtain ⟨g109_, s110_⟩ := s107_.ro
            subst g109_
            obtain ⟨v112_, w113_, rfl, hl115_, s114_⟩ := s110_.pair
            obtain ⟨g116_, s117_⟩ := s114_.ro
            subst g116_
            obtain ⟨v119_, w120_, rfl, hl122_, s121_⟩ := s117_.pair
            obtain ⟨g123_, s124_⟩ := s121_.ro
            subst g123_
            obtain ⟨v126_, w127_, rfl, hl129_, s128_⟩ := s124_.pair
            obtain ⟨g130_, s131_⟩ := s128_.ro
            subst g130_
            obtain ⟨g133_, s134_⟩ := s131_.ro
            subst g133_
            have s136_ : St f89_ (⟨Rep.raw 51, [.pointer (some ⟨b99_, 0, none⟩)], [.string (d13_.1), .int .i64 (d13_.2.1), .int .i64 (d13_.2.2.1), .int .i64 (d13_.2.2.2.1), .int .i64 (d13_.2.2.2.2)]⟩ :: F) _ := s134_
            refine t_deref _ rfl ?_
            refine s_loadR (b := b99_) (j := 0) (x := (d13_.1)) s136_ rfl ?_
            refine t_deref _ rfl ?_
            refine s_loadR (b := b99_) (j := 1) (x := (d13_.2.1)) s136_ rfl ?_
            refine s_chk he7_ id fun hp137_ he7_ => ?_
            refine t_deref _ rfl ?_
            refine s_loadR (b := b99_) (j := 1) (x := (d13_.2.1)) s136_ rfl ?_
            refine t_deref _ rfl ?_
            refine s_put (b := b99_) (j := 1) (v := .int .i64 (IntKind.wrap .i64 ((d13_.2.1) + (1 : Int)))) s136_ rfl (show (1 : Nat) < 5 by decide) ?_
            intro h139_ s138_
            have s140_ := St.unro (r := (Ro.int .i64)) (cs := [.int .i64 (d13_.2.2.2.2)]) (x := (d13_.2.2.2.2)) s138_ rfl
            have s141_ := St.unro (r := (Ro.int .i64)) (cs := [.int .i64 (d13_.2.2.2.1)]) (x := (d13_.2.2.2.1)) s140_ rfl
            have s142_ := St.unpair s141_
            have s143_ := St.unro (r := (Ro.int .i64)) (cs := [.int .i64 (d13_.2.2.1)]) (x := (d13_.2.2.1)) s142_ rfl
            have s144_ := St.unpair s143_
            have s145_ := St.unro (r := (Ro.int .i64)) (cs := [.int .i64 (IntKind.wrap .i64 ((d13_.2.1) + (1 : Int)))]) (x := (IntKind.wrap .i64 ((d13_.2.1) + (1 : Int)))) s144_ rfl
            have s146_ := St.unpair s145_
            have s147_ := St.unro (r := Ro.str) (cs := [.string (d13_.1)]) (x := (d13_.1)) s146_ rfl
            have s148_ := St.unpair s147_
            have s149_ : St f89_ (⟨Rep.obj 51 (Rep.prod (Rep.ro Ro.str) (Rep.prod (Rep.ro (Ro.int .i64)) (Rep.prod (Rep.ro (Ro.int .i64)) (Rep.prod (Rep.ro (Ro.int .i64)) (Rep.ro (Ro.int .i64)))))), [.pointer (some ⟨b99_, 0, none⟩)], ((d13_.1), (IntKind.wrap .i64 ((d13_.2.1) + (1 : Int))), (d13_.2.2.1), (d13_.2.2.2.1), (d13_.2.2.2.2))⟩ :: F) _ := St.shut s148_.at1
            obtain rfl := Option.some.inj he7_
            exact s_next ((IntKind.wrap .i64 (z2.1 + (1 : Int))), (IntKind.wrap .i64 ((IntKind.wrap .i64 ((10 : Int) * z2.2.1)) + (IntKind.wrap .i64 (IntKind.wrap .u8 (((UInt8.toNat (byteAt (d13_.1) (Int.toNat (d13_.2.1))) : Nat) : Int) - (48 : Int)))))), z2.2.2.1, ()) _ rfl rfl ⟨f89_, ((d13_.1), (IntKind.wrap .i64 ((d13_.2.1) + (1 : Int))), (d13_.2.2.1), (d13_.2.2.2.1), (d13_.2.2.2.2)), (le10_.trans le90_), rfl, s149_⟩
        · obtain rfl := Option.some.inj he7_
          obtain rfl := hb8_ _ rfl
          exact around_brk (meetB_brk (z2.1, z2.2.1, z2.2.2.1, ()) rfl ⟨f89_, d13_, (le10_.trans le90_), rfl, s91_⟩)
  · rintro z1 h152_ ⟨f153_, d156_, le154_, rfl, s155_⟩
    try dsimp only at hd
    obtain ⟨g158_, hx159_, hd⟩ := Option.bind_eq_some_iff.1 hd
    refine s_join (fun (y : Unit) w_ g => ∃ ψ : Snap, ∃ l160_ : (ByteArray × Int × Int × Int × Int), Sub f153_ ψ ∧ l160_ = g ∧ St ψ (⟨Rep.obj 51 (Rep.prod (Rep.ro Ro.str) (Rep.prod (Rep.ro (Ro.int .i64)) (Rep.prod (Rep.ro (Ro.int .i64)) (Rep.prod (Rep.ro (Ro.int .i64)) (Rep.ro (Ro.int .i64)))))), [.pointer r_0], l160_⟩ :: F) w_) (g := g158_) ?_ ?_
    · refine s_cond hx159_ rfl (fun hb168_ hx159_ => ?_) (fun hb168_ hx159_ => ?_)
      · obtain ⟨r161_, hr162_, hx159_⟩ := Option.bind_eq_some_iff.1 hx159_
        refine s_call (tronageref20_Reader_fail_sim  s155_ hr162_) ?_
        rintro _ h163_ ⟨f164_, t25, d167_, le166_, rfl, rfl, s165_⟩
        refine ⟨t25, rfl, ?_⟩
        obtain rfl := Option.some.inj hx159_
        exact s_out (()) rfl ⟨f164_, d167_, le166_, rfl, s165_⟩
      · obtain rfl := Option.some.inj hx159_
        exact s_out (()) rfl ⟨f153_, d156_, (Sub.refl _), rfl, s155_⟩
    · rintro z24 h169_ ⟨f170_, d173_, le171_, rfl, s172_⟩
      try dsimp only at hd
      obtain rfl := Option.some.inj hd
      exact finOf_back ⟨f170_, z1.2.1, d173_, (le154_.trans le171_), rfl, rfl, s172_⟩

noncomputable def tronagelaw20_join_D (sum_0 : Ex) (kind_1 : Int) (product_2 : Ex) : Option (Int × Int × List Ex) :=
  cond (kind_1 == (0 : Int))
  (some (product_2.kind, product_2.n, product_2.kids))
  (some (kind_1, (0 : Int), ([(Ex.mk sum_0.kind sum_0.n sum_0.kids), (Ex.mk product_2.kind product_2.n product_2.kids)] : List Ex)))
theorem tronagelaw20_join_sim {φ : Snap} {h : Heap} {F : List Chk} {sum_0 : Int × Int × (Option Addr × Nat × Nat) × Unit} {d_sum_0_2 : List Ex} {kind_1 : Int} {product_2 : Int × Int × (Option Addr × Nat × Nat) × Unit} {d_product_2_2 : List Ex} (k1_ : Ro.SliceIs exRo φ sum_0.2.2.1 d_sum_0_2) (k3_ : Ro.SliceIs exRo φ product_2.2.2.1 d_product_2_2) (s0 : St φ (F) h) {r : (Int × Int × List Ex)} (hd : tronagelaw20_join_D (Ex.mk sum_0.1 sum_0.2.1 d_sum_0_2) kind_1 (Ex.mk product_2.1 product_2.2.1 d_product_2_2) = some r) :
    CallsH Tryd.prog 15 [(.agg #[(.int .i64 sum_0.1), (.int .i64 sum_0.2.1), (.slice sum_0.2.2.1.1 sum_0.2.2.1.2.1 sum_0.2.2.1.2.2)]), (.int .i64 kind_1), (.agg #[(.int .i64 product_2.1), (.int .i64 product_2.2.1), (.slice product_2.2.2.1.1 product_2.2.2.1.2.1 product_2.2.2.1.2.2)])] h (Back fun v h' => ∃ ψ : Snap, ∃ y : Int × Int × (Option Addr × Nat × Nat) × Unit, ∃ l5_ : List Ex, Sub φ ψ ∧ v = ((.one (.agg [(.int .i64), (.int .i64), .slice])) : Sh).val y ∧ (y.1, y.2.1, l5_) = r ∧ Ro.SliceIs exRo ψ y.2.2.1 l5_ ∧ St ψ (F) h') := by
  refine calls_of mixed Tryd.func15 ?_
  rw [tronagelaw20_join_den]
  unfold tronagelaw20_join_T
  unfold tronagelaw20_join_D at hd
  try dsimp only [Ex.kind_mk, Ex.n_mk, Ex.kids_mk] at hd
  have n2_ : sum_0.2.2.1.2.1 = List.length d_sum_0_2 := k1_.length
  have n4_ : product_2.2.2.1.2.1 = List.length d_product_2_2 := k3_.length
  refine s_new (vs := [.int .i64 sum_0.1, .int .i64 sum_0.2.1, .slice sum_0.2.2.1.1 sum_0.2.2.1.2.1 sum_0.2.2.1.2.2]) s0 ?_
  intro r1 h7_ s6_
  refine s_new (vs := [.int .i64 product_2.1, .int .i64 product_2.2.1, .slice product_2.2.2.1.1 product_2.2.2.1.2.1 product_2.2.2.1.2.2]) s6_ ?_
  intro r2 h9_ s8_
  refine s_new (vs := [.int .i64 (0 : Int), .int .i64 (0 : Int), .slice none 0 0]) s8_ ?_
  intro r3 h11_ s10_
  refine s_cond hd rfl (fun hb37_ hd => ?_) (fun hb37_ hd => ?_)
  · refine s_loadR (b := r2) (j := 0) (x := product_2.1) s10_.at1 rfl ?_
    refine s_loadR (b := r2) (j := 1) (x := product_2.2.1) s10_.at1 rfl ?_
    refine s_loadR (b := r2) (j := 2) (x := product_2.2.2.1) s10_.at1 rfl ?_
    refine s_put (b := r3) (j := 0) (v := .int .i64 product_2.1) s10_ rfl (show (0 : Nat) < 3 by decide) ?_
    intro h13_ s12_
    refine s_put (b := r3) (j := 1) (v := .int .i64 product_2.2.1) s12_ rfl (show (1 : Nat) < 3 by decide) ?_
    intro h15_ s14_
    refine s_put (b := r3) (j := 2) (v := .slice product_2.2.2.1.1 product_2.2.2.1.2.1 product_2.2.2.1.2.2) s14_ rfl (show (2 : Nat) < 3 by decide) ?_
    intro h17_ s16_
    refine s_loadR (b := r3) (j := 0) (x := product_2.1) s16_ rfl ?_
    refine s_loadR (b := r3) (j := 1) (x := product_2.2.1) s16_ rfl ?_
    refine s_loadR (b := r3) (j := 2) (x := product_2.2.2.1) s16_ rfl ?_
    obtain rfl := Option.some.inj hd
    have s18_ := s16_.tail
    have s19_ := s18_.tail
    have s20_ := s19_.tail
    exact finOf_back ⟨φ, (product_2.1, product_2.2.1, product_2.2.2.1, ()), d_product_2_2, (Sub.refl _), rfl, rfl, k3_, s20_⟩
  · refine s_loadR (b := r1) (j := 0) (x := sum_0.1) s10_.at2 rfl ?_
    refine s_loadR (b := r1) (j := 1) (x := sum_0.2.1) s10_.at2 rfl ?_
    refine s_loadR (b := r1) (j := 2) (x := sum_0.2.2.1) s10_.at2 rfl ?_
    refine s_loadR (b := r2) (j := 0) (x := product_2.1) s10_.at1 rfl ?_
    refine s_loadR (b := r2) (j := 1) (x := product_2.2.1) s10_.at1 rfl ?_
    refine s_loadR (b := r2) (j := 2) (x := product_2.2.2.1) s10_.at1 rfl ?_
    refine s_new (vs := [.int .i64 sum_0.1, .int .i64 sum_0.2.1, .slice sum_0.2.2.1.1 sum_0.2.2.1.2.1 sum_0.2.2.1.2.2, .int .i64 product_2.1, .int .i64 product_2.2.1, .slice product_2.2.2.1.1 product_2.2.2.1.2.1 product_2.2.2.1.2.2]) s10_ ?_
    intro r16 h22_ s21_
    refine s_put (b := r3) (j := 0) (v := .int .i64 kind_1) s21_.at1 rfl (show (0 : Nat) < 3 by decide) ?_
    intro h24_ s23_
    refine s_put (b := r3) (j := 1) (v := .int .i64 (0 : Int)) s23_ rfl (show (1 : Nat) < 3 by decide) ?_
    intro h26_ s25_
    refine s_put (b := r3) (j := 2) (v := .slice (some ⟨r16, 0, none⟩) 2 2) s25_ rfl (show (2 : Nat) < 3 by decide) ?_
    intro h28_ s27_
    refine s_loadR (b := r3) (j := 0) (x := kind_1) s27_ rfl ?_
    refine s_loadR (b := r3) (j := 1) (x := (0 : Int)) s27_ rfl ?_
    refine s_loadR (b := r3) (j := 2) (x := ((some ⟨r16, 0, none⟩, 2, 2) : Slc)) s27_ rfl ?_
    have s29_ := St.lit (r := exRo) (l := ([(Ex.mk sum_0.1 sum_0.2.1 d_sum_0_2), (Ex.mk product_2.1 product_2.2.1 d_product_2_2)] : List Ex)) (n := 2) s27_.at1 (.cons (a := [_, _, _]) (exRo_mk (φ := φ) (cs := [_, _, _]) ⟨[_], _, rfl, rfl, ⟨[_], _, rfl, rfl, ⟨sum_0.2.2.1, rfl, k1_⟩⟩⟩) (.cons (a := [_, _, _]) (exRo_mk (φ := φ) (cs := [_, _, _]) ⟨[_], _, rfl, rfl, ⟨[_], _, rfl, rfl, ⟨product_2.2.2.1, rfl, k3_⟩⟩⟩) .nil)) rfl (by decide)
    obtain ⟨f30_, le31_, k32_, s33_⟩ := St.freezeRow (t := ((some ⟨r16, 0, none⟩, 2, 2) : Slc)) s29_
    obtain rfl := Option.some.inj hd
    have s34_ := s33_.tail
    have s35_ := s34_.tail
    have s36_ := s35_.tail
    exact finOf_back ⟨f30_, (kind_1, (0 : Int), ((some ⟨r16, 0, none⟩, 2, 2) : Slc), ()), ([(Ex.mk sum_0.1 sum_0.2.1 d_sum_0_2), (Ex.mk product_2.1 product_2.2.1 d_product_2_2)] : List Ex), le31_, rfl, rfl, k32_, s36_⟩

end Go.Proofs.YtkhfdckieocciaaDoor
