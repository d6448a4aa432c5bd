import Derived.Test.YtkhfdckieocciaaDoorBase
import Derived.Test.YtkhfdckieocciaaDoorSim0
import Derived.KernelRfl
namespace Go.Proofs.YtkhfdckieocciaaDoor
open Go Go.Eng
set_option linter.unusedVariables false
set_option maxRecDepth 100000


@[reducible] def expr_reader_factor_C (rec : (ByteArray × Int × Int) → Option (Step (Int × Int × List Ex × (ByteArray × Int × Int)) (Int × Int))) : Prop := ∀ {φ : Snap} {h : Heap} {F : List Chk} {r_0 : Option Addr} {d_r_0 : (ByteArray × Int × Int)}  (s0 : St φ (⟨Rep.obj 45 (Rep.prod (Rep.ro Ro.str) (Rep.prod (Rep.ro (Ro.int .i64)) (Rep.ro (Ro.int .i64)))), [.pointer r_0], d_r_0⟩ :: F) h) {r : (Step (Int × Int × List Ex × (ByteArray × Int × Int)) (Int × Int))} (hd : rec d_r_0 = some r), CallsH Tryd.prog 46 [(.pointer r_0)] h (Ends2 (fun v h' => ∃ ψ : Snap, ∃ y : Int × Int × (Option Addr × Nat × Nat) × Unit, ∃ l1_ : List Ex, ∃ l2_ : (ByteArray × Int × Int), Sub φ ψ ∧ v = ((.one (.agg [(.int .i64), (.int .i64), .slice])) : Sh).val y ∧ Step.next (y.1, y.2.1, l1_, l2_) = r ∧ Ro.SliceIs exRo ψ y.2.2.1 l1_ ∧ St ψ (⟨Rep.obj 45 (Rep.prod (Rep.ro Ro.str) (Rep.prod (Rep.ro (Ro.int .i64)) (Rep.ro (Ro.int .i64)))), [.pointer r_0], l2_⟩ :: F) h') (fun c h' => ∃ ψ : Snap, ∃ code at_ : Int, ∃ l3_ : (ByteArray × Int × Int), Sub φ ψ ∧ c = [{ v := .iface 41 (.agg #[.int .i64 code, .int .i64 at_]), recovered := false }] ∧ Step.done (code, at_) = r ∧ St ψ (⟨Rep.obj 45 (Rep.prod (Rep.ro Ro.str) (Rep.prod (Rep.ro (Ro.int .i64)) (Rep.ro (Ro.int .i64)))), [.pointer r_0], l3_⟩ :: F) h'))
noncomputable def expr_reader_chain_46_D (rec : (ByteArray × Int × Int) → Option (Step (Int × Int × List Ex × (ByteArray × Int × Int)) (Int × Int))) (r_0 : (ByteArray × Int × Int)) (from_2 : Int) (to_3 : Int) : Option (Step (Int × Int × List Ex × (ByteArray × Int × Int)) (Int × Int)) :=
  (rec r_0).bind fun e_t2 => match e_t2 with
  | .next t2 =>
    (loop (σ := ((ByteArray × Int × Int) × (Int × Int × List Ex) × (Int × Int × List Ex))) (β := (Sum (Int × Int × List Ex × (ByteArray × Int × Int)) (Int × Int))) (t2.2.2.2, ((0 : Int), (0 : Int), ([] : List Ex)), (t2.1, t2.2.1, t2.2.2.1)) fun z4 =>
      (expr_reader_now_D z4.1).bind fun t5 =>
      (expr_sign_D t5.1).bind fun t6 =>
      (cond (decide (t6 < from_2))
      (some true)
      (some (decide (t6 > to_3)))).bind fun z7 =>
      cond z7
      (some (Step.done (.inl ((z4.2.2.1), (z4.2.2.2.1), z4.2.2.2.2, t5.2))))
      ((rec ((t5.2.1), (IntKind.wrap .i64 ((t5.2.2.1) + (1 : Int))), (t5.2.2.2))).bind fun e_t20 => match e_t20 with
        | .next t20 =>
          some (Step.next (t20.2.2.2, z4.2.1, (t6, (0 : Int), ([(Ex.mk (z4.2.2.1) (z4.2.2.2.1) z4.2.2.2.2), (Ex.mk t20.1 t20.2.1 t20.2.2.1)] : List Ex))))
        | .done p_t20 => some (Step.done (.inr p_t20)))).bind fun q241 =>
    (match q241 with | .inl p => some (Step.next p) | .inr p => some (Step.done p))
  | .done p_t2 => some (Step.done p_t2)
theorem expr_reader_chain_46_sim {rec : (ByteArray × Int × Int) → Option (Step (Int × Int × List Ex × (ByteArray × Int × Int)) (Int × Int))} (Hrec : expr_reader_factor_C rec) {φ : Snap} {h : Heap} {F : List Chk} {r_0 : Option Addr} {d_r_0 : (ByteArray × Int × Int)} {from_2 : Int} {to_3 : Int}  (s0 : St φ (⟨Rep.obj 45 (Rep.prod (Rep.ro Ro.str) (Rep.prod (Rep.ro (Ro.int .i64)) (Rep.ro (Ro.int .i64)))), [.pointer r_0], d_r_0⟩ :: F) h) {r : (Step (Int × Int × List Ex × (ByteArray × Int × Int)) (Int × Int))} (hd : expr_reader_chain_46_D rec d_r_0 from_2 to_3 = some r) :
    CallsH Tryd.prog 37 [(.pointer r_0), (.func (.func 46) #[(.pointer r_0)] #[]), (.int .i64 from_2), (.int .i64 to_3)] h (Ends2 (fun v h' => ∃ ψ : Snap, ∃ y : Int × Int × (Option Addr × Nat × Nat) × Unit, ∃ l1_ : List Ex, ∃ l2_ : (ByteArray × Int × Int), Sub φ ψ ∧ v = ((.one (.agg [(.int .i64), (.int .i64), .slice])) : Sh).val y ∧ Step.next (y.1, y.2.1, l1_, l2_) = r ∧ Ro.SliceIs exRo ψ y.2.2.1 l1_ ∧ St ψ (⟨Rep.obj 45 (Rep.prod (Rep.ro Ro.str) (Rep.prod (Rep.ro (Ro.int .i64)) (Rep.ro (Ro.int .i64)))), [.pointer r_0], l2_⟩ :: F) h') (fun c h' => ∃ ψ : Snap, ∃ code at_ : Int, ∃ l3_ : (ByteArray × Int × Int), Sub φ ψ ∧ c = [{ v := .iface 41 (.agg #[.int .i64 code, .int .i64 at_]), recovered := false }] ∧ Step.done (code, at_) = r ∧ St ψ (⟨Rep.obj 45 (Rep.prod (Rep.ro Ro.str) (Rep.prod (Rep.ro (Ro.int .i64)) (Rep.ro (Ro.int .i64)))), [.pointer r_0], l3_⟩ :: F) h')) := by
  refine calls_of mixed Tryd.func37 ?_
  rw [expr_reader_chain_46_den]
  unfold expr_reader_chain_46_T
  unfold expr_reader_chain_46_D at hd
  try dsimp only [Ex.kind_mk, Ex.n_mk, Ex.kids_mk] at hd
  refine s_new (vs := [.int .i64 (0 : Int), .int .i64 (0 : Int), .slice none 0 0]) s0 ?_
  intro r1 h5_ s4_
  have s6_ := s4_.at1
  obtain ⟨r7_, hr8_, hd⟩ := Option.bind_eq_some_iff.1 hd
  refine s_callP (Hrec  s6_ hr8_) ?_ ?_
  · rintro _ h9_ ⟨f10_, t2, d13_, d16_, le12_, rfl, rfl, k15_, s11_⟩
    refine ⟨t2, rfl, ?_⟩
    try dsimp only at hd
    have n14_ := k15_.length
    refine s_new (vs := [.int .i64 (0 : Int), .int .i64 (0 : Int), .slice none 0 0]) s11_ ?_
    intro r3 h18_ s17_
    refine s_put (b := r3) (j := 0) (v := .int .i64 t2.1) s17_ rfl (show (0 : Nat) < 3 by decide) ?_
    intro h20_ s19_
    refine s_put (b := r3) (j := 1) (v := .int .i64 t2.2.1) s19_ rfl (show (1 : Nat) < 3 by decide) ?_
    intro h22_ s21_
    refine s_put (b := r3) (j := 2) (v := .slice t2.2.2.1.1 t2.2.2.1.2.1 t2.2.2.1.2.2) s21_ rfl (show (2 : Nat) < 3 by decide) ?_
    intro h24_ s23_
    have s25_ := St.unro (r := (Ro.list exRo)) (cs := [.slice ((none, 0, 0) : Slc).1 ((none, 0, 0) : Slc).2.1 ((none, 0, 0) : Slc).2.2]) (x := ([] : List Ex)) s23_ ⟨((none, 0, 0) : Slc), rfl, (Ro.SliceIs.nil exRo f10_)⟩
    have s26_ := St.unro (r := (Ro.int .i64)) (cs := [.int .i64 (0 : Int)]) (x := (0 : Int)) s25_ rfl
    have s27_ := St.unpair s26_
    have s28_ := St.unro (r := (Ro.int .i64)) (cs := [.int .i64 (0 : Int)]) (x := (0 : Int)) s27_ rfl
    have s29_ := St.unpair s28_
    have s30_ : St f10_ (⟨Rep.obj 25 (Rep.prod (Rep.ro (Ro.int .i64)) (Rep.prod (Rep.ro (Ro.int .i64)) (Rep.ro (Ro.list exRo)))), [.pointer (some ⟨r1, 0, none⟩)], ((0 : Int), (0 : Int), ([] : List Ex))⟩ :: ⟨Rep.raw 25, [.pointer (some ⟨r3, 0, none⟩)], [.int .i64 t2.1, .int .i64 t2.2.1, .slice t2.2.2.1.1 t2.2.2.1.2.1 t2.2.2.1.2.2]⟩ :: ⟨Rep.obj 45 (Rep.prod (Rep.ro Ro.str) (Rep.prod (Rep.ro (Ro.int .i64)) (Rep.ro (Ro.int .i64)))), [.pointer r_0], d16_⟩ :: F) _ := St.shut s29_.at3
    have s31_ := St.unro (r := (Ro.list exRo)) (cs := [.slice t2.2.2.1.1 t2.2.2.1.2.1 t2.2.2.1.2.2]) (x := d13_) s30_ ⟨t2.2.2.1, rfl, k15_⟩
    have s32_ := St.unro (r := (Ro.int .i64)) (cs := [.int .i64 t2.2.1]) (x := t2.2.1) s31_ rfl
    have s33_ := St.unpair s32_
    have s34_ := St.unro (r := (Ro.int .i64)) (cs := [.int .i64 t2.1]) (x := t2.1) s33_ rfl
    have s35_ := St.unpair s34_
    have s36_ : St f10_ (⟨Rep.obj 25 (Rep.prod (Rep.ro (Ro.int .i64)) (Rep.prod (Rep.ro (Ro.int .i64)) (Rep.ro (Ro.list exRo)))), [.pointer (some ⟨r3, 0, none⟩)], (t2.1, t2.2.1, d13_)⟩ :: ⟨Rep.obj 25 (Rep.prod (Rep.ro (Ro.int .i64)) (Rep.prod (Rep.ro (Ro.int .i64)) (Rep.ro (Ro.list exRo)))), [.pointer (some ⟨r1, 0, none⟩)], ((0 : Int), (0 : Int), ([] : List Ex))⟩ :: ⟨Rep.obj 45 (Rep.prod (Rep.ro Ro.str) (Rep.prod (Rep.ro (Ro.int .i64)) (Rep.ro (Ro.int .i64)))), [.pointer r_0], d16_⟩ :: F) _ := St.shut s35_.at2
    have s37_ := s36_.at1
    have s38_ := s37_.at2
    obtain ⟨g39_, hx40_, hd⟩ := Option.bind_eq_some_iff.1 hd
    refine s_loop hx40_ (fun (y : Unit) w_ g => ∃ ψ : Snap, ∃ l41_ : (ByteArray × Int × Int), ∃ l42_ : (Int × Int × List Ex), ∃ l43_ : (Int × Int × List Ex), Sub f10_ ψ ∧ (l41_, l42_, l43_) = g ∧ St ψ (⟨Rep.obj 45 (Rep.prod (Rep.ro Ro.str) (Rep.prod (Rep.ro (Ro.int .i64)) (Rep.ro (Ro.int .i64)))), [.pointer r_0], l41_⟩ :: ⟨Rep.obj 25 (Rep.prod (Rep.ro (Ro.int .i64)) (Rep.prod (Rep.ro (Ro.int .i64)) (Rep.ro (Ro.list exRo)))), [.pointer (some ⟨r1, 0, none⟩)], l42_⟩ :: ⟨Rep.obj 25 (Rep.prod (Rep.ro (Ro.int .i64)) (Rep.prod (Rep.ro (Ro.int .i64)) (Rep.ro (Ro.list exRo)))), [.pointer (some ⟨r3, 0, none⟩)], l43_⟩ :: F) w_) (()) rfl ⟨f10_, d16_, ((0 : Int), (0 : Int), ([] : List Ex)), (t2.1, t2.2.1, d13_), (Sub.refl _), rfl, s38_⟩ ?_
    rintro z4 h49_ _ _ ⟨f46_, d50_, d51_, d52_, le47_, rfl, s48_⟩ he44_ hb45_
    try dsimp only at he44_
    obtain ⟨r53_, hr54_, he44_⟩ := Option.bind_eq_some_iff.1 he44_
    refine s_call (expr_reader_now_sim  s48_ hr54_) ?_
    rintro _ h55_ ⟨f56_, t5, d59_, le58_, rfl, rfl, s57_⟩
    refine ⟨t5, rfl, ?_⟩
    try dsimp only at he44_
    obtain ⟨r60_, hr61_, he44_⟩ := Option.bind_eq_some_iff.1 he44_
    refine s_call (expr_sign_sim  s57_ hr61_) ?_
    rintro _ h62_ ⟨f63_, t6, le65_, rfl, rfl, s64_⟩
    refine ⟨t6, rfl, ?_⟩
    obtain ⟨g66_, hx67_, he44_⟩ := Option.bind_eq_some_iff.1 he44_
    refine s_join (fun (y : Bool × Unit) w_ g => ∃ ψ : Snap, Sub f63_ ψ ∧ y.1 = g ∧ St ψ (⟨Rep.obj 45 (Rep.prod (Rep.ro Ro.str) (Rep.prod (Rep.ro (Ro.int .i64)) (Rep.ro (Ro.int .i64)))), [.pointer r_0], d59_⟩ :: ⟨Rep.obj 25 (Rep.prod (Rep.ro (Ro.int .i64)) (Rep.prod (Rep.ro (Ro.int .i64)) (Rep.ro (Ro.list exRo)))), [.pointer (some ⟨r1, 0, none⟩)], d51_⟩ :: ⟨Rep.obj 25 (Rep.prod (Rep.ro (Ro.int .i64)) (Rep.prod (Rep.ro (Ro.int .i64)) (Rep.ro (Ro.list exRo)))), [.pointer (some ⟨r3, 0, none⟩)], d52_⟩ :: F) w_) (g := g66_) ?_ ?_
    · refine s_cond hx67_ rfl (fun hb74_ hx67_ => ?_) (fun hb74_ hx67_ => ?_)
      · have s68_ := s64_.at2
        have s69_ := s68_.at2
        have s70_ := s69_.at2
        obtain rfl := Option.some.inj hx67_
        exact s_out (true, ()) rfl ⟨f63_, (Sub.refl _), rfl, s70_⟩
      · have s71_ := s64_.at2
        have s72_ := s71_.at2
        have s73_ := s72_.at2
        obtain rfl := Option.some.inj hx67_
        exact s_out ((decide (t6 > to_3)), ()) rfl ⟨f63_, (Sub.refl _), rfl, s73_⟩
    · rintro z7 h75_ ⟨f76_, le77_, rfl, s78_⟩
      try dsimp only at he44_
      refine s_cond he44_ rfl (fun hb240_ he44_ => ?_) (fun hb240_ he44_ => ?_)
      · obtain ⟨b79_, vs80_, e81_, hl82_, s83_⟩ := s78_.at2.open
        obtain rfl : r3 = b79_ := by simpa using e81_
        clear e81_
        have s84_ := s83_.at1
        obtain ⟨v85_, w86_, rfl, hl88_, s87_⟩ := s84_.pair
        obtain ⟨g89_, s90_⟩ := s87_.ro
        subst g89_
        obtain ⟨v92_, w93_, rfl, hl95_, s94_⟩ := s90_.pair
        obtain ⟨g96_, s97_⟩ := s94_.ro
        subst g96_
        obtain ⟨g99_, s100_⟩ := s97_.ro
        obtain ⟨t101_, e102_, k103_⟩ := g99_
        subst e102_
        have n104_ := k103_.length
        have s105_ : St f76_ (⟨Rep.raw 25, [.pointer (some ⟨r3, 0, none⟩)], [.int .i64 (d52_.1), .int .i64 (d52_.2.1), .slice t101_.1 t101_.2.1 t101_.2.2]⟩ :: ⟨Rep.obj 45 (Rep.prod (Rep.ro Ro.str) (Rep.prod (Rep.ro (Ro.int .i64)) (Rep.ro (Ro.int .i64)))), [.pointer r_0], d59_⟩ :: ⟨Rep.obj 25 (Rep.prod (Rep.ro (Ro.int .i64)) (Rep.prod (Rep.ro (Ro.int .i64)) (Rep.ro (Ro.list exRo)))), [.pointer (some ⟨r1, 0, none⟩)], d51_⟩ :: F) _ := s100_
        refine s_loadR (b := r3) (j := 0) (x := (d52_.1)) s105_ rfl ?_
        refine s_loadR (b := r3) (j := 1) (x := (d52_.2.1)) s105_ rfl ?_
        refine s_loadR (b := r3) (j := 2) (x := t101_) s105_ rfl ?_
        obtain ⟨b106_, vs107_, e108_, hl109_, s110_⟩ := s105_.at2.open
        obtain rfl : r1 = b106_ := by simpa using e108_
        clear e108_
        have s111_ := s110_.at1
        obtain ⟨v112_, w113_, rfl, hl115_, s114_⟩ := s111_.pair
        obtain ⟨g116_, s117_⟩ := s114_.ro
        subst g116_
        obtain ⟨v119_, w120_, rfl, hl122_, s121_⟩ := s117_.pair
        obtain ⟨g123_, s124_⟩ := s121_.ro
        subst g123_
        obtain ⟨g126_, s127_⟩ := s124_.ro
        obtain ⟨t128_, e129_, k130_⟩ := g126_
        subst e129_
        have n131_ := k130_.length
        have s132_ : St f76_ (⟨Rep.raw 25, [.pointer (some ⟨r1, 0, none⟩)], [.int .i64 (d51_.1), .int .i64 (d51_.2.1), .slice t128_.1 t128_.2.1 t128_.2.2]⟩ :: ⟨Rep.raw 25, [.pointer (some ⟨r3, 0, none⟩)], [.int .i64 (d52_.1), .int .i64 (d52_.2.1), .slice t101_.1 t101_.2.1 t101_.2.2]⟩ :: ⟨Rep.obj 45 (Rep.prod (Rep.ro Ro.str) (Rep.prod (Rep.ro (Ro.int .i64)) (Rep.ro (Ro.int .i64)))), [.pointer r_0], d59_⟩ :: F) _ := s127_
        refine s_put (b := r1) (j := 0) (v := .int .i64 (d52_.1)) s132_ rfl (show (0 : Nat) < 3 by decide) ?_
        intro h134_ s133_
        refine s_put (b := r1) (j := 1) (v := .int .i64 (d52_.2.1)) s133_ rfl (show (1 : Nat) < 3 by decide) ?_
        intro h136_ s135_
        refine s_put (b := r1) (j := 2) (v := .slice t101_.1 t101_.2.1 t101_.2.2) s135_ rfl (show (2 : Nat) < 3 by decide) ?_
        intro h138_ s137_
        refine s_loadR (b := r1) (j := 0) (x := (d52_.1)) s137_ rfl ?_
        refine s_loadR (b := r1) (j := 1) (x := (d52_.2.1)) s137_ rfl ?_
        refine s_loadR (b := r1) (j := 2) (x := t101_) s137_ rfl ?_
        obtain rfl := Option.some.inj he44_
        obtain rfl := hb45_ _ rfl
        try dsimp only at hd
        obtain rfl := Option.some.inj hd
        have s139_ := s137_.tail
        have s140_ := s139_.tail
        exact around_ret (finOf_ret ⟨f76_, ((d52_.1), (d52_.2.1), t101_, ()), d52_.2.2, d59_, ((((le12_.trans le47_).trans le58_).trans le65_).trans le77_), rfl, rfl, k103_, s140_⟩)
      · obtain ⟨b141_, vs142_, e143_, hl144_, s145_⟩ := s78_.open
        obtain rfl : r_0 = some ⟨b141_, 0, none⟩ := by simpa using e143_
        clear e143_
        have s146_ := s145_.at1
        obtain ⟨v147_, w148_, rfl, hl150_, s149_⟩ := s146_.pair
        obtain ⟨g151_, s152_⟩ := s149_.ro
        subst g151_
        obtain ⟨v154_, w155_, rfl, hl157_, s156_⟩ := s152_.pair
        obtain ⟨g158_, s159_⟩ := s156_.ro
        subst g158_
        obtain ⟨g161_, s162_⟩ := s159_.ro
        subst g161_
        have s164_ : St f76_ (⟨Rep.raw 45, [.pointer (some ⟨b141_, 0, none⟩)], [.string (d59_.1), .int .i64 (d59_.2.1), .int .i64 (d59_.2.2)]⟩ :: ⟨Rep.obj 25 (Rep.prod (Rep.ro (Ro.int .i64)) (Rep.prod (Rep.ro (Ro.int .i64)) (Rep.ro (Ro.list exRo)))), [.pointer (some ⟨r1, 0, none⟩)], d51_⟩ :: ⟨Rep.obj 25 (Rep.prod (Rep.ro (Ro.int .i64)) (Rep.prod (Rep.ro (Ro.int .i64)) (Rep.ro (Ro.list exRo)))), [.pointer (some ⟨r3, 0, none⟩)], d52_⟩ :: F) _ := s162_
        refine t_deref _ rfl ?_
        refine s_loadR (b := b141_) (j := 1) (x := (d59_.2.1)) s164_ rfl ?_
        refine t_deref _ rfl ?_
        refine s_put (b := b141_) (j := 1) (v := .int .i64 (IntKind.wrap .i64 ((d59_.2.1) + (1 : Int)))) s164_ rfl (show (1 : Nat) < 3 by decide) ?_
        intro h166_ s165_
        obtain ⟨b167_, vs168_, e169_, hl170_, s171_⟩ := s165_.at2.open
        obtain rfl : r3 = b167_ := by simpa using e169_
        clear e169_
        have s172_ := s171_.at1
        obtain ⟨v173_, w174_, rfl, hl176_, s175_⟩ := s172_.pair
        obtain ⟨g177_, s178_⟩ := s175_.ro
        subst g177_
        obtain ⟨v180_, w181_, rfl, hl183_, s182_⟩ := s178_.pair
        obtain ⟨g184_, s185_⟩ := s182_.ro
        subst g184_
        obtain ⟨g187_, s188_⟩ := s185_.ro
        obtain ⟨t189_, e190_, k191_⟩ := g187_
        subst e190_
        have n192_ := k191_.length
        have s193_ : St f76_ (⟨Rep.raw 25, [.pointer (some ⟨r3, 0, none⟩)], [.int .i64 (d52_.1), .int .i64 (d52_.2.1), .slice t189_.1 t189_.2.1 t189_.2.2]⟩ :: ⟨Rep.raw 45, [.pointer (some ⟨b141_, 0, none⟩)], [.string (d59_.1), .int .i64 (IntKind.wrap .i64 ((d59_.2.1) + (1 : Int))), .int .i64 (d59_.2.2)]⟩ :: ⟨Rep.obj 25 (Rep.prod (Rep.ro (Ro.int .i64)) (Rep.prod (Rep.ro (Ro.int .i64)) (Rep.ro (Ro.list exRo)))), [.pointer (some ⟨r1, 0, none⟩)], d51_⟩ :: F) _ := s188_
        refine s_loadR (b := r3) (j := 0) (x := (d52_.1)) s193_ rfl ?_
        refine s_loadR (b := r3) (j := 1) (x := (d52_.2.1)) s193_ rfl ?_
        refine s_loadR (b := r3) (j := 2) (x := t189_) s193_ rfl ?_
        have s194_ := St.unro (r := (Ro.int .i64)) (cs := [.int .i64 (d59_.2.2)]) (x := (d59_.2.2)) s193_ rfl
        have s195_ := St.unro (r := (Ro.int .i64)) (cs := [.int .i64 (IntKind.wrap .i64 ((d59_.2.1) + (1 : Int)))]) (x := (IntKind.wrap .i64 ((d59_.2.1) + (1 : Int)))) s194_ rfl
        have s196_ := St.unpair s195_
        have s197_ := St.unro (r := Ro.str) (cs := [.string (d59_.1)]) (x := (d59_.1)) s196_ rfl
        have s198_ := St.unpair s197_
        have s199_ : St f76_ (⟨Rep.obj 45 (Rep.prod (Rep.ro Ro.str) (Rep.prod (Rep.ro (Ro.int .i64)) (Rep.ro (Ro.int .i64)))), [.pointer (some ⟨b141_, 0, none⟩)], ((d59_.1), (IntKind.wrap .i64 ((d59_.2.1) + (1 : Int))), (d59_.2.2))⟩ :: ⟨Rep.raw 25, [.pointer (some ⟨r3, 0, none⟩)], [.int .i64 (d52_.1), .int .i64 (d52_.2.1), .slice t189_.1 t189_.2.1 t189_.2.2]⟩ :: ⟨Rep.obj 25 (Rep.prod (Rep.ro (Ro.int .i64)) (Rep.prod (Rep.ro (Ro.int .i64)) (Rep.ro (Ro.list exRo)))), [.pointer (some ⟨r1, 0, none⟩)], d51_⟩ :: F) _ := St.shut s198_.at2
        obtain ⟨r200_, hr201_, he44_⟩ := Option.bind_eq_some_iff.1 he44_
        refine s_callP (Hrec  s199_ hr201_) ?_ ?_
        · rintro _ h202_ ⟨f203_, t20, d206_, d209_, le205_, rfl, rfl, k208_, s204_⟩
          refine ⟨t20, rfl, ?_⟩
          try dsimp only at he44_
          have n207_ := k208_.length
          refine t_still (St.cell (b := r3) (j := 0) s204_.at1 rfl) ?_
          refine t_still (St.cell (b := r3) (j := 1) s204_.at1 rfl) ?_
          refine t_still (St.cell (b := r3) (j := 2) s204_.at1 rfl) ?_
          refine s_new (vs := [.int .i64 (d52_.1), .int .i64 (d52_.2.1), .slice t189_.1 t189_.2.1 t189_.2.2, .int .i64 t20.1, .int .i64 t20.2.1, .slice t20.2.2.1.1 t20.2.2.1.2.1 t20.2.2.1.2.2]) s204_ ?_
          intro r21 h211_ s210_
          refine s_put (b := r3) (j := 0) (v := .int .i64 t6) s210_.at2 rfl (show (0 : Nat) < 3 by decide) ?_
          intro h213_ s212_
          refine s_put (b := r3) (j := 1) (v := .int .i64 (0 : Int)) s212_ rfl (show (1 : Nat) < 3 by decide) ?_
          intro h215_ s214_
          refine s_put (b := r3) (j := 2) (v := .slice (some ⟨r21, 0, none⟩) 2 2) s214_ rfl (show (2 : Nat) < 3 by decide) ?_
          intro h217_ s216_
          have s218_ := St.lit (r := exRo) (l := ([(Ex.mk (d52_.1) (d52_.2.1) d52_.2.2), (Ex.mk t20.1 t20.2.1 d206_)] : List Ex)) (n := 2) s216_.at1 (.cons (a := [_, _, _]) (exRo_mk (φ := f203_) (cs := [_, _, _]) ⟨[_], _, rfl, rfl, ⟨[_], _, rfl, rfl, ⟨t189_, rfl, (k191_.mono le205_)⟩⟩⟩) (.cons (a := [_, _, _]) (exRo_mk (φ := f203_) (cs := [_, _, _]) ⟨[_], _, rfl, rfl, ⟨[_], _, rfl, rfl, ⟨t20.2.2.1, rfl, k208_⟩⟩⟩) .nil)) rfl (by decide)
          obtain ⟨f219_, le220_, k221_, s222_⟩ := St.freezeRow (t := ((some ⟨r21, 0, none⟩, 2, 2) : Slc)) s218_
          have s223_ := St.unro (r := (Ro.list exRo)) (cs := [.slice ((some ⟨r21, 0, none⟩, 2, 2) : Slc).1 ((some ⟨r21, 0, none⟩, 2, 2) : Slc).2.1 ((some ⟨r21, 0, none⟩, 2, 2) : Slc).2.2]) (x := ([(Ex.mk (d52_.1) (d52_.2.1) d52_.2.2), (Ex.mk t20.1 t20.2.1 d206_)] : List Ex)) s222_ ⟨((some ⟨r21, 0, none⟩, 2, 2) : Slc), rfl, k221_⟩
          have s224_ := St.unro (r := (Ro.int .i64)) (cs := [.int .i64 (0 : Int)]) (x := (0 : Int)) s223_ rfl
          have s225_ := St.unpair s224_
          have s226_ := St.unro (r := (Ro.int .i64)) (cs := [.int .i64 t6]) (x := t6) s225_ rfl
          have s227_ := St.unpair s226_
          have s228_ : St f219_ (⟨Rep.obj 25 (Rep.prod (Rep.ro (Ro.int .i64)) (Rep.prod (Rep.ro (Ro.int .i64)) (Rep.ro (Ro.list exRo)))), [.pointer (some ⟨r3, 0, none⟩)], (t6, (0 : Int), ([(Ex.mk (d52_.1) (d52_.2.1) d52_.2.2), (Ex.mk t20.1 t20.2.1 d206_)] : List Ex))⟩ :: ⟨Rep.obj 45 (Rep.prod (Rep.ro Ro.str) (Rep.prod (Rep.ro (Ro.int .i64)) (Rep.ro (Ro.int .i64)))), [.pointer (some ⟨b141_, 0, none⟩)], d209_⟩ :: ⟨Rep.obj 25 (Rep.prod (Rep.ro (Ro.int .i64)) (Rep.prod (Rep.ro (Ro.int .i64)) (Rep.ro (Ro.list exRo)))), [.pointer (some ⟨r1, 0, none⟩)], d51_⟩ :: F) _ := St.shut s227_.at1
          have s229_ := s228_.at2
          have s230_ := s229_.at2
          obtain rfl := Option.some.inj he44_
          exact s_next (()) _ rfl rfl ⟨f219_, d209_, d51_, (t6, (0 : Int), ([(Ex.mk (d52_.1) (d52_.2.1) d52_.2.2), (Ex.mk t20.1 t20.2.1 d206_)] : List Ex)), (((((le47_.trans le58_).trans le65_).trans le77_).trans le205_).trans le220_), rfl, s230_⟩
        · rintro _ h231_ ⟨f232_, co235_, ca236_, d237_, le234_, rfl, rfl, s233_⟩
          try dsimp only at he44_
          obtain rfl := Option.some.inj he44_
          obtain rfl := hb45_ _ rfl
          try dsimp only at hd
          obtain rfl := Option.some.inj hd
          have s238_ := s233_.at1.tail
          have s239_ := s238_.at1.tail
          exact around_pan (finOf_pan ⟨f232_, co235_, ca236_, d237_, (((((le12_.trans le47_).trans le58_).trans le65_).trans le77_).trans le234_), rfl, rfl, s239_⟩)
  · rintro _ h242_ ⟨f243_, co246_, ca247_, d248_, le245_, rfl, rfl, s244_⟩
    try dsimp only at hd
    obtain rfl := Option.some.inj hd
    have s249_ := s244_.at1.tail
    exact finOf_pan ⟨f243_, co246_, ca247_, d248_, le245_, rfl, rfl, s249_⟩

noncomputable def expr_reader_product_D (rec : (ByteArray × Int × Int) → Option (Step (Int × Int × List Ex × (ByteArray × Int × Int)) (Int × Int))) (r_0 : (ByteArray × Int × Int)) : Option (Step (Int × Int × List Ex × (ByteArray × Int × Int)) (Int × Int)) :=
  (expr_reader_chain_46_D rec r_0 (7 : Int) (9 : Int)).bind fun e_t2 => match e_t2 with
  | .next t2 =>
    some (Step.next (t2.1, t2.2.1, t2.2.2.1, t2.2.2.2))
  | .done p_t2 => some (Step.done p_t2)
theorem expr_reader_product_sim {rec : (ByteArray × Int × Int) → Option (Step (Int × Int × List Ex × (ByteArray × Int × Int)) (Int × Int))} (Hrec : expr_reader_factor_C rec) {φ : Snap} {h : Heap} {F : List Chk} {r_0 : Option Addr} {d_r_0 : (ByteArray × Int × Int)}  (s0 : St φ (⟨Rep.obj 45 (Rep.prod (Rep.ro Ro.str) (Rep.prod (Rep.ro (Ro.int .i64)) (Rep.ro (Ro.int .i64)))), [.pointer r_0], d_r_0⟩ :: F) h) {r : (Step (Int × Int × List Ex × (ByteArray × Int × Int)) (Int × Int))} (hd : expr_reader_product_D rec d_r_0 = some r) :
    CallsH Tryd.prog 38 [(.pointer r_0)] h (Ends2 (fun v h' => ∃ ψ : Snap, ∃ y : Int × Int × (Option Addr × Nat × Nat) × Unit, ∃ l1_ : List Ex, ∃ l2_ : (ByteArray × Int × Int), Sub φ ψ ∧ v = ((.one (.agg [(.int .i64), (.int .i64), .slice])) : Sh).val y ∧ Step.next (y.1, y.2.1, l1_, l2_) = r ∧ Ro.SliceIs exRo ψ y.2.2.1 l1_ ∧ St ψ (⟨Rep.obj 45 (Rep.prod (Rep.ro Ro.str) (Rep.prod (Rep.ro (Ro.int .i64)) (Rep.ro (Ro.int .i64)))), [.pointer r_0], l2_⟩ :: F) h') (fun c h' => ∃ ψ : Snap, ∃ code at_ : Int, ∃ l3_ : (ByteArray × Int × Int), Sub φ ψ ∧ c = [{ v := .iface 41 (.agg #[.int .i64 code, .int .i64 at_]), recovered := false }] ∧ Step.done (code, at_) = r ∧ St ψ (⟨Rep.obj 45 (Rep.prod (Rep.ro Ro.str) (Rep.prod (Rep.ro (Ro.int .i64)) (Rep.ro (Ro.int .i64)))), [.pointer r_0], l3_⟩ :: F) h')) := by
  refine calls_of mixed Tryd.func38 ?_
  rw [expr_reader_product_den]
  unfold expr_reader_product_T
  unfold expr_reader_product_D at hd
  try dsimp only [Ex.kind_mk, Ex.n_mk, Ex.kids_mk] at hd
  refine s_new (vs := [.int .i64 (0 : Int), .int .i64 (0 : Int), .slice none 0 0]) s0 ?_
  intro r1 h5_ s4_
  have s6_ := s4_.at1
  obtain ⟨r7_, hr8_, hd⟩ := Option.bind_eq_some_iff.1 hd
  refine s_callP (expr_reader_chain_46_sim Hrec  s6_ hr8_) ?_ ?_
  · rintro _ h9_ ⟨f10_, t2, d13_, d16_, le12_, rfl, rfl, k15_, s11_⟩
    refine ⟨t2, rfl, ?_⟩
    try dsimp only at hd
    have n14_ := k15_.length
    refine s_put (b := r1) (j := 0) (v := .int .i64 t2.1) s11_.at1 rfl (show (0 : Nat) < 3 by decide) ?_
    intro h18_ s17_
    refine s_put (b := r1) (j := 1) (v := .int .i64 t2.2.1) s17_ rfl (show (1 : Nat) < 3 by decide) ?_
    intro h20_ s19_
    refine s_put (b := r1) (j := 2) (v := .slice t2.2.2.1.1 t2.2.2.1.2.1 t2.2.2.1.2.2) s19_ rfl (show (2 : Nat) < 3 by decide) ?_
    intro h22_ s21_
    refine s_loadR (b := r1) (j := 0) (x := t2.1) s21_ rfl ?_
    refine s_loadR (b := r1) (j := 1) (x := t2.2.1) s21_ rfl ?_
    refine s_loadR (b := r1) (j := 2) (x := t2.2.2.1) s21_ rfl ?_
    obtain rfl := Option.some.inj hd
    have s23_ := s21_.tail
    exact finOf_ret ⟨f10_, (t2.1, t2.2.1, t2.2.2.1, ()), d13_, d16_, le12_, rfl, rfl, k15_, s23_⟩
  · rintro _ h24_ ⟨f25_, co28_, ca29_, d30_, le27_, rfl, rfl, s26_⟩
    try dsimp only at hd
    obtain rfl := Option.some.inj hd
    have s31_ := s26_.at1.tail
    exact finOf_pan ⟨f25_, co28_, ca29_, d30_, le27_, rfl, rfl, s31_⟩

noncomputable def expr_reader_chain_38_D (rec : (ByteArray × Int × Int) → Option (Step (Int × Int × List Ex × (ByteArray × Int × Int)) (Int × Int))) (r_0 : (ByteArray × Int × Int)) (from_2 : Int) (to_3 : Int) : Option (Step (Int × Int × List Ex × (ByteArray × Int × Int)) (Int × Int)) :=
  (expr_reader_product_D rec r_0).bind fun e_t2 => match e_t2 with
  | .next t2 =>
    (loop (σ := ((ByteArray × Int × Int) × (Int × Int × List Ex) × (Int × Int × List Ex))) (β := (Sum (Int × Int × List Ex × (ByteArray × Int × Int)) (Int × Int))) (t2.2.2.2, ((0 : Int), (0 : Int), ([] : List Ex)), (t2.1, t2.2.1, t2.2.2.1)) fun z4 =>
      (expr_reader_now_D z4.1).bind fun t5 =>
      (expr_sign_D t5.1).bind fun t6 =>
      (cond (decide (t6 < from_2))
      (some true)
      (some (decide (t6 > to_3)))).bind fun z7 =>
      cond z7
      (some (Step.done (.inl ((z4.2.2.1), (z4.2.2.2.1), z4.2.2.2.2, t5.2))))
      ((expr_reader_product_D rec ((t5.2.1), (IntKind.wrap .i64 ((t5.2.2.1) + (1 : Int))), (t5.2.2.2))).bind fun e_t20 => match e_t20 with
        | .next t20 =>
          some (Step.next (t20.2.2.2, z4.2.1, (t6, (0 : Int), ([(Ex.mk (z4.2.2.1) (z4.2.2.2.1) z4.2.2.2.2), (Ex.mk t20.1 t20.2.1 t20.2.2.1)] : List Ex))))
        | .done p_t20 => some (Step.done (.inr p_t20)))).bind fun q241 =>
    (match q241 with | .inl p => some (Step.next p) | .inr p => some (Step.done p))
  | .done p_t2 => some (Step.done p_t2)
theorem expr_reader_chain_38_sim {rec : (ByteArray × Int × Int) → Option (Step (Int × Int × List Ex × (ByteArray × Int × Int)) (Int × Int))} (Hrec : expr_reader_factor_C rec) {φ : Snap} {h : Heap} {F : List Chk} {r_0 : Option Addr} {d_r_0 : (ByteArray × Int × Int)} {from_2 : Int} {to_3 : Int}  (s0 : St φ (⟨Rep.obj 45 (Rep.prod (Rep.ro Ro.str) (Rep.prod (Rep.ro (Ro.int .i64)) (Rep.ro (Ro.int .i64)))), [.pointer r_0], d_r_0⟩ :: F) h) {r : (Step (Int × Int × List Ex × (ByteArray × Int × Int)) (Int × Int))} (hd : expr_reader_chain_38_D rec d_r_0 from_2 to_3 = some r) :
    CallsH Tryd.prog 37 [(.pointer r_0), (.func (.func 38) #[(.pointer r_0)] #[]), (.int .i64 from_2), (.int .i64 to_3)] h (Ends2 (fun v h' => ∃ ψ : Snap, ∃ y : Int × Int × (Option Addr × Nat × Nat) × Unit, ∃ l1_ : List Ex, ∃ l2_ : (ByteArray × Int × Int), Sub φ ψ ∧ v = ((.one (.agg [(.int .i64), (.int .i64), .slice])) : Sh).val y ∧ Step.next (y.1, y.2.1, l1_, l2_) = r ∧ Ro.SliceIs exRo ψ y.2.2.1 l1_ ∧ St ψ (⟨Rep.obj 45 (Rep.prod (Rep.ro Ro.str) (Rep.prod (Rep.ro (Ro.int .i64)) (Rep.ro (Ro.int .i64)))), [.pointer r_0], l2_⟩ :: F) h') (fun c h' => ∃ ψ : Snap, ∃ code at_ : Int, ∃ l3_ : (ByteArray × Int × Int), Sub φ ψ ∧ c = [{ v := .iface 41 (.agg #[.int .i64 code, .int .i64 at_]), recovered := false }] ∧ Step.done (code, at_) = r ∧ St ψ (⟨Rep.obj 45 (Rep.prod (Rep.ro Ro.str) (Rep.prod (Rep.ro (Ro.int .i64)) (Rep.ro (Ro.int .i64)))), [.pointer r_0], l3_⟩ :: F) h')) := by
  refine calls_of mixed Tryd.func37 ?_
  rw [expr_reader_chain_38_den]
  unfold expr_reader_chain_38_T
  unfold expr_reader_chain_38_D at hd
  try dsimp only [Ex.kind_mk, Ex.n_mk, Ex.kids_mk] at hd
  refine s_new (vs := [.int .i64 (0 : Int), .int .i64 (0 : Int), .slice none 0 0]) s0 ?_
  intro r1 h5_ s4_
  have s6_ := s4_.at1
  obtain ⟨r7_, hr8_, hd⟩ := Option.bind_eq_some_iff.1 hd
  refine s_callP (expr_reader_product_sim Hrec  s6_ hr8_) ?_ ?_
  · rintro _ h9_ ⟨f10_, t2, d13_, d16_, le12_, rfl, rfl, k15_, s11_⟩
    refine ⟨t2, rfl, ?_⟩
    try dsimp only at hd
    have n14_ := k15_.length
    refine s_new (vs := [.int .i64 (0 : Int), .int .i64 (0 : Int), .slice none 0 0]) s11_ ?_
    intro r3 h18_ s17_
    refine s_put (b := r3) (j := 0) (v := .int .i64 t2.1) s17_ rfl (show (0 : Nat) < 3 by decide) ?_
    intro h20_ s19_
    refine s_put (b := r3) (j := 1) (v := .int .i64 t2.2.1) s19_ rfl (show (1 : Nat) < 3 by decide) ?_
    intro h22_ s21_
    refine s_put (b := r3) (j := 2) (v := .slice t2.2.2.1.1 t2.2.2.1.2.1 t2.2.2.1.2.2) s21_ rfl (show (2 : Nat) < 3 by decide) ?_
    intro h24_ s23_
    have s25_ := St.unro (r := (Ro.list exRo)) (cs := [.slice ((none, 0, 0) : Slc).1 ((none, 0, 0) : Slc).2.1 ((none, 0, 0) : Slc).2.2]) (x := ([] : List Ex)) s23_ ⟨((none, 0, 0) : Slc), rfl, (Ro.SliceIs.nil exRo f10_)⟩
    have s26_ := St.unro (r := (Ro.int .i64)) (cs := [.int .i64 (0 : Int)]) (x := (0 : Int)) s25_ rfl
    have s27_ := St.unpair s26_
    have s28_ := St.unro (r := (Ro.int .i64)) (cs := [.int .i64 (0 : Int)]) (x := (0 : Int)) s27_ rfl
    have s29_ := St.unpair s28_
    have s30_ : St f10_ (⟨Rep.obj 25 (Rep.prod (Rep.ro (Ro.int .i64)) (Rep.prod (Rep.ro (Ro.int .i64)) (Rep.ro (Ro.list exRo)))), [.pointer (some ⟨r1, 0, none⟩)], ((0 : Int), (0 : Int), ([] : List Ex))⟩ :: ⟨Rep.raw 25, [.pointer (some ⟨r3, 0, none⟩)], [.int .i64 t2.1, .int .i64 t2.2.1, .slice t2.2.2.1.1 t2.2.2.1.2.1 t2.2.2.1.2.2]⟩ :: ⟨Rep.obj 45 (Rep.prod (Rep.ro Ro.str) (Rep.prod (Rep.ro (Ro.int .i64)) (Rep.ro (Ro.int .i64)))), [.pointer r_0], d16_⟩ :: F) _ := St.shut s29_.at3
    have s31_ := St.unro (r := (Ro.list exRo)) (cs := [.slice t2.2.2.1.1 t2.2.2.1.2.1 t2.2.2.1.2.2]) (x := d13_) s30_ ⟨t2.2.2.1, rfl, k15_⟩
    have s32_ := St.unro (r := (Ro.int .i64)) (cs := [.int .i64 t2.2.1]) (x := t2.2.1) s31_ rfl
    have s33_ := St.unpair s32_
    have s34_ := St.unro (r := (Ro.int .i64)) (cs := [.int .i64 t2.1]) (x := t2.1) s33_ rfl
    have s35_ := St.unpair s34_
    have s36_ : St f10_ (⟨Rep.obj 25 (Rep.prod (Rep.ro (Ro.int .i64)) (Rep.prod (Rep.ro (Ro.int .i64)) (Rep.ro (Ro.list exRo)))), [.pointer (some ⟨r3, 0, none⟩)], (t2.1, t2.2.1, d13_)⟩ :: ⟨Rep.obj 25 (Rep.prod (Rep.ro (Ro.int .i64)) (Rep.prod (Rep.ro (Ro.int .i64)) (Rep.ro (Ro.list exRo)))), [.pointer (some ⟨r1, 0, none⟩)], ((0 : Int), (0 : Int), ([] : List Ex))⟩ :: ⟨Rep.obj 45 (Rep.prod (Rep.ro Ro.str) (Rep.prod (Rep.ro (Ro.int .i64)) (Rep.ro (Ro.int .i64)))), [.pointer r_0], d16_⟩ :: F) _ := St.shut s35_.at2
    have s37_ := s36_.at1
    have s38_ := s37_.at2
    obtain ⟨g39_, hx40_, hd⟩ := Option.bind_eq_some_iff.1 hd
    refine s_loop hx40_ (fun (y : Unit) w_ g => ∃ ψ : Snap, ∃ l41_ : (ByteArray × Int × Int), ∃ l42_ : (Int × Int × List Ex), ∃ l43_ : (Int × Int × List Ex), Sub f10_ ψ ∧ (l41_, l42_, l43_) = g ∧ St ψ (⟨Rep.obj 45 (Rep.prod (Rep.ro Ro.str) (Rep.prod (Rep.ro (Ro.int .i64)) (Rep.ro (Ro.int .i64)))), [.pointer r_0], l41_⟩ :: ⟨Rep.obj 25 (Rep.prod (Rep.ro (Ro.int .i64)) (Rep.prod (Rep.ro (Ro.int .i64)) (Rep.ro (Ro.list exRo)))), [.pointer (some ⟨r1, 0, none⟩)], l42_⟩ :: ⟨Rep.obj 25 (Rep.prod (Rep.ro (Ro.int .i64)) (Rep.prod (Rep.ro (Ro.int .i64)) (Rep.ro (Ro.list exRo)))), [.pointer (some ⟨r3, 0, none⟩)], l43_⟩ :: F) w_) (()) rfl ⟨f10_, d16_, ((0 : Int), (0 : Int), ([] : List Ex)), (t2.1, t2.2.1, d13_), (Sub.refl _), rfl, s38_⟩ ?_
    rintro z4 h49_ _ _ ⟨f46_, d50_, d51_, d52_, le47_, rfl, s48_⟩ he44_ hb45_
    try dsimp only at he44_
    obtain ⟨r53_, hr54_, he44_⟩ := Option.bind_eq_some_iff.1 he44_
    refine s_call (expr_reader_now_sim  s48_ hr54_) ?_
    rintro _ h55_ ⟨f56_, t5, d59_, le58_, rfl, rfl, s57_⟩
    refine ⟨t5, rfl, ?_⟩
    try dsimp only at he44_
    obtain ⟨r60_, hr61_, he44_⟩ := Option.bind_eq_some_iff.1 he44_
    refine s_call (expr_sign_sim  s57_ hr61_) ?_
    rintro _ h62_ ⟨f63_, t6, le65_, rfl, rfl, s64_⟩
    refine ⟨t6, rfl, ?_⟩
    obtain ⟨g66_, hx67_, he44_⟩ := Option.bind_eq_some_iff.1 he44_
    refine s_join (fun (y : Bool × Unit) w_ g => ∃ ψ : Snap, Sub f63_ ψ ∧ y.1 = g ∧ St ψ (⟨Rep.obj 45 (Rep.prod (Rep.ro Ro.str) (Rep.prod (Rep.ro (Ro.int .i64)) (Rep.ro (Ro.int .i64)))), [.pointer r_0], d59_⟩ :: ⟨Rep.obj 25 (Rep.prod (Rep.ro (Ro.int .i64)) (Rep.prod (Rep.ro (Ro.int .i64)) (Rep.ro (Ro.list exRo)))), [.pointer (some ⟨r1, 0, none⟩)], d51_⟩ :: ⟨Rep.obj 25 (Rep.prod (Rep.ro (Ro.int .i64)) (Rep.prod (Rep.ro (Ro.int .i64)) (Rep.ro (Ro.list exRo)))), [.pointer (some ⟨r3, 0, none⟩)], d52_⟩ :: F) w_) (g := g66_) ?_ ?_
    · refine s_cond hx67_ rfl (fun hb74_ hx67_ => ?_) (fun hb74_ hx67_ => ?_)
      · have s68_ := s64_.at2
        have s69_ := s68_.at2
        have s70_ := s69_.at2
        obtain rfl := Option.some.inj hx67_
        exact s_out (true, ()) rfl ⟨f63_, (Sub.refl _), rfl, s70_⟩
      · have s71_ := s64_.at2
        have s72_ := s71_.at2
        have s73_ := s72_.at2
        obtain rfl := Option.some.inj hx67_
        exact s_out ((decide (t6 > to_3)), ()) rfl ⟨f63_, (Sub.refl _), rfl, s73_⟩
    · rintro z7 h75_ ⟨f76_, le77_, rfl, s78_⟩
      try dsimp only at he44_
      refine s_cond he44_ rfl (fun hb240_ he44_ => ?_) (fun hb240_ he44_ => ?_)
      · obtain ⟨b79_, vs80_, e81_, hl82_, s83_⟩ := s78_.at2.open
        obtain rfl : r3 = b79_ := by simpa using e81_
        clear e81_
        have s84_ := s83_.at1
        obtain ⟨v85_, w86_, rfl, hl88_, s87_⟩ := s84_.pair
        obtain ⟨g89_, s90_⟩ := s87_.ro
        subst g89_
        obtain ⟨v92_, w93_, rfl, hl95_, s94_⟩ := s90_.pair
        obtain ⟨g96_, s97_⟩ := s94_.ro
        subst g96_
        obtain ⟨g99_, s100_⟩ := s97_.ro
        obtain ⟨t101_, e102_, k103_⟩ := g99_
        subst e102_
        have n104_ := k103_.length
        have s105_ : St f76_ (⟨Rep.raw 25, [.pointer (some ⟨r3, 0, none⟩)], [.int .i64 (d52_.1), .int .i64 (d52_.2.1), .slice t101_.1 t101_.2.1 t101_.2.2]⟩ :: ⟨Rep.obj 45 (Rep.prod (Rep.ro Ro.str) (Rep.prod (Rep.ro (Ro.int .i64)) (Rep.ro (Ro.int .i64)))), [.pointer r_0], d59_⟩ :: ⟨Rep.obj 25 (Rep.prod (Rep.ro (Ro.int .i64)) (Rep.prod (Rep.ro (Ro.int .i64)) (Rep.ro (Ro.list exRo)))), [.pointer (some ⟨r1, 0, none⟩)], d51_⟩ :: F) _ := s100_
        refine s_loadR (b := r3) (j := 0) (x := (d52_.1)) s105_ rfl ?_
        refine s_loadR (b := r3) (j := 1) (x := (d52_.2.1)) s105_ rfl ?_
        refine s_loadR (b := r3) (j := 2) (x := t101_) s105_ rfl ?_
        obtain ⟨b106_, vs107_, e108_, hl109_, s110_⟩ := s105_.at2.open
        obtain rfl : r1 = b106_ := by simpa using e108_
        clear e108_
        have s111_ := s110_.at1
        obtain ⟨v112_, w113_, rfl, hl115_, s114_⟩ := s111_.pair
        obtain ⟨g116_, s117_⟩ := s114_.ro
        subst g116_
        obtain ⟨v119_, w120_, rfl, hl122_, s121_⟩ := s117_.pair
        obtain ⟨g123_, s124_⟩ := s121_.ro
        subst g123_
        obtain ⟨g126_, s127_⟩ := s124_.ro
        obtain ⟨t128_, e129_, k130_⟩ := g126_
        subst e129_
        have n131_ := k130_.length
        have s132_ : St f76_ (⟨Rep.raw 25, [.pointer (some ⟨r1, 0, none⟩)], [.int .i64 (d51_.1), .int .i64 (d51_.2.1), .slice t128_.1 t128_.2.1 t128_.2.2]⟩ :: ⟨Rep.raw 25, [.pointer (some ⟨r3, 0, none⟩)], [.int .i64 (d52_.1), .int .i64 (d52_.2.1), .slice t101_.1 t101_.2.1 t101_.2.2]⟩ :: ⟨Rep.obj 45 (Rep.prod (Rep.ro Ro.str) (Rep.prod (Rep.ro (Ro.int .i64)) (Rep.ro (Ro.int .i64)))), [.pointer r_0], d59_⟩ :: F) _ := s127_
        refine s_put (b := r1) (j := 0) (v := .int .i64 (d52_.1)) s132_ rfl (show (0 : Nat) < 3 by decide) ?_
        intro h134_ s133_
        refine s_put (b := r1) (j := 1) (v := .int .i64 (d52_.2.1)) s133_ rfl (show (1 : Nat) < 3 by decide) ?_
        intro h136_ s135_
        refine s_put (b := r1) (j := 2) (v := .slice t101_.1 t101_.2.1 t101_.2.2) s135_ rfl (show (2 : Nat) < 3 by decide) ?_
        intro h138_ s137_
        refine s_loadR (b := r1) (j := 0) (x := (d52_.1)) s137_ rfl ?_
        refine s_loadR (b := r1) (j := 1) (x := (d52_.2.1)) s137_ rfl ?_
        refine s_loadR (b := r1) (j := 2) (x := t101_) s137_ rfl ?_
        obtain rfl := Option.some.inj he44_
        obtain rfl := hb45_ _ rfl
        try dsimp only at hd
        obtain rfl := Option.some.inj hd
        have s139_ := s137_.tail
        have s140_ := s139_.tail
        exact around_ret (finOf_ret ⟨f76_, ((d52_.1), (d52_.2.1), t101_, ()), d52_.2.2, d59_, ((((le12_.trans le47_).trans le58_).trans le65_).trans le77_), rfl, rfl, k103_, s140_⟩)
      · obtain ⟨b141_, vs142_, e143_, hl144_, s145_⟩ := s78_.open
        obtain rfl : r_0 = some ⟨b141_, 0, none⟩ := by simpa using e143_
        clear e143_
        have s146_ := s145_.at1
        obtain ⟨v147_, w148_, rfl, hl150_, s149_⟩ := s146_.pair
        obtain ⟨g151_, s152_⟩ := s149_.ro
        subst g151_
        obtain ⟨v154_, w155_, rfl, hl157_, s156_⟩ := s152_.pair
        obtain ⟨g158_, s159_⟩ := s156_.ro
        subst g158_
        obtain ⟨g161_, s162_⟩ := s159_.ro
        subst g161_
        have s164_ : St f76_ (⟨Rep.raw 45, [.pointer (some ⟨b141_, 0, none⟩)], [.string (d59_.1), .int .i64 (d59_.2.1), .int .i64 (d59_.2.2)]⟩ :: ⟨Rep.obj 25 (Rep.prod (Rep.ro (Ro.int .i64)) (Rep.prod (Rep.ro (Ro.int .i64)) (Rep.ro (Ro.list exRo)))), [.pointer (some ⟨r1, 0, none⟩)], d51_⟩ :: ⟨Rep.obj 25 (Rep.prod (Rep.ro (Ro.int .i64)) (Rep.prod (Rep.ro (Ro.int .i64)) (Rep.ro (Ro.list exRo)))), [.pointer (some ⟨r3, 0, none⟩)], d52_⟩ :: F) _ := s162_
        refine t_deref _ rfl ?_
        refine s_loadR (b := b141_) (j := 1) (x := (d59_.2.1)) s164_ rfl ?_
        refine t_deref _ rfl ?_
        refine s_put (b := b141_) (j := 1) (v := .int .i64 (IntKind.wrap .i64 ((d59_.2.1) + (1 : Int)))) s164_ rfl (show (1 : Nat) < 3 by decide) ?_
        intro h166_ s165_
        obtain ⟨b167_, vs168_, e169_, hl170_, s171_⟩ := s165_.at2.open
        obtain rfl : r3 = b167_ := by simpa using e169_
        clear e169_
        have s172_ := s171_.at1
        obtain ⟨v173_, w174_, rfl, hl176_, s175_⟩ := s172_.pair
        obtain ⟨g177_, s178_⟩ := s175_.ro
        subst g177_
        obtain ⟨v180_, w181_, rfl, hl183_, s182_⟩ := s178_.pair
        obtain ⟨g184_, s185_⟩ := s182_.ro
        subst g184_
        obtain ⟨g187_, s188_⟩ := s185_.ro
        obtain ⟨t189_, e190_, k191_⟩ := g187_
        subst e190_
        have n192_ := k191_.length
        have s193_ : St f76_ (⟨Rep.raw 25, [.pointer (some ⟨r3, 0, none⟩)], [.int .i64 (d52_.1), .int .i64 (d52_.2.1), .slice t189_.1 t189_.2.1 t189_.2.2]⟩ :: ⟨Rep.raw 45, [.pointer (some ⟨b141_, 0, none⟩)], [.string (d59_.1), .int .i64 (IntKind.wrap .i64 ((d59_.2.1) + (1 : Int))), .int .i64 (d59_.2.2)]⟩ :: ⟨Rep.obj 25 (Rep.prod (Rep.ro (Ro.int .i64)) (Rep.prod (Rep.ro (Ro.int .i64)) (Rep.ro (Ro.list exRo)))), [.pointer (some ⟨r1, 0, none⟩)], d51_⟩ :: F) _ := s188_
        refine s_loadR (b := r3) (j := 0) (x := (d52_.1)) s193_ rfl ?_
        refine s_loadR (b := r3) (j := 1) (x := (d52_.2.1)) s193_ rfl ?_
        refine s_loadR (b := r3) (j := 2) (x := t189_) s193_ rfl ?_
        have s194_ := St.unro (r := (Ro.int .i64)) (cs := [.int .i64 (d59_.2.2)]) (x := (d59_.2.2)) s193_ rfl
        have s195_ := St.unro (r := (Ro.int .i64)) (cs := [.int .i64 (IntKind.wrap .i64 ((d59_.2.1) + (1 : Int)))]) (x := (IntKind.wrap .i64 ((d59_.2.1) + (1 : Int)))) s194_ rfl
        have s196_ := St.unpair s195_
        have s197_ := St.unro (r := Ro.str) (cs := [.string (d59_.1)]) (x := (d59_.1)) s196_ rfl
        have s198_ := St.unpair s197_
        have s199_ : St f76_ (⟨Rep.obj 45 (Rep.prod (Rep.ro Ro.str) (Rep.prod (Rep.ro (Ro.int .i64)) (Rep.ro (Ro.int .i64)))), [.pointer (some ⟨b141_, 0, none⟩)], ((d59_.1), (IntKind.wrap .i64 ((d59_.2.1) + (1 : Int))), (d59_.2.2))⟩ :: ⟨Rep.raw 25, [.pointer (some ⟨r3, 0, none⟩)], [.int .i64 (d52_.1), .int .i64 (d52_.2.1), .slice t189_.1 t189_.2.1 t189_.2.2]⟩ :: ⟨Rep.obj 25 (Rep.prod (Rep.ro (Ro.int .i64)) (Rep.prod (Rep.ro (Ro.int .i64)) (Rep.ro (Ro.list exRo)))), [.pointer (some ⟨r1, 0, none⟩)], d51_⟩ :: F) _ := St.shut s198_.at2
        obtain ⟨r200_, hr201_, he44_⟩ := Option.bind_eq_some_iff.1 he44_
        refine s_callP (expr_reader_product_sim Hrec  s199_ hr201_) ?_ ?_
        · rintro _ h202_ ⟨f203_, t20, d206_, d209_, le205_, rfl, rfl, k208_, s204_⟩
          refine ⟨t20, rfl, ?_⟩
          try dsimp only at he44_
          have n207_ := k208_.length
          refine t_still (St.cell (b := r3) (j := 0) s204_.at1 rfl) ?_
          refine t_still (St.cell (b := r3) (j := 1) s204_.at1 rfl) ?_
          refine t_still (St.cell (b := r3) (j := 2) s204_.at1 rfl) ?_
          refine s_new (vs := [.int .i64 (d52_.1), .int .i64 (d52_.2.1), .slice t189_.1 t189_.2.1 t189_.2.2, .int .i64 t20.1, .int .i64 t20.2.1, .slice t20.2.2.1.1 t20.2.2.1.2.1 t20.2.2.1.2.2]) s204_ ?_
          intro r21 h211_ s210_
          refine s_put (b := r3) (j := 0) (v := .int .i64 t6) s210_.at2 rfl (show (0 : Nat) < 3 by decide) ?_
          intro h213_ s212_
          refine s_put (b := r3) (j := 1) (v := .int .i64 (0 : Int)) s212_ rfl (show (1 : Nat) < 3 by decide) ?_
          intro h215_ s214_
          refine s_put (b := r3) (j := 2) (v := .slice (some ⟨r21, 0, none⟩) 2 2) s214_ rfl (show (2 : Nat) < 3 by decide) ?_
          intro h217_ s216_
          have s218_ := St.lit (r := exRo) (l := ([(Ex.mk (d52_.1) (d52_.2.1) d52_.2.2), (Ex.mk t20.1 t20.2.1 d206_)] : List Ex)) (n := 2) s216_.at1 (.cons (a := [_, _, _]) (exRo_mk (φ := f203_) (cs := [_, _, _]) ⟨[_], _, rfl, rfl, ⟨[_], _, rfl, rfl, ⟨t189_, rfl, (k191_.mono le205_)⟩⟩⟩) (.cons (a := [_, _, _]) (exRo_mk (φ := f203_) (cs := [_, _, _]) ⟨[_], _, rfl, rfl, ⟨[_], _, rfl, rfl, ⟨t20.2.2.1, rfl, k208_⟩⟩⟩) .nil)) rfl (by decide)
          obtain ⟨f219_, le220_, k221_, s222_⟩ := St.freezeRow (t := ((some ⟨r21, 0, none⟩, 2, 2) : Slc)) s218_
          have s223_ := St.unro (r := (Ro.list exRo)) (cs := [.slice ((some ⟨r21, 0, none⟩, 2, 2) : Slc).1 ((some ⟨r21, 0, none⟩, 2, 2) : Slc).2.1 ((some ⟨r21, 0, none⟩, 2, 2) : Slc).2.2]) (x := ([(Ex.mk (d52_.1) (d52_.2.1) d52_.2.2), (Ex.mk t20.1 t20.2.1 d206_)] : List Ex)) s222_ ⟨((some ⟨r21, 0, none⟩, 2, 2) : Slc), rfl, k221_⟩
          have s224_ := St.unro (r := (Ro.int .i64)) (cs := [.int .i64 (0 : Int)]) (x := (0 : Int)) s223_ rfl
          have s225_ := St.unpair s224_
          have s226_ := St.unro (r := (Ro.int .i64)) (cs := [.int .i64 t6]) (x := t6) s225_ rfl
          have s227_ := St.unpair s226_
          have s228_ : St f219_ (⟨Rep.obj 25 (Rep.prod (Rep.ro (Ro.int .i64)) (Rep.prod (Rep.ro (Ro.int .i64)) (Rep.ro (Ro.list exRo)))), [.pointer (some ⟨r3, 0, none⟩)], (t6, (0 : Int), ([(Ex.mk (d52_.1) (d52_.2.1) d52_.2.2), (Ex.mk t20.1 t20.2.1 d206_)] : List Ex))⟩ :: ⟨Rep.obj 45 (Rep.prod (Rep.ro Ro.str) (Rep.prod (Rep.ro (Ro.int .i64)) (Rep.ro (Ro.int .i64)))), [.pointer (some ⟨b141_, 0, none⟩)], d209_⟩ :: ⟨Rep.obj 25 (Rep.prod (Rep.ro (Ro.int .i64)) (Rep.prod (Rep.ro (Ro.int .i64)) (Rep.ro (Ro.list exRo)))), [.pointer (some ⟨r1, 0, none⟩)], d51_⟩ :: F) _ := St.shut s227_.at1
          have s229_ := s228_.at2
          have s230_ := s229_.at2
          obtain rfl := Option.some.inj he44_
          exact s_next (()) _ rfl rfl ⟨f219_, d209_, d51_, (t6, (0 : Int), ([(Ex.mk (d52_.1) (d52_.2.1) d52_.2.2), (Ex.mk t20.1 t20.2.1 d206_)] : List Ex)), (((((le47_.trans le58_).trans le65_).trans le77_).trans le205_).trans le220_), rfl, s230_⟩
        · rintro _ h231_ ⟨f232_, co235_, ca236_, d237_, le234_, rfl, rfl, s233_⟩
          try dsimp only at he44_
          obtain rfl := Option.some.inj he44_
          obtain rfl := hb45_ _ rfl
          try dsimp only at hd
          obtain rfl := Option.some.inj hd
          have s238_ := s233_.at1.tail
          have s239_ := s238_.at1.tail
          exact around_pan (finOf_pan ⟨f232_, co235_, ca236_, d237_, (((((le12_.trans le47_).trans le58_).trans le65_).trans le77_).trans le234_), rfl, rfl, s239_⟩)
  · rintro _ h242_ ⟨f243_, co246_, ca247_, d248_, le245_, rfl, rfl, s244_⟩
    try dsimp only at hd
    obtain rfl := Option.some.inj hd
    have s249_ := s244_.at1.tail
    exact finOf_pan ⟨f243_, co246_, ca247_, d248_, le245_, rfl, rfl, s249_⟩

noncomputable def expr_reader_sum_D (rec : (ByteArray × Int × Int) → Option (Step (Int × Int × List Ex × (ByteArray × Int × Int)) (Int × Int))) (r_0 : (ByteArray × Int × Int)) : Option (Step (Int × Int × List Ex × (ByteArray × Int × Int)) (Int × Int)) :=
  (expr_reader_chain_38_D rec r_0 (5 : Int) (6 : Int)).bind fun e_t2 => match e_t2 with
  | .next t2 =>
    some (Step.next (t2.1, t2.2.1, t2.2.2.1, t2.2.2.2))
  | .done p_t2 => some (Step.done p_t2)
theorem expr_reader_sum_sim {rec : (ByteArray × Int × Int) → Option (Step (Int × Int × List Ex × (ByteArray × Int × Int)) (Int × Int))} (Hrec : expr_reader_factor_C rec) {φ : Snap} {h : Heap} {F : List Chk} {r_0 : Option Addr} {d_r_0 : (ByteArray × Int × Int)}  (s0 : St φ (⟨Rep.obj 45 (Rep.prod (Rep.ro Ro.str) (Rep.prod (Rep.ro (Ro.int .i64)) (Rep.ro (Ro.int .i64)))), [.pointer r_0], d_r_0⟩ :: F) h) {r : (Step (Int × Int × List Ex × (ByteArray × Int × Int)) (Int × Int))} (hd : expr_reader_sum_D rec d_r_0 = some r) :
    CallsH Tryd.prog 26 [(.pointer r_0)] h (Ends2 (fun v h' => ∃ ψ : Snap, ∃ y : Int × Int × (Option Addr × Nat × Nat) × Unit, ∃ l1_ : List Ex, ∃ l2_ : (ByteArray × Int × Int), Sub φ ψ ∧ v = ((.one (.agg [(.int .i64), (.int .i64), .slice])) : Sh).val y ∧ Step.next (y.1, y.2.1, l1_, l2_) = r ∧ Ro.SliceIs exRo ψ y.2.2.1 l1_ ∧ St ψ (⟨Rep.obj 45 (Rep.prod (Rep.ro Ro.str) (Rep.prod (Rep.ro (Ro.int .i64)) (Rep.ro (Ro.int .i64)))), [.pointer r_0], l2_⟩ :: F) h') (fun c h' => ∃ ψ : Snap, ∃ code at_ : Int, ∃ l3_ : (ByteArray × Int × Int), Sub φ ψ ∧ c = [{ v := .iface 41 (.agg #[.int .i64 code, .int .i64 at_]), recovered := false }] ∧ Step.done (code, at_) = r ∧ St ψ (⟨Rep.obj 45 (Rep.prod (Rep.ro Ro.str) (Rep.prod (Rep.ro (Ro.int .i64)) (Rep.ro (Ro.int .i64)))), [.pointer r_0], l3_⟩ :: F) h')) := by
  refine calls_of mixed Tryd.func26 ?_
  rw [expr_reader_sum_den]
  unfold expr_reader_sum_T
  unfold expr_reader_sum_D at hd
  try dsimp only [Ex.kind_mk, Ex.n_mk, Ex.kids_mk] at hd
  refine s_new (vs := [.int .i64 (0 : Int), .int .i64 (0 : Int), .slice none 0 0]) s0 ?_
  intro r1 h5_ s4_
  have s6_ := s4_.at1
  obtain ⟨r7_, hr8_, hd⟩ := Option.bind_eq_some_iff.1 hd
  refine s_callP (expr_reader_chain_38_sim Hrec  s6_ hr8_) ?_ ?_
  · rintro _ h9_ ⟨f10_, t2, d13_, d16_, le12_, rfl, rfl, k15_, s11_⟩
    refine ⟨t2, rfl, ?_⟩
    try dsimp only at hd
    have n14_ := k15_.length
    refine s_put (b := r1) (j := 0) (v := .int .i64 t2.1) s11_.at1 rfl (show (0 : Nat) < 3 by decide) ?_
    intro h18_ s17_
    refine s_put (b := r1) (j := 1) (v := .int .i64 t2.2.1) s17_ rfl (show (1 : Nat) < 3 by decide) ?_
    intro h20_ s19_
    refine s_put (b := r1) (j := 2) (v := .slice t2.2.2.1.1 t2.2.2.1.2.1 t2.2.2.1.2.2) s19_ rfl (show (2 : Nat) < 3 by decide) ?_
    intro h22_ s21_
    refine s_loadR (b := r1) (j := 0) (x := t2.1) s21_ rfl ?_
    refine s_loadR (b := r1) (j := 1) (x := t2.2.1) s21_ rfl ?_
    refine s_loadR (b := r1) (j := 2) (x := t2.2.2.1) s21_ rfl ?_
    obtain rfl := Option.some.inj hd
    have s23_ := s21_.tail
    exact finOf_ret ⟨f10_, (t2.1, t2.2.1, t2.2.2.1, ()), d13_, d16_, le12_, rfl, rfl, k15_, s23_⟩
  · rintro _ h24_ ⟨f25_, co28_, ca29_, d30_, le27_, rfl, rfl, s26_⟩
    try dsimp only at hd
    obtain rfl := Option.some.inj hd
    have s31_ := s26_.at1.tail
    exact finOf_pan ⟨f25_, co28_, ca29_, d30_, le27_, rfl, rfl, s31_⟩

noncomputable def expr_reader_factor_B (rec : (ByteArray × Int × Int) → Option (Step (Int × Int × List Ex × (ByteArray × Int × Int)) (Int × Int))) (r_0 : (ByteArray × Int × Int)) : Option (Step (Int × Int × List Ex × (ByteArray × Int × Int)) (Int × Int)) :=
  (expr_reader_now_D r_0).bind fun t4 =>
  (((cond (decide ((((t4.2.1), (t4.2.2.1), (IntKind.wrap .i64 ((t4.2.2.2) + (1 : Int)))).2.2) > (20 : Int)))
  (cond (t4.1 == (45 : Int))
    (some true)
    (cond (t4.1 == (40 : Int))
      (some true)
      (cond (t4.1 == (36 : Int))
        (some true)
        (cond (t4.1 == (64 : Int))
          (some true)
          (cond (decide (t4.1 ≥ (48 : Int)))
            (some (decide (t4.1 ≤ (57 : Int))))
            (some false))))))
  (some false)).bind fun z9 =>
  ((cond z9
  ((expr_reader_fail_D ((t4.2.1), (t4.2.2.1), (IntKind.wrap .i64 ((t4.2.2.2) + (1 : Int)))) (13 : Int)).bind fun e_t15 => match e_t15 with
    | .next t15 =>
      some (Step.next ())
    | .done p_t15 => some (Step.done p_t15))
  (some (Step.next ()))) : Option (Step Unit (Int × Int))).bind fun e_z13 => match e_z13 with
  | .next z13 =>
    cond (t4.1 == (45 : Int))
    ((rec ((((t4.2.1), (t4.2.2.1), (IntKind.wrap .i64 ((t4.2.2.2) + (1 : Int)))).1), (IntKind.wrap .i64 ((((t4.2.1), (t4.2.2.1), (IntKind.wrap .i64 ((t4.2.2.2) + (1 : Int)))).2.1) + (1 : Int))), (((t4.2.1), (t4.2.2.1), (IntKind.wrap .i64 ((t4.2.2.2) + (1 : Int)))).2.2))).bind fun e_t21 => match e_t21 with
      | .next t21 =>
        some (Step.next (t21.2.2.2, ((4 : Int), (0 : Int), ([(Ex.mk t21.1 t21.2.1 t21.2.2.1)] : List Ex))))
      | .done p_t21 => some (Step.done p_t21))
    (cond (t4.1 == (40 : Int))
      ((expr_reader_sum_D rec ((((t4.2.1), (t4.2.2.1), (IntKind.wrap .i64 ((t4.2.2.2) + (1 : Int)))).1), (IntKind.wrap .i64 ((((t4.2.1), (t4.2.2.1), (IntKind.wrap .i64 ((t4.2.2.2) + (1 : Int)))).2.1) + (1 : Int))), (((t4.2.1), (t4.2.2.1), (IntKind.wrap .i64 ((t4.2.2.2) + (1 : Int)))).2.2))).bind fun e_t28 => match e_t28 with
        | .next t28 =>
          (expr_reader_now_D t28.2.2.2).bind fun t31 =>
          ((cond (t31.1 != (41 : Int))
          ((expr_reader_fail_D t31.2 (30 : Int)).bind fun e_t34 => match e_t34 with
            | .next t34 =>
              some (Step.next ())
            | .done p_t34 => some (Step.done p_t34))
          (some (Step.next ()))) : Option (Step Unit (Int × Int))).bind fun e_z32 => match e_z32 with
          | .next z32 =>
            some (Step.next (((t31.2.1), (IntKind.wrap .i64 ((t31.2.2.1) + (1 : Int))), (t31.2.2.2)), (t28.1, t28.2.1, t28.2.2.1)))
          | .done q451 => some (Step.done q451)
        | .done p_t28 => some (Step.done p_t28))
      (cond (t4.1 == (36 : Int))
        ((expr_reader_number_D ((((t4.2.1), (t4.2.2.1), (IntKind.wrap .i64 ((t4.2.2.2) + (1 : Int)))).1), (IntKind.wrap .i64 ((((t4.2.1), (t4.2.2.1), (IntKind.wrap .i64 ((t4.2.2.2) + (1 : Int)))).2.1) + (1 : Int))), (((t4.2.1), (t4.2.2.1), (IntKind.wrap .i64 ((t4.2.2.2) + (1 : Int)))).2.2))).bind fun e_t47 => match e_t47 with
          | .next t47 =>
            some (Step.next (t47.2, ((2 : Int), t47.1, ([] : List Ex))))
          | .done p_t47 => some (Step.done p_t47))
        (cond (t4.1 == (64 : Int))
          ((expr_reader_number_D ((((t4.2.1), (t4.2.2.1), (IntKind.wrap .i64 ((t4.2.2.2) + (1 : Int)))).1), (IntKind.wrap .i64 ((((t4.2.1), (t4.2.2.1), (IntKind.wrap .i64 ((t4.2.2.2) + (1 : Int)))).2.1) + (1 : Int))), (((t4.2.1), (t4.2.2.1), (IntKind.wrap .i64 ((t4.2.2.2) + (1 : Int)))).2.2))).bind fun e_t53 => match e_t53 with
            | .next t53 =>
              some (Step.next (t53.2, ((3 : Int), t53.1, ([] : List Ex))))
            | .done p_t53 => some (Step.done p_t53))
          ((expr_reader_number_D ((t4.2.1), (t4.2.2.1), (IntKind.wrap .i64 ((t4.2.2.2) + (1 : Int))))).bind fun e_t55 => match e_t55 with
            | .next t55 =>
              some (Step.next (t55.2, ((1 : Int), t55.1, ([] : List Ex))))
            | .done p_t55 => some (Step.done p_t55)))))
  | .done q708 => some (Step.done q708)) : Option (Step ((ByteArray × Int × Int) × (Int × Int × List Ex)) (Int × Int))).bind fun e_w709 => match e_w709 with
  | .next w709 =>
    some (Step.next ((w709.2.1), (w709.2.2.1), w709.2.2.2, ((w709.1.1), (w709.1.2.1), (IntKind.wrap .i64 ((w709.1.2.2) - 1)))))
  | .done p_w709 =>
    some (Step.done p_w709)
theorem expr_reader_factor_step {rec : (ByteArray × Int × Int) → Option (Step (Int × Int × List Ex × (ByteArray × Int × Int)) (Int × Int))} (Hrec : expr_reader_factor_C rec) {φ : Snap} {h : Heap} {F : List Chk} {r_0 : Option Addr} {d_r_0 : (ByteArray × Int × Int)}  (s0 : St φ (⟨Rep.obj 45 (Rep.prod (Rep.ro Ro.str) (Rep.prod (Rep.ro (Ro.int .i64)) (Rep.ro (Ro.int .i64)))), [.pointer r_0], d_r_0⟩ :: F) h) {r : (Step (Int × Int × List Ex × (ByteArray × Int × Int)) (Int × Int))} (hd : expr_reader_factor_B rec d_r_0 = some r) :
    CallsH Tryd.prog 46 [(.pointer r_0)] h (Ends2 (fun v h' => ∃ ψ : Snap, ∃ y : Int × Int × (Option Addr × Nat × Nat) × Unit, ∃ l1_ : List Ex, ∃ l2_ : (ByteArray × Int × Int), Sub φ ψ ∧ v = ((.one (.agg [(.int .i64), (.int .i64), .slice])) : Sh).val y ∧ Step.next (y.1, y.2.1, l1_, l2_) = r ∧ Ro.SliceIs exRo ψ y.2.2.1 l1_ ∧ St ψ (⟨Rep.obj 45 (Rep.prod (Rep.ro Ro.str) (Rep.prod (Rep.ro (Ro.int .i64)) (Rep.ro (Ro.int .i64)))), [.pointer r_0], l2_⟩ :: F) h') (fun c h' => ∃ ψ : Snap, ∃ code at_ : Int, ∃ l3_ : (ByteArray × Int × Int), Sub φ ψ ∧ c = [{ v := .iface 41 (.agg #[.int .i64 code, .int .i64 at_]), recovered := false }] ∧ Step.done (code, at_) = r ∧ St ψ (⟨Rep.obj 45 (Rep.prod (Rep.ro Ro.str) (Rep.prod (Rep.ro (Ro.int .i64)) (Rep.ro (Ro.int .i64)))), [.pointer r_0], l3_⟩ :: F) h')) := by
  refine calls_ofD mixed Tryd.func46 ?_
  rw [expr_reader_factor_den]
  unfold expr_reader_factor_T
  unfold expr_reader_factor_B at hd
  try dsimp only [Ex.kind_mk, Ex.n_mk, Ex.kids_mk] at hd
  obtain ⟨b_r_0, rfl⟩ := St.ptr s0
  refine s_new (vs := [.pointer (some ⟨b_r_0, 0, none⟩)]) s0 ?_
  intro r1 h5_ s4_
  refine s_new (vs := [.int .i64 (0 : Int), .int .i64 (0 : Int), .slice none 0 0]) s4_ ?_
  intro r2 h7_ s6_
  refine s_loadR (b := r1) (j := 0) (x := (some ⟨b_r_0, 0, none⟩)) s6_.at1 rfl ?_
  have s8_ := s6_.at2
  obtain ⟨r9_, hr10_, hd⟩ := Option.bind_eq_some_iff.1 hd
  refine s_call (expr_reader_now_sim  s8_ hr10_) ?_
  rintro _ h11_ ⟨f12_, t4, d15_, le14_, rfl, rfl, s13_⟩
  refine ⟨t4, rfl, ?_⟩
  try dsimp only at hd
  refine s_loadR (b := r1) (j := 0) (x := (some ⟨b_r_0, 0, none⟩)) s13_.at2 rfl ?_
  obtain ⟨b16_, vs17_, e18_, hl19_, s20_⟩ := s13_.open
  obtain rfl : b_r_0 = b16_ := by simpa using e18_
  clear e18_
  have s21_ := s20_.at1
  obtain ⟨v22_, w23_, rfl, hl25_, s24_⟩ := s21_.pair
  obtain ⟨g26_, s27_⟩ := s24_.ro
  subst g26_
  obtain ⟨v29_, w30_, rfl, hl32_, s31_⟩ := s27_.pair
  obtain ⟨g33_, s34_⟩ := s31_.ro
  subst g33_
  obtain ⟨g36_, s37_⟩ := s34_.ro
  subst g36_
  have s39_ : St f12_ (⟨Rep.raw 45, [.pointer (some ⟨b_r_0, 0, none⟩)], [.string (d15_.1), .int .i64 (d15_.2.1), .int .i64 (d15_.2.2)]⟩ :: ⟨Rep.raw 25, [.pointer (some ⟨r2, 0, none⟩)], [.int .i64 (0 : Int), .int .i64 (0 : Int), .slice none 0 0]⟩ :: ⟨Rep.raw 43, [.pointer (some ⟨r1, 0, none⟩)], [.pointer (some ⟨b_r_0, 0, none⟩)]⟩ :: F) _ := s37_
  refine t_deref _ rfl ?_
  refine s_loadR (b := b_r_0) (j := 2) (x := (d15_.2.2)) s39_ rfl ?_
  refine t_deref _ rfl ?_
  refine s_put (b := b_r_0) (j := 2) (v := .int .i64 (IntKind.wrap .i64 ((d15_.2.2) + (1 : Int)))) s39_ rfl (show (2 : Nat) < 3 by decide) ?_
  intro h41_ s40_
  have s42_ := St.unro (r := (Ro.int .i64)) (cs := [.int .i64 (IntKind.wrap .i64 ((d15_.2.2) + (1 : Int)))]) (x := (IntKind.wrap .i64 ((d15_.2.2) + (1 : Int)))) s40_ rfl
  have s43_ := St.unro (r := (Ro.int .i64)) (cs := [.int .i64 (d15_.2.1)]) (x := (d15_.2.1)) s42_ rfl
  have s44_ := St.unpair s43_
  have s45_ := St.unro (r := Ro.str) (cs := [.string (d15_.1)]) (x := (d15_.1)) s44_ rfl
  have s46_ := St.unpair s45_
  have s47_ : St f12_ (⟨Rep.obj 45 (Rep.prod (Rep.ro Ro.str) (Rep.prod (Rep.ro (Ro.int .i64)) (Rep.ro (Ro.int .i64)))), [.pointer (some ⟨b_r_0, 0, none⟩)], ((d15_.1), (d15_.2.1), (IntKind.wrap .i64 ((d15_.2.2) + (1 : Int))))⟩ :: ⟨Rep.raw 25, [.pointer (some ⟨r2, 0, none⟩)], [.int .i64 (0 : Int), .int .i64 (0 : Int), .slice none 0 0]⟩ :: ⟨Rep.raw 43, [.pointer (some ⟨r1, 0, none⟩)], [.pointer (some ⟨b_r_0, 0, none⟩)]⟩ :: F) _ := St.shut s46_.at1
  have s48_ := St.unro (r := (Ro.list exRo)) (cs := [.slice ((none, 0, 0) : Slc).1 ((none, 0, 0) : Slc).2.1 ((none, 0, 0) : Slc).2.2]) (x := ([] : List Ex)) s47_ ⟨((none, 0, 0) : Slc), rfl, (Ro.SliceIs.nil exRo f12_)⟩
  have s49_ := St.unro (r := (Ro.int .i64)) (cs := [.int .i64 (0 : Int)]) (x := (0 : Int)) s48_ rfl
  have s50_ := St.unpair s49_
  have s51_ := St.unro (r := (Ro.int .i64)) (cs := [.int .i64 (0 : Int)]) (x := (0 : Int)) s50_ rfl
  have s52_ := St.unpair s51_
  have s53_ : St f12_ (⟨Rep.obj 25 (Rep.prod (Rep.ro (Ro.int .i64)) (Rep.prod (Rep.ro (Ro.int .i64)) (Rep.ro (Ro.list exRo)))), [.pointer (some ⟨r2, 0, none⟩)], ((0 : Int), (0 : Int), ([] : List Ex))⟩ :: ⟨Rep.obj 45 (Rep.prod (Rep.ro Ro.str) (Rep.prod (Rep.ro (Ro.int .i64)) (Rep.ro (Ro.int .i64)))), [.pointer (some ⟨b_r_0, 0, none⟩)], ((d15_.1), (d15_.2.1), (IntKind.wrap .i64 ((d15_.2.2) + (1 : Int))))⟩ :: ⟨Rep.raw 43, [.pointer (some ⟨r1, 0, none⟩)], [.pointer (some ⟨b_r_0, 0, none⟩)]⟩ :: F) _ := St.shut s52_.at2
  obtain ⟨g54_, hx55_, hd⟩ := Option.bind_eq_some_iff.1 hd
  refine s_later (fun w_ => ∃ ψ : Snap, ∃ l56_ : (ByteArray × Int × Int), ∃ l57_ : (Int × Int × List Ex), Sub f12_ ψ ∧ Step.next (l56_, l57_) = g54_ ∧ St ψ (⟨Rep.obj 45 (Rep.prod (Rep.ro Ro.str) (Rep.prod (Rep.ro (Ro.int .i64)) (Rep.ro (Ro.int .i64)))), [.pointer (some ⟨b_r_0, 0, none⟩)], l56_⟩ :: ⟨Rep.obj 25 (Rep.prod (Rep.ro (Ro.int .i64)) (Rep.prod (Rep.ro (Ro.int .i64)) (Rep.ro (Ro.list exRo)))), [.pointer (some ⟨r2, 0, none⟩)], l57_⟩ :: ⟨Rep.raw 43, [.pointer (some ⟨r1, 0, none⟩)], [.pointer (some ⟨b_r_0, 0, none⟩)]⟩ :: F) w_) (fun c w_ => ∃ ψ : Snap, ∃ code at_ : Int, ∃ l56_ : (ByteArray × Int × Int), ∃ l57_ : (Int × Int × List Ex), Sub f12_ ψ ∧ c = [{ v := .iface 41 (.agg #[.int .i64 code, .int .i64 at_]), recovered := false }] ∧ Step.done (code, at_) = g54_ ∧ St ψ (⟨Rep.obj 45 (Rep.prod (Rep.ro Ro.str) (Rep.prod (Rep.ro (Ro.int .i64)) (Rep.ro (Ro.int .i64)))), [.pointer (some ⟨b_r_0, 0, none⟩)], l56_⟩ :: ⟨Rep.obj 25 (Rep.prod (Rep.ro (Ro.int .i64)) (Rep.prod (Rep.ro (Ro.int .i64)) (Rep.ro (Ro.list exRo)))), [.pointer (some ⟨r2, 0, none⟩)], l57_⟩ :: ⟨Rep.raw 43, [.pointer (some ⟨r1, 0, none⟩)], [.pointer (some ⟨b_r_0, 0, none⟩)]⟩ :: F) w_) ?_ ?_ ?_
  · obtain ⟨g58_, hx59_, hx55_⟩ := Option.bind_eq_some_iff.1 hx55_
    refine s_join (fun (y : Bool × Unit) w_ g => ∃ ψ : Snap, Sub f12_ ψ ∧ y.1 = g ∧ St ψ (⟨Rep.obj 25 (Rep.prod (Rep.ro (Ro.int .i64)) (Rep.prod (Rep.ro (Ro.int .i64)) (Rep.ro (Ro.list exRo)))), [.pointer (some ⟨r2, 0, none⟩)], ((0 : Int), (0 : Int), ([] : List Ex))⟩ :: ⟨Rep.obj 45 (Rep.prod (Rep.ro Ro.str) (Rep.prod (Rep.ro (Ro.int .i64)) (Rep.ro (Ro.int .i64)))), [.pointer (some ⟨b_r_0, 0, none⟩)], ((d15_.1), (d15_.2.1), (IntKind.wrap .i64 ((d15_.2.2) + (1 : Int))))⟩ :: ⟨Rep.raw 43, [.pointer (some ⟨r1, 0, none⟩)], [.pointer (some ⟨b_r_0, 0, none⟩)]⟩ :: F) w_) (g := g58_) ?_ ?_
    · refine s_loadR (b := r1) (j := 0) (x := (some ⟨b_r_0, 0, none⟩)) s53_.at2 rfl ?_
      obtain ⟨b60_, vs61_, e62_, hl63_, s64_⟩ := s53_.at1.open
      obtain rfl : b_r_0 = b60_ := by simpa using e62_
      clear e62_
      have s65_ := s64_.at1
      obtain ⟨v66_, w67_, rfl, hl69_, s68_⟩ := s65_.pair
      obtain ⟨g70_, s71_⟩ := s68_.ro
      subst g70_
      obtain ⟨v73_, w74_, rfl, hl76_, s75_⟩ := s71_.pair
      obtain ⟨g77_, s78_⟩ := s75_.ro
      subst g77_
      obtain ⟨g80_, s81_⟩ := s78_.ro
      subst g80_
      have s83_ : St f12_ (⟨Rep.raw 45, [.pointer (some ⟨b_r_0, 0, none⟩)], [.string ((d15_.1)), .int .i64 ((d15_.2.1)), .int .i64 ((IntKind.wrap .i64 ((d15_.2.2) + (1 : Int))))]⟩ :: ⟨Rep.obj 25 (Rep.prod (Rep.ro (Ro.int .i64)) (Rep.prod (Rep.ro (Ro.int .i64)) (Rep.ro (Ro.list exRo)))), [.pointer (some ⟨r2, 0, none⟩)], ((0 : Int), (0 : Int), ([] : List Ex))⟩ :: ⟨Rep.raw 43, [.pointer (some ⟨r1, 0, none⟩)], [.pointer (some ⟨b_r_0, 0, none⟩)]⟩ :: F) _ := s81_
      refine t_deref _ rfl ?_
      refine s_loadR (b := b_r_0) (j := 2) (x := ((IntKind.wrap .i64 ((d15_.2.2) + (1 : Int))))) s83_ rfl ?_
      refine s_cond hx59_ rfl (fun hb152_ hx59_ => ?_) (fun hb152_ hx59_ => ?_)
      · refine s_cond hx59_ rfl (fun hb142_ hx59_ => ?_) (fun hb142_ hx59_ => ?_)
        · have s84_ := St.unro (r := (Ro.int .i64)) (cs := [.int .i64 ((IntKind.wrap .i64 ((d15_.2.2) + (1 : Int))))]) (x := ((IntKind.wrap .i64 ((d15_.2.2) + (1 : Int))))) s83_ rfl
          have s85_ := St.unro (r := (Ro.int .i64)) (cs := [.int .i64 ((d15_.2.1))]) (x := ((d15_.2.1))) s84_ rfl
          have s86_ := St.unpair s85_
          have s87_ := St.unro (r := Ro.str) (cs := [.string ((d15_.1))]) (x := ((d15_.1))) s86_ rfl
          have s88_ := St.unpair s87_
          have s89_ : St f12_ (⟨Rep.obj 45 (Rep.prod (Rep.ro Ro.str) (Rep.prod (Rep.ro (Ro.int .i64)) (Rep.ro (Ro.int .i64)))), [.pointer (some ⟨b_r_0, 0, none⟩)], (((d15_.1)), ((d15_.2.1)), ((IntKind.wrap .i64 ((d15_.2.2) + (1 : Int)))))⟩ :: ⟨Rep.obj 25 (Rep.prod (Rep.ro (Ro.int .i64)) (Rep.prod (Rep.ro (Ro.int .i64)) (Rep.ro (Ro.list exRo)))), [.pointer (some ⟨r2, 0, none⟩)], ((0 : Int), (0 : Int), ([] : List Ex))⟩ :: ⟨Rep.raw 43, [.pointer (some ⟨r1, 0, none⟩)], [.pointer (some ⟨b_r_0, 0, none⟩)]⟩ :: F) _ := St.shut s88_.at1
          have s90_ := s89_.at2
          have s91_ := s90_.at1
          have s92_ := s91_.at2
          obtain rfl := Option.some.inj hx59_
          exact s_out (true, ()) rfl ⟨f12_, (Sub.refl _), rfl, s92_⟩
        · refine s_cond hx59_ rfl (fun hb141_ hx59_ => ?_) (fun hb141_ hx59_ => ?_)
          · have s93_ := St.unro (r := (Ro.int .i64)) (cs := [.int .i64 ((IntKind.wrap .i64 ((d15_.2.2) + (1 : Int))))]) (x := ((IntKind.wrap .i64 ((d15_.2.2) + (1 : Int))))) s83_ rfl
            have s94_ := St.unro (r := (Ro.int .i64)) (cs := [.int .i64 ((d15_.2.1))]) (x := ((d15_.2.1))) s93_ rfl
            have s95_ := St.unpair s94_
            have s96_ := St.unro (r := Ro.str) (cs := [.string ((d15_.1))]) (x := ((d15_.1))) s95_ rfl
            have s97_ := St.unpair s96_
            have s98_ : St f12_ (⟨Rep.obj 45 (Rep.prod (Rep.ro Ro.str) (Rep.prod (Rep.ro (Ro.int .i64)) (Rep.ro (Ro.int .i64)))), [.pointer (some ⟨b_r_0, 0, none⟩)], (((d15_.1)), ((d15_.2.1)), ((IntKind.wrap .i64 ((d15_.2.2) + (1 : Int)))))⟩ :: ⟨Rep.obj 25 (Rep.prod (Rep.ro (Ro.int .i64)) (Rep.prod (Rep.ro (Ro.int .i64)) (Rep.ro (Ro.list exRo)))), [.pointer (some ⟨r2, 0, none⟩)], ((0 : Int), (0 : Int), ([] : List Ex))⟩ :: ⟨Rep.raw 43, [.pointer (some ⟨r1, 0, none⟩)], [.pointer (some ⟨b_r_0, 0, none⟩)]⟩ :: F) _ := St.shut s97_.at1
            have s99_ := s98_.at2
            have s100_ := s99_.at1
            have s101_ := s100_.at2
            obtain rfl := Option.some.inj hx59_
            exact s_out (true, ()) rfl ⟨f12_, (Sub.refl _), rfl, s101_⟩
          · refine s_cond hx59_ rfl (fun hb140_ hx59_ => ?_) (fun hb140_ hx59_ => ?_)
            · have s102_ := St.unro (r := (Ro.int .i64)) (cs := [.int .i64 ((IntKind.wrap .i64 ((d15_.2.2) + (1 : Int))))]) (x := ((IntKind.wrap .i64 ((d15_.2.2) + (1 : Int))))) s83_ rfl
              have s103_ := St.unro (r := (Ro.int .i64)) (cs := [.int .i64 ((d15_.2.1))]) (x := ((d15_.2.1))) s102_ rfl
              have s104_ := St.unpair s103_
              have s105_ := St.unro (r := Ro.str) (cs := [.string ((d15_.1))]) (x := ((d15_.1))) s104_ rfl
              have s106_ := St.unpair s105_
              have s107_ : St f12_ (⟨Rep.obj 45 (Rep.prod (Rep.ro Ro.str) (Rep.prod (Rep.ro (Ro.int .i64)) (Rep.ro (Ro.int .i64)))), [.pointer (some ⟨b_r_0, 0, none⟩)], (((d15_.1)), ((d15_.2.1)), ((IntKind.wrap .i64 ((d15_.2.2) + (1 : Int)))))⟩ :: ⟨Rep.obj 25 (Rep.prod (Rep.ro (Ro.int .i64)) (Rep.prod (Rep.ro (Ro.int .i64)) (Rep.ro (Ro.list exRo)))), [.pointer (some ⟨r2, 0, none⟩)], ((0 : Int), (0 : Int), ([] : List Ex))⟩ :: ⟨Rep.raw 43, [.pointer (some ⟨r1, 0, none⟩)], [.pointer (some ⟨b_r_0, 0, none⟩)]⟩ :: F) _ := St.shut s106_.at1
              have s108_ := s107_.at2
              have s109_ := s108_.at1
              have s110_ := s109_.at2
              obtain rfl := Option.some.inj hx59_
              exact s_out (true, ()) rfl ⟨f12_, (Sub.refl _), rfl, s110_⟩
            · refine s_cond hx59_ rfl (fun hb139_ hx59_ => ?_) (fun hb139_ hx59_ => ?_)
              · have s111_ := St.unro (r := (Ro.int .i64)) (cs := [.int .i64 ((IntKind.wrap .i64 ((d15_.2.2) + (1 : Int))))]) (x := ((IntKind.wrap .i64 ((d15_.2.2) + (1 : Int))))) s83_ rfl
                have s112_ := St.unro (r := (Ro.int .i64)) (cs := [.int .i64 ((d15_.2.1))]) (x := ((d15_.2.1))) s111_ rfl
                have s113_ := St.unpair s112_
                have s114_ := St.unro (r := Ro.str) (cs := [.string ((d15_.1))]) (x := ((d15_.1))) s113_ rfl
                have s115_ := St.unpair s114_
                have s116_ : St f12_ (⟨Rep.obj 45 (Rep.prod (Rep.ro Ro.str) (Rep.prod (Rep.ro (Ro.int .i64)) (Rep.ro (Ro.int .i64)))), [.pointer (some ⟨b_r_0, 0, none⟩)], (((d15_.1)), ((d15_.2.1)), ((IntKind.wrap .i64 ((d15_.2.2) + (1 : Int)))))⟩ :: ⟨Rep.obj 25 (Rep.prod (Rep.ro (Ro.int .i64)) (Rep.prod (Rep.ro (Ro.int .i64)) (Rep.ro (Ro.list exRo)))), [.pointer (some ⟨r2, 0, none⟩)], ((0 : Int), (0 : Int), ([] : List Ex))⟩ :: ⟨Rep.raw 43, [.pointer (some ⟨r1, 0, none⟩)], [.pointer (some ⟨b_r_0, 0, none⟩)]⟩ :: F) _ := St.shut s115_.at1
                have s117_ := s116_.at2
                have s118_ := s117_.at1
                have s119_ := s118_.at2
                obtain rfl := Option.some.inj hx59_
                exact s_out (true, ()) rfl ⟨f12_, (Sub.refl _), rfl, s119_⟩
              · refine s_cond hx59_ rfl (fun hb138_ hx59_ => ?_) (fun hb138_ hx59_ => ?_)
                · have s120_ := St.unro (r := (Ro.int .i64)) (cs := [.int .i64 ((IntKind.wrap .i64 ((d15_.2.2) + (1 : Int))))]) (x := ((IntKind.wrap .i64 ((d15_.2.2) + (1 : Int))))) s83_ rfl
                  have s121_ := St.unro (r := (Ro.int .i64)) (cs := [.int .i64 ((d15_.2.1))]) (x := ((d15_.2.1))) s120_ rfl
                  have s122_ := St.unpair s121_
                  have s123_ := St.unro (r := Ro.str) (cs := [.string ((d15_.1))]) (x := ((d15_.1))) s122_ rfl
                  have s124_ := St.unpair s123_
                  have s125_ : St f12_ (⟨Rep.obj 45 (Rep.prod (Rep.ro Ro.str) (Rep.prod (Rep.ro (Ro.int .i64)) (Rep.ro (Ro.int .i64)))), [.pointer (some ⟨b_r_0, 0, none⟩)], (((d15_.1)), ((d15_.2.1)), ((IntKind.wrap .i64 ((d15_.2.2) + (1 : Int)))))⟩ :: ⟨Rep.obj 25 (Rep.prod (Rep.ro (Ro.int .i64)) (Rep.prod (Rep.ro (Ro.int .i64)) (Rep.ro (Ro.list exRo)))), [.pointer (some ⟨r2, 0, none⟩)], ((0 : Int), (0 : Int), ([] : List Ex))⟩ :: ⟨Rep.raw 43, [.pointer (some ⟨r1, 0, none⟩)], [.pointer (some ⟨b_r_0, 0, none⟩)]⟩ :: F) _ := St.shut s124_.at1
                  have s126_ := s125_.at2
                  have s127_ := s126_.at1
                  have s128_ := s127_.at2
                  obtain rfl := Option.some.inj hx59_
                  exact s_out ((decide (t4 ≤ (57 : Int))), ()) rfl ⟨f12_, (Sub.refl _), rfl, s128_⟩
                · have s129_ := St.unro (r := (Ro.int .i64)) (cs := [.int .i64 ((IntKind.wrap .i64 ((d15_.2.2) + (1 : Int))))]) (x := ((IntKind.wrap .i64 ((d15_.2.2) + (1 : Int))))) s83_ rfl
                  have s130_ := St.unro (r := (Ro.int .i64)) (cs := [.int .i64 ((d15_.2.1))]) (x := ((d15_.2.1))) s129_ rfl
                  have s131_ := St.unpair s130_
                  have s132_ := St.unro (r := Ro.str) (cs := [.string ((d15_.1))]) (x := ((d15_.1))) s131_ rfl
                  have s133_ := St.unpair s132_
                  have s134_ : St f12_ (⟨Rep.obj 45 (Rep.prod (Rep.ro Ro.str) (Rep.prod (Rep.ro (Ro.int .i64)) (Rep.ro (Ro.int .i64)))), [.pointer (some ⟨b_r_0, 0, none⟩)], (((d15_.1)), ((d15_.2.1)), ((IntKind.wrap .i64 ((d15_.2.2) + (1 : Int)))))⟩ :: ⟨Rep.obj 25 (Rep.prod (Rep.ro (Ro.int .i64)) (Rep.prod (Rep.ro (Ro.int .i64)) (Rep.ro (Ro.list exRo)))), [.pointer (some ⟨r2, 0, none⟩)], ((0 : Int), (0 : Int), ([] : List Ex))⟩ :: ⟨Rep.raw 43, [.pointer (some ⟨r1, 0, none⟩)], [.pointer (some ⟨b_r_0, 0, none⟩)]⟩ :: F) _ := St.shut s133_.at1
                  have s135_ := s134_.at2
                  have s136_ := s135_.at1
                  have s137_ := s136_.at2
                  obtain rfl := Option.some.inj hx59_
                  exact s_out (false, ()) rfl ⟨f12_, (Sub.refl _), rfl, s137_⟩
      · have s143_ := St.unro (r := (Ro.int .i64)) (cs := [.int .i64 ((IntKind.wrap .i64 ((d15_.2.2) + (1 : Int))))]) (x := ((IntKind.wrap .i64 ((d15_.2.2) + (1 : Int))))) s83_ rfl
        have s144_ := St.unro (r := (Ro.int .i64)) (cs := [.int .i64 ((d15_.2.1))]) (x := ((d15_.2.1))) s143_ rfl
        have s145_ := St.unpair s144_
        have s146_ := St.unro (r := Ro.str) (cs := [.string ((d15_.1))]) (x := ((d15_.1))) s145_ rfl
        have s147_ := St.unpair s146_
        have s148_ : St f12_ (⟨Rep.obj 45 (Rep.prod (Rep.ro Ro.str) (Rep.prod (Rep.ro (Ro.int .i64)) (Rep.ro (Ro.int .i64)))), [.pointer (some ⟨b_r_0, 0, none⟩)], (((d15_.1)), ((d15_.2.1)), ((IntKind.wrap .i64 ((d15_.2.2) + (1 : Int)))))⟩ :: ⟨Rep.obj 25 (Rep.prod (Rep.ro (Ro.int .i64)) (Rep.prod (Rep.ro (Ro.int .i64)) (Rep.ro (Ro.list exRo)))), [.pointer (some ⟨r2, 0, none⟩)], ((0 : Int), (0 : Int), ([] : List Ex))⟩ :: ⟨Rep.raw 43, [.pointer (some ⟨r1, 0, none⟩)], [.pointer (some ⟨b_r_0, 0, none⟩)]⟩ :: F) _ := St.shut s147_.at1
        have s149_ := s148_.at2
        have s150_ := s149_.at1
        have s151_ := s150_.at2
        obtain rfl := Option.some.inj hx59_
        exact s_out (false, ()) rfl ⟨f12_, (Sub.refl _), rfl, s151_⟩
    · rintro z9 h153_ ⟨f154_, le155_, rfl, s156_⟩
      try dsimp only at hx55_
      obtain ⟨g157_, hx158_, hx55_⟩ := Option.bind_eq_some_iff.1 hx55_
      refine s_join (fun (y : Unit) w_ g => ∃ ψ : Snap, Sub f154_ ψ ∧ Step.next () = g ∧ St ψ (⟨Rep.obj 25 (Rep.prod (Rep.ro (Ro.int .i64)) (Rep.prod (Rep.ro (Ro.int .i64)) (Rep.ro (Ro.list exRo)))), [.pointer (some ⟨r2, 0, none⟩)], ((0 : Int), (0 : Int), ([] : List Ex))⟩ :: ⟨Rep.obj 45 (Rep.prod (Rep.ro Ro.str) (Rep.prod (Rep.ro (Ro.int .i64)) (Rep.ro (Ro.int .i64)))), [.pointer (some ⟨b_r_0, 0, none⟩)], ((d15_.1), (d15_.2.1), (IntKind.wrap .i64 ((d15_.2.2) + (1 : Int))))⟩ :: ⟨Rep.raw 43, [.pointer (some ⟨r1, 0, none⟩)], [.pointer (some ⟨b_r_0, 0, none⟩)]⟩ :: F) w_) (g := g157_) ?_ ?_
      · refine s_cond hx158_ rfl (fun hb181_ hx158_ => ?_) (fun hb181_ hx158_ => ?_)
        · refine s_loadR (b := r1) (j := 0) (x := (some ⟨b_r_0, 0, none⟩)) s156_.at2 rfl ?_
          have s159_ := s156_.at1
          obtain ⟨r160_, hr161_, hx158_⟩ := Option.bind_eq_some_iff.1 hx158_
          refine s_callP (expr_reader_fail_sim  s159_ hr161_) ?_ ?_
          · rintro _ h162_ ⟨f163_, t15, le165_, rfl, rfl, s164_⟩
            refine ⟨t15, rfl, ?_⟩
            try dsimp only at hx158_
            have s166_ := s164_.at2
            have s167_ := s166_.at1
            have s168_ := s167_.at2
            obtain rfl := Option.some.inj hx158_
            exact s_out (()) rfl ⟨f163_, le165_, rfl, s168_⟩
          · rintro _ h169_ ⟨f170_, co173_, ca174_, le172_, rfl, rfl, s171_⟩
            try dsimp only at hx158_
            obtain rfl := Option.some.inj hx158_
            try dsimp only at hx55_
            obtain rfl := Option.some.inj hx55_
            have s175_ := s171_.at2
            have s176_ := s175_.at2
            have s177_ := s176_.at2
            exact meet_pan (aft_pan ⟨f170_, co173_, ca174_, ((d15_.1), (d15_.2.1), (IntKind.wrap .i64 ((d15_.2.2) + (1 : Int)))), ((0 : Int), (0 : Int), ([] : List Ex)), (le155_.trans le172_), rfl, rfl, s177_⟩)
        · have s178_ := s156_.at2
          have s179_ := s178_.at2
          have s180_ := s179_.at2
          obtain rfl := Option.some.inj hx158_
          exact s_out (()) rfl ⟨f154_, (Sub.refl _), rfl, s180_⟩
      · rintro z13 h182_ ⟨f183_, le184_, rfl, s185_⟩
        try dsimp only at hx55_
        refine s_cond hx55_ rfl (fun hb707_ hx55_ => ?_) (fun hb707_ hx55_ => ?_)
        · refine s_loadR (b := r1) (j := 0) (x := (some ⟨b_r_0, 0, none⟩)) s185_.at2 rfl ?_
          obtain ⟨b186_, vs187_, e188_, hl189_, s190_⟩ := s185_.at1.open
          obtain rfl : b_r_0 = b186_ := by simpa using e188_
          clear e188_
          have s191_ := s190_.at1
          obtain ⟨v192_, w193_, rfl, hl195_, s194_⟩ := s191_.pair
          obtain ⟨g196_, s197_⟩ := s194_.ro
          subst g196_
          obtain ⟨v199_, w200_, rfl, hl202_, s201_⟩ := s197_.pair
          obtain ⟨g203_, s204_⟩ := s201_.ro
          subst g203_
          obtain ⟨g206_, s207_⟩ := s204_.ro
          subst g206_
          have s209_ : St f183_ (⟨Rep.raw 45, [.pointer (some ⟨b_r_0, 0, none⟩)], [.string ((d15_.1)), .int .i64 ((d15_.2.1)), .int .i64 ((IntKind.wrap .i64 ((d15_.2.2) + (1 : Int))))]⟩ :: ⟨Rep.obj 25 (Rep.prod (Rep.ro (Ro.int .i64)) (Rep.prod (Rep.ro (Ro.int .i64)) (Rep.ro (Ro.list exRo)))), [.pointer (some ⟨r2, 0, none⟩)], ((0 : Int), (0 : Int), ([] : List Ex))⟩ :: ⟨Rep.raw 43, [.pointer (some ⟨r1, 0, none⟩)], [.pointer (some ⟨b_r_0, 0, none⟩)]⟩ :: F) _ := s207_
          refine t_deref _ rfl ?_
          refine s_loadR (b := b_r_0) (j := 1) (x := ((d15_.2.1))) s209_ rfl ?_
          refine t_deref _ rfl ?_
          refine s_put (b := b_r_0) (j := 1) (v := .int .i64 (IntKind.wrap .i64 (((d15_.2.1)) + (1 : Int)))) s209_ rfl (show (1 : Nat) < 3 by decide) ?_
          intro h211_ s210_
          refine s_loadR (b := r1) (j := 0) (x := (some ⟨b_r_0, 0, none⟩)) s210_.at2 rfl ?_
          have s212_ := St.unro (r := (Ro.int .i64)) (cs := [.int .i64 ((IntKind.wrap .i64 ((d15_.2.2) + (1 : Int))))]) (x := ((IntKind.wrap .i64 ((d15_.2.2) + (1 : Int))))) s210_ rfl
          have s213_ := St.unro (r := (Ro.int .i64)) (cs := [.int .i64 (IntKind.wrap .i64 (((d15_.2.1)) + (1 : Int)))]) (x := (IntKind.wrap .i64 (((d15_.2.1)) + (1 : Int)))) s212_ rfl
          have s214_ := St.unpair s213_
          have s215_ := St.unro (r := Ro.str) (cs := [.string ((d15_.1))]) (x := ((d15_.1))) s214_ rfl
          have s216_ := St.unpair s215_
          have s217_ : St f183_ (⟨Rep.obj 45 (Rep.prod (Rep.ro Ro.str) (Rep.prod (Rep.ro (Ro.int .i64)) (Rep.ro (Ro.int .i64)))), [.pointer (some ⟨b_r_0, 0, none⟩)], (((d15_.1)), (IntKind.wrap .i64 (((d15_.2.1)) + (1 : Int))), ((IntKind.wrap .i64 ((d15_.2.2) + (1 : Int)))))⟩ :: ⟨Rep.obj 25 (Rep.prod (Rep.ro (Ro.int .i64)) (Rep.prod (Rep.ro (Ro.int .i64)) (Rep.ro (Ro.list exRo)))), [.pointer (some ⟨r2, 0, none⟩)], ((0 : Int), (0 : Int), ([] : List Ex))⟩ :: ⟨Rep.raw 43, [.pointer (some ⟨r1, 0, none⟩)], [.pointer (some ⟨b_r_0, 0, none⟩)]⟩ :: F) _ := St.shut s216_.at1
          obtain ⟨r218_, hr219_, hx55_⟩ := Option.bind_eq_some_iff.1 hx55_
          refine s_callP (Hrec  s217_ hr219_) ?_ ?_
          · rintro _ h220_ ⟨f221_, t21, d224_, d227_, le223_, rfl, rfl, k226_, s222_⟩
            refine ⟨t21, rfl, ?_⟩
            try dsimp only at hx55_
            have n225_ := k226_.length
            refine s_new (vs := [.int .i64 t21.1, .int .i64 t21.2.1, .slice t21.2.2.1.1 t21.2.2.1.2.1 t21.2.2.1.2.2]) s222_ ?_
            intro r22 h229_ s228_
            obtain ⟨b230_, vs231_, e232_, hl233_, s234_⟩ := s228_.at2.open
            obtain rfl : r2 = b230_ := by simpa using e232_
            clear e232_
            have s235_ := s234_.at1
            obtain ⟨v236_, w237_, rfl, hl239_, s238_⟩ := s235_.pair
            obtain ⟨g240_, s241_⟩ := s238_.ro
            subst g240_
            obtain ⟨v243_, w244_, rfl, hl246_, s245_⟩ := s241_.pair
            obtain ⟨g247_, s248_⟩ := s245_.ro
            subst g247_
            obtain ⟨g250_, s251_⟩ := s248_.ro
            obtain ⟨t252_, e253_, k254_⟩ := g250_
            subst e253_
            have n255_ := k254_.length
            have s256_ : St f221_ (⟨Rep.raw 25, [.pointer (some ⟨r2, 0, none⟩)], [.int .i64 ((0 : Int)), .int .i64 ((0 : Int)), .slice t252_.1 t252_.2.1 t252_.2.2]⟩ :: ⟨Rep.raw 25, [.pointer (some ⟨r22, 0, none⟩)], [.int .i64 t21.1, .int .i64 t21.2.1, .slice t21.2.2.1.1 t21.2.2.1.2.1 t21.2.2.1.2.2]⟩ :: ⟨Rep.obj 45 (Rep.prod (Rep.ro Ro.str) (Rep.prod (Rep.ro (Ro.int .i64)) (Rep.ro (Ro.int .i64)))), [.pointer (some ⟨b_r_0, 0, none⟩)], d227_⟩ :: ⟨Rep.raw 43, [.pointer (some ⟨r1, 0, none⟩)], [.pointer (some ⟨b_r_0, 0, none⟩)]⟩ :: F) _ := s251_
            refine s_put (b := r2) (j := 0) (v := .int .i64 (4 : Int)) s256_ rfl (show (0 : Nat) < 3 by decide) ?_
            intro h258_ s257_
            refine s_put (b := r2) (j := 1) (v := .int .i64 (0 : Int)) s257_ rfl (show (1 : Nat) < 3 by decide) ?_
            intro h260_ s259_
            refine s_put (b := r2) (j := 2) (v := .slice (some ⟨r22, 0, none⟩) 1 1) s259_ rfl (show (2 : Nat) < 3 by decide) ?_
            intro h262_ s261_
            have s263_ := St.lit (r := exRo) (l := ([(Ex.mk t21.1 t21.2.1 d224_)] : List Ex)) (n := 1) s261_.at1 (.cons (a := [_, _, _]) (exRo_mk (φ := f221_) (cs := [_, _, _]) ⟨[_], _, rfl, rfl, ⟨[_], _, rfl, rfl, ⟨t21.2.2.1, rfl, k226_⟩⟩⟩) .nil) rfl (by decide)
            obtain ⟨f264_, le265_, k266_, s267_⟩ := St.freezeRow (t := ((some ⟨r22, 0, none⟩, 1, 1) : Slc)) s263_
            have s268_ := St.unro (r := (Ro.list exRo)) (cs := [.slice ((some ⟨r22, 0, none⟩, 1, 1) : Slc).1 ((some ⟨r22, 0, none⟩, 1, 1) : Slc).2.1 ((some ⟨r22, 0, none⟩, 1, 1) : Slc).2.2]) (x := ([(Ex.mk t21.1 t21.2.1 d224_)] : List Ex)) s267_ ⟨((some ⟨r22, 0, none⟩, 1, 1) : Slc), rfl, k266_⟩
            have s269_ := St.unro (r := (Ro.int .i64)) (cs := [.int .i64 (0 : Int)]) (x := (0 : Int)) s268_ rfl
            have s270_ := St.unpair s269_
            have s271_ := St.unro (r := (Ro.int .i64)) (cs := [.int .i64 (4 : Int)]) (x := (4 : Int)) s270_ rfl
            have s272_ := St.unpair s271_
            have s273_ : St f264_ (⟨Rep.obj 25 (Rep.prod (Rep.ro (Ro.int .i64)) (Rep.prod (Rep.ro (Ro.int .i64)) (Rep.ro (Ro.list exRo)))), [.pointer (some ⟨r2, 0, none⟩)], ((4 : Int), (0 : Int), ([(Ex.mk t21.1 t21.2.1 d224_)] : List Ex))⟩ :: ⟨Rep.obj 45 (Rep.prod (Rep.ro Ro.str) (Rep.prod (Rep.ro (Ro.int .i64)) (Rep.ro (Ro.int .i64)))), [.pointer (some ⟨b_r_0, 0, none⟩)], d227_⟩ :: ⟨Rep.raw 43, [.pointer (some ⟨r1, 0, none⟩)], [.pointer (some ⟨b_r_0, 0, none⟩)]⟩ :: F) _ := St.shut s272_.at1
            obtain rfl := Option.some.inj hx55_
            have s274_ := s273_.at2
            have s275_ := s274_.at1
            have s276_ := s275_.at2
            exact aft_ret ⟨f264_, d227_, ((4 : Int), (0 : Int), ([(Ex.mk t21.1 t21.2.1 d224_)] : List Ex)), (((le155_.trans le184_).trans le223_).trans le265_), rfl, s276_⟩
          · rintro _ h277_ ⟨f278_, co281_, ca282_, d283_, le280_, rfl, rfl, s279_⟩
            try dsimp only at hx55_
            obtain rfl := Option.some.inj hx55_
            have s284_ := s279_.at2
            have s285_ := s284_.at2
            have s286_ := s285_.at2
            exact aft_pan ⟨f278_, co281_, ca282_, d283_, ((0 : Int), (0 : Int), ([] : List Ex)), ((le155_.trans le184_).trans le280_), rfl, rfl, s286_⟩
        · refine s_cond hx55_ rfl (fun hb706_ hx55_ => ?_) (fun hb706_ hx55_ => ?_)
          · refine s_loadR (b := r1) (j := 0) (x := (some ⟨b_r_0, 0, none⟩)) s185_.at2 rfl ?_
            obtain ⟨b287_, vs288_, e289_, hl290_, s291_⟩ := s185_.at1.open
            obtain rfl : b_r_0 = b287_ := by simpa using e289_
            clear e289_
            have s292_ := s291_.at1
            obtain ⟨v293_, w294_, rfl, hl296_, s295_⟩ := s292_.pair
            obtain ⟨g297_, s298_⟩ := s295_.ro
            subst g297_
            obtain ⟨v300_, w301_, rfl, hl303_, s302_⟩ := s298_.pair
            obtain ⟨g304_, s305_⟩ := s302_.ro
            subst g304_
            obtain ⟨g307_, s308_⟩ := s305_.ro
            subst g307_
            have s310_ : St f183_ (⟨Rep.raw 45, [.pointer (some ⟨b_r_0, 0, none⟩)], [.string ((d15_.1)), .int .i64 ((d15_.2.1)), .int .i64 ((IntKind.wrap .i64 ((d15_.2.2) + (1 : Int))))]⟩ :: ⟨Rep.obj 25 (Rep.prod (Rep.ro (Ro.int .i64)) (Rep.prod (Rep.ro (Ro.int .i64)) (Rep.ro (Ro.list exRo)))), [.pointer (some ⟨r2, 0, none⟩)], ((0 : Int), (0 : Int), ([] : List Ex))⟩ :: ⟨Rep.raw 43, [.pointer (some ⟨r1, 0, none⟩)], [.pointer (some ⟨b_r_0, 0, none⟩)]⟩ :: F) _ := s308_
            refine t_deref _ rfl ?_
            refine s_loadR (b := b_r_0) (j := 1) (x := ((d15_.2.1))) s310_ rfl ?_
            refine t_deref _ rfl ?_
            refine s_put (b := b_r_0) (j := 1) (v := .int .i64 (IntKind.wrap .i64 (((d15_.2.1)) + (1 : Int)))) s310_ rfl (show (1 : Nat) < 3 by decide) ?_
            intro h312_ s311_
            refine s_loadR (b := r1) (j := 0) (x := (some ⟨b_r_0, 0, none⟩)) s311_.at2 rfl ?_
            have s313_ := St.unro (r := (Ro.int .i64)) (cs := [.int .i64 ((IntKind.wrap .i64 ((d15_.2.2) + (1 : Int))))]) (x := ((IntKind.wrap .i64 ((d15_.2.2) + (1 : Int))))) s311_ rfl
            have s314_ := St.unro (r := (Ro.int .i64)) (cs := [.int .i64 (IntKind.wrap .i64 (((d15_.2.1)) + (1 : Int)))]) (x := (IntKind.wrap .i64 (((d15_.2.1)) + (1 : Int)))) s313_ rfl
            have s315_ := St.unpair s314_
            have s316_ := St.unro (r := Ro.str) (cs := [.string ((d15_.1))]) (x := ((d15_.1))) s315_ rfl
            have s317_ := St.unpair s316_
            have s318_ : St f183_ (⟨Rep.obj 45 (Rep.prod (Rep.ro Ro.str) (Rep.prod (Rep.ro (Ro.int .i64)) (Rep.ro (Ro.int .i64)))), [.pointer (some ⟨b_r_0, 0, none⟩)], (((d15_.1)), (IntKind.wrap .i64 (((d15_.2.1)) + (1 : Int))), ((IntKind.wrap .i64 ((d15_.2.2) + (1 : Int)))))⟩ :: ⟨Rep.obj 25 (Rep.prod (Rep.ro (Ro.int .i64)) (Rep.prod (Rep.ro (Ro.int .i64)) (Rep.ro (Ro.list exRo)))), [.pointer (some ⟨r2, 0, none⟩)], ((0 : Int), (0 : Int), ([] : List Ex))⟩ :: ⟨Rep.raw 43, [.pointer (some ⟨r1, 0, none⟩)], [.pointer (some ⟨b_r_0, 0, none⟩)]⟩ :: F) _ := St.shut s317_.at1
            obtain ⟨r319_, hr320_, hx55_⟩ := Option.bind_eq_some_iff.1 hx55_
            refine s_callP (expr_reader_sum_sim Hrec  s318_ hr320_) ?_ ?_
            · rintro _ h321_ ⟨f322_, t28, d325_, d328_, le324_, rfl, rfl, k327_, s323_⟩
              refine ⟨t28, rfl, ?_⟩
              try dsimp only at hx55_
              have n326_ := k327_.length
              refine s_new (vs := [.int .i64 (0 : Int), .int .i64 (0 : Int), .slice none 0 0]) s323_ ?_
              intro r29 h330_ s329_
              refine s_put (b := r29) (j := 0) (v := .int .i64 t28.1) s329_ rfl (show (0 : Nat) < 3 by decide) ?_
              intro h332_ s331_
              refine s_put (b := r29) (j := 1) (v := .int .i64 t28.2.1) s331_ rfl (show (1 : Nat) < 3 by decide) ?_
              intro h334_ s333_
              refine s_put (b := r29) (j := 2) (v := .slice t28.2.2.1.1 t28.2.2.1.2.1 t28.2.2.1.2.2) s333_ rfl (show (2 : Nat) < 3 by decide) ?_
              intro h336_ s335_
              refine s_loadR (b := r1) (j := 0) (x := (some ⟨b_r_0, 0, none⟩)) s335_.at3 rfl ?_
              have s337_ := s335_.at1
              obtain ⟨r338_, hr339_, hx55_⟩ := Option.bind_eq_some_iff.1 hx55_
              refine s_call (expr_reader_now_sim  s337_ hr339_) ?_
              rintro _ h340_ ⟨f341_, t31, d344_, le343_, rfl, rfl, s342_⟩
              refine ⟨t31, rfl, ?_⟩
              try dsimp only at hx55_
              obtain ⟨g345_, hx346_, hx55_⟩ := Option.bind_eq_some_iff.1 hx55_
              refine s_join (fun (y : Unit) w_ g => ∃ ψ : Snap, Sub f341_ ψ ∧ Step.next () = g ∧ St ψ (⟨Rep.obj 45 (Rep.prod (Rep.ro Ro.str) (Rep.prod (Rep.ro (Ro.int .i64)) (Rep.ro (Ro.int .i64)))), [.pointer (some ⟨b_r_0, 0, none⟩)], d344_⟩ :: ⟨Rep.raw 25, [.pointer (some ⟨r29, 0, none⟩)], [.int .i64 t28.1, .int .i64 t28.2.1, .slice t28.2.2.1.1 t28.2.2.1.2.1 t28.2.2.1.2.2]⟩ :: ⟨Rep.obj 25 (Rep.prod (Rep.ro (Ro.int .i64)) (Rep.prod (Rep.ro (Ro.int .i64)) (Rep.ro (Ro.list exRo)))), [.pointer (some ⟨r2, 0, none⟩)], ((0 : Int), (0 : Int), ([] : List Ex))⟩ :: ⟨Rep.raw 43, [.pointer (some ⟨r1, 0, none⟩)], [.pointer (some ⟨b_r_0, 0, none⟩)]⟩ :: F) w_) (g := g345_) ?_ ?_
              · refine s_cond hx346_ rfl (fun hb371_ hx346_ => ?_) (fun hb371_ hx346_ => ?_)
                · refine s_loadR (b := r1) (j := 0) (x := (some ⟨b_r_0, 0, none⟩)) s342_.at3 rfl ?_
                  obtain ⟨r347_, hr348_, hx346_⟩ := Option.bind_eq_some_iff.1 hx346_
                  refine s_callP (expr_reader_fail_sim  s342_ hr348_) ?_ ?_
                  · rintro _ h349_ ⟨f350_, t34, le352_, rfl, rfl, s351_⟩
                    refine ⟨t34, rfl, ?_⟩
                    try dsimp only at hx346_
                    have s353_ := s351_.at3
                    have s354_ := s353_.at3
                    have s355_ := s354_.at3
                    have s356_ := s355_.at3
                    obtain rfl := Option.some.inj hx346_
                    exact s_out (()) rfl ⟨f350_, le352_, rfl, s356_⟩
                  · rintro _ h357_ ⟨f358_, co361_, ca362_, le360_, rfl, rfl, s359_⟩
                    try dsimp only at hx346_
                    obtain rfl := Option.some.inj hx346_
                    try dsimp only at hx55_
                    obtain rfl := Option.some.inj hx55_
                    have s363_ := s359_.at1.tail
                    have s364_ := s363_.at2
                    have s365_ := s364_.at2
                    have s366_ := s365_.at2
                    exact meet_pan (aft_pan ⟨f358_, co361_, ca362_, d344_, ((0 : Int), (0 : Int), ([] : List Ex)), ((((le155_.trans le184_).trans le324_).trans le343_).trans le360_), rfl, rfl, s366_⟩)
                · have s367_ := s342_.at3
                  have s368_ := s367_.at3
                  have s369_ := s368_.at3
                  have s370_ := s369_.at3
                  obtain rfl := Option.some.inj hx346_
                  exact s_out (()) rfl ⟨f341_, (Sub.refl _), rfl, s370_⟩
              · rintro z32 h372_ ⟨f373_, le374_, rfl, s375_⟩
                try dsimp only at hx55_
                refine s_loadR (b := r1) (j := 0) (x := (some ⟨b_r_0, 0, none⟩)) s375_.at3 rfl ?_
                obtain ⟨b376_, vs377_, e378_, hl379_, s380_⟩ := s375_.open
                obtain rfl : b_r_0 = b376_ := by simpa using e378_
                clear e378_
                have s381_ := s380_.at1
                obtain ⟨v382_, w383_, rfl, hl385_, s384_⟩ := s381_.pair
                obtain ⟨g386_, s387_⟩ := s384_.ro
                subst g386_
                obtain ⟨v389_, w390_, rfl, hl392_, s391_⟩ := s387_.pair
                obtain ⟨g393_, s394_⟩ := s391_.ro
                subst g393_
                obtain ⟨g396_, s397_⟩ := s394_.ro
                subst g396_
                have s399_ : St f373_ (⟨Rep.raw 45, [.pointer (some ⟨b_r_0, 0, none⟩)], [.string (d344_.1), .int .i64 (d344_.2.1), .int .i64 (d344_.2.2)]⟩ :: ⟨Rep.raw 25, [.pointer (some ⟨r29, 0, none⟩)], [.int .i64 t28.1, .int .i64 t28.2.1, .slice t28.2.2.1.1 t28.2.2.1.2.1 t28.2.2.1.2.2]⟩ :: ⟨Rep.obj 25 (Rep.prod (Rep.ro (Ro.int .i64)) (Rep.prod (Rep.ro (Ro.int .i64)) (Rep.ro (Ro.list exRo)))), [.pointer (some ⟨r2, 0, none⟩)], ((0 : Int), (0 : Int), ([] : List Ex))⟩ :: ⟨Rep.raw 43, [.pointer (some ⟨r1, 0, none⟩)], [.pointer (some ⟨b_r_0, 0, none⟩)]⟩ :: F) _ := s397_
                refine t_deref _ rfl ?_
                refine s_loadR (b := b_r_0) (j := 1) (x := (d344_.2.1)) s399_ rfl ?_
                refine t_deref _ rfl ?_
                refine s_put (b := b_r_0) (j := 1) (v := .int .i64 (IntKind.wrap .i64 ((d344_.2.1) + (1 : Int)))) s399_ rfl (show (1 : Nat) < 3 by decide) ?_
                intro h401_ s400_
                refine s_loadR (b := r29) (j := 0) (x := t28.1) s400_.at1 rfl ?_
                refine s_loadR (b := r29) (j := 1) (x := t28.2.1) s400_.at1 rfl ?_
                refine s_loadR (b := r29) (j := 2) (x := t28.2.2.1) s400_.at1 rfl ?_
                obtain ⟨b402_, vs403_, e404_, hl405_, s406_⟩ := s400_.at2.open
                obtain rfl : r2 = b402_ := by simpa using e404_
                clear e404_
                have s407_ := s406_.at1
                obtain ⟨v408_, w409_, rfl, hl411_, s410_⟩ := s407_.pair
                obtain ⟨g412_, s413_⟩ := s410_.ro
                subst g412_
                obtain ⟨v415_, w416_, rfl, hl418_, s417_⟩ := s413_.pair
                obtain ⟨g419_, s420_⟩ := s417_.ro
                subst g419_
                obtain ⟨g422_, s423_⟩ := s420_.ro
                obtain ⟨t424_, e425_, k426_⟩ := g422_
                subst e425_
                have n427_ := k426_.length
                have s428_ : St f373_ (⟨Rep.raw 25, [.pointer (some ⟨r2, 0, none⟩)], [.int .i64 ((0 : Int)), .int .i64 ((0 : Int)), .slice t424_.1 t424_.2.1 t424_.2.2]⟩ :: ⟨Rep.raw 45, [.pointer (some ⟨b_r_0, 0, none⟩)], [.string (d344_.1), .int .i64 (IntKind.wrap .i64 ((d344_.2.1) + (1 : Int))), .int .i64 (d344_.2.2)]⟩ :: ⟨Rep.raw 25, [.pointer (some ⟨r29, 0, none⟩)], [.int .i64 t28.1, .int .i64 t28.2.1, .slice t28.2.2.1.1 t28.2.2.1.2.1 t28.2.2.1.2.2]⟩ :: ⟨Rep.raw 43, [.pointer (some ⟨r1, 0, none⟩)], [.pointer (some ⟨b_r_0, 0, none⟩)]⟩ :: F) _ := s423_
                refine s_put (b := r2) (j := 0) (v := .int .i64 t28.1) s428_ rfl (show (0 : Nat) < 3 by decide) ?_
                intro h430_ s429_
                refine s_put (b := r2) (j := 1) (v := .int .i64 t28.2.1) s429_ rfl (show (1 : Nat) < 3 by decide) ?_
                intro h432_ s431_
                refine s_put (b := r2) (j := 2) (v := .slice t28.2.2.1.1 t28.2.2.1.2.1 t28.2.2.1.2.2) s431_ rfl (show (2 : Nat) < 3 by decide) ?_
                intro h434_ s433_
                have s435_ := St.unro (r := (Ro.int .i64)) (cs := [.int .i64 (d344_.2.2)]) (x := (d344_.2.2)) s433_ rfl
                have s436_ := St.unro (r := (Ro.int .i64)) (cs := [.int .i64 (IntKind.wrap .i64 ((d344_.2.1) + (1 : Int)))]) (x := (IntKind.wrap .i64 ((d344_.2.1) + (1 : Int)))) s435_ rfl
                have s437_ := St.unpair s436_
                have s438_ := St.unro (r := Ro.str) (cs := [.string (d344_.1)]) (x := (d344_.1)) s437_ rfl
                have s439_ := St.unpair s438_
                have s440_ : St f373_ (⟨Rep.obj 45 (Rep.prod (Rep.ro Ro.str) (Rep.prod (Rep.ro (Ro.int .i64)) (Rep.ro (Ro.int .i64)))), [.pointer (some ⟨b_r_0, 0, none⟩)], ((d344_.1), (IntKind.wrap .i64 ((d344_.2.1) + (1 : Int))), (d344_.2.2))⟩ :: ⟨Rep.raw 25, [.pointer (some ⟨r2, 0, none⟩)], [.int .i64 t28.1, .int .i64 t28.2.1, .slice t28.2.2.1.1 t28.2.2.1.2.1 t28.2.2.1.2.2]⟩ :: ⟨Rep.raw 25, [.pointer (some ⟨r29, 0, none⟩)], [.int .i64 t28.1, .int .i64 t28.2.1, .slice t28.2.2.1.1 t28.2.2.1.2.1 t28.2.2.1.2.2]⟩ :: ⟨Rep.raw 43, [.pointer (some ⟨r1, 0, none⟩)], [.pointer (some ⟨b_r_0, 0, none⟩)]⟩ :: F) _ := St.shut s439_.at2
                have s441_ := St.unro (r := (Ro.list exRo)) (cs := [.slice t28.2.2.1.1 t28.2.2.1.2.1 t28.2.2.1.2.2]) (x := d325_) s440_ ⟨t28.2.2.1, rfl, (k327_.mono (le343_.trans le374_))⟩
                have s442_ := St.unro (r := (Ro.int .i64)) (cs := [.int .i64 t28.2.1]) (x := t28.2.1) s441_ rfl
                have s443_ := St.unpair s442_
                have s444_ := St.unro (r := (Ro.int .i64)) (cs := [.int .i64 t28.1]) (x := t28.1) s443_ rfl
                have s445_ := St.unpair s444_
                have s446_ : St f373_ (⟨Rep.obj 25 (Rep.prod (Rep.ro (Ro.int .i64)) (Rep.prod (Rep.ro (Ro.int .i64)) (Rep.ro (Ro.list exRo)))), [.pointer (some ⟨r2, 0, none⟩)], (t28.1, t28.2.1, d325_)⟩ :: ⟨Rep.obj 45 (Rep.prod (Rep.ro Ro.str) (Rep.prod (Rep.ro (Ro.int .i64)) (Rep.ro (Ro.int .i64)))), [.pointer (some ⟨b_r_0, 0, none⟩)], ((d344_.1), (IntKind.wrap .i64 ((d344_.2.1) + (1 : Int))), (d344_.2.2))⟩ :: ⟨Rep.raw 25, [.pointer (some ⟨r29, 0, none⟩)], [.int .i64 t28.1, .int .i64 t28.2.1, .slice t28.2.2.1.1 t28.2.2.1.2.1 t28.2.2.1.2.2]⟩ :: ⟨Rep.raw 43, [.pointer (some ⟨r1, 0, none⟩)], [.pointer (some ⟨b_r_0, 0, none⟩)]⟩ :: F) _ := St.shut s445_.at2
                obtain rfl := Option.some.inj hx55_
                have s447_ := s446_.at2.tail
                have s448_ := s447_.at2
                have s449_ := s448_.at1
                have s450_ := s449_.at2
                exact aft_ret ⟨f373_, ((d344_.1), (IntKind.wrap .i64 ((d344_.2.1) + (1 : Int))), (d344_.2.2)), (t28.1, t28.2.1, d325_), ((((le155_.trans le184_).trans le324_).trans le343_).trans le374_), rfl, s450_⟩
            · rintro _ h452_ ⟨f453_, co456_, ca457_, d458_, le455_, rfl, rfl, s454_⟩
              try dsimp only at hx55_
              obtain rfl := Option.some.inj hx55_
              have s459_ := s454_.at2
              have s460_ := s459_.at2
              have s461_ := s460_.at2
              exact aft_pan ⟨f453_, co456_, ca457_, d458_, ((0 : Int), (0 : Int), ([] : List Ex)), ((le155_.trans le184_).trans le455_), rfl, rfl, s461_⟩
          · refine s_cond hx55_ rfl (fun hb705_ hx55_ => ?_) (fun hb705_ hx55_ => ?_)
            · refine s_loadR (b := r1) (j := 0) (x := (some ⟨b_r_0, 0, none⟩)) s185_.at2 rfl ?_
              obtain ⟨b462_, vs463_, e464_, hl465_, s466_⟩ := s185_.at1.open
              obtain rfl : b_r_0 = b462_ := by simpa using e464_
              clear e464_
              have s467_ := s466_.at1
              obtain ⟨v468_, w469_, rfl, hl471_, s470_⟩ := s467_.pair
              obtain ⟨g472_, s473_⟩ := s470_.ro
              subst g472_
              obtain ⟨v475_, w476_, rfl, hl478_, s477_⟩ := s473_.pair
              obtain ⟨g479_, s480_⟩ := s477_.ro
              subst g479_
              obtain ⟨g482_, s483_⟩ := s480_.ro
              subst g482_
              have s485_ : St f183_ (⟨Rep.raw 45, [.pointer (some ⟨b_r_0, 0, none⟩)], [.string ((d15_.1)), .int .i64 ((d15_.2.1)), .int .i64 ((IntKind.wrap .i64 ((d15_.2.2) + (1 : Int))))]⟩ :: ⟨Rep.obj 25 (Rep.prod (Rep.ro (Ro.int .i64)) (Rep.prod (Rep.ro (Ro.int .i64)) (Rep.ro (Ro.list exRo)))), [.pointer (some ⟨r2, 0, none⟩)], ((0 : Int), (0 : Int), ([] : List Ex))⟩ :: ⟨Rep.raw 43, [.pointer (some ⟨r1, 0, none⟩)], [.pointer (some ⟨b_r_0, 0, none⟩)]⟩ :: F) _ := s483_
              refine t_deref _ rfl ?_
              refine s_loadR (b := b_r_0) (j := 1) (x := ((d15_.2.1))) s485_ rfl ?_
              refine t_deref _ rfl ?_
              refine s_put (b := b_r_0) (j := 1) (v := .int .i64 (IntKind.wrap .i64 (((d15_.2.1)) + (1 : Int)))) s485_ rfl (show (1 : Nat) < 3 by decide) ?_
              intro h487_ s486_
              refine s_loadR (b := r1) (j := 0) (x := (some ⟨b_r_0, 0, none⟩)) s486_.at2 rfl ?_
              have s488_ := St.unro (r := (Ro.int .i64)) (cs := [.int .i64 ((IntKind.wrap .i64 ((d15_.2.2) + (1 : Int))))]) (x := ((IntKind.wrap .i64 ((d15_.2.2) + (1 : Int))))) s486_ rfl
              have s489_ := St.unro (r := (Ro.int .i64)) (cs := [.int .i64 (IntKind.wrap .i64 (((d15_.2.1)) + (1 : Int)))]) (x := (IntKind.wrap .i64 (((d15_.2.1)) + (1 : Int)))) s488_ rfl
              have s490_ := St.unpair s489_
              have s491_ := St.unro (r := Ro.str) (cs := [.string ((d15_.1))]) (x := ((d15_.1))) s490_ rfl
              have s492_ := St.unpair s491_
              have s493_ : St f183_ (⟨Rep.obj 45 (Rep.prod (Rep.ro Ro.str) (Rep.prod (Rep.ro (Ro.int .i64)) (Rep.ro (Ro.int .i64)))), [.pointer (some ⟨b_r_0, 0, none⟩)], (((d15_.1)), (IntKind.wrap .i64 (((d15_.2.1)) + (1 : Int))), ((IntKind.wrap .i64 ((d15_.2.2) + (1 : Int)))))⟩ :: ⟨Rep.obj 25 (Rep.prod (Rep.ro (Ro.int .i64)) (Rep.prod (Rep.ro (Ro.int .i64)) (Rep.ro (Ro.list exRo)))), [.pointer (some ⟨r2, 0, none⟩)], ((0 : Int), (0 : Int), ([] : List Ex))⟩ :: ⟨Rep.raw 43, [.pointer (some ⟨r1, 0, none⟩)], [.pointer (some ⟨b_r_0, 0, none⟩)]⟩ :: F) _ := St.shut s492_.at1
              obtain ⟨r494_, hr495_, hx55_⟩ := Option.bind_eq_some_iff.1 hx55_
              refine s_callP (expr_reader_number_sim  s493_ hr495_) ?_ ?_
              · rintro _ h496_ ⟨f497_, t47, d500_, le499_, rfl, rfl, s498_⟩
                refine ⟨t47, rfl, ?_⟩
                try dsimp only at hx55_
                obtain ⟨b501_, vs502_, e503_, hl504_, s505_⟩ := s498_.at1.open
                obtain rfl : r2 = b501_ := by simpa using e503_
                clear e503_
                have s506_ := s505_.at1
                obtain ⟨v507_, w508_, rfl, hl510_, s509_⟩ := s506_.pair
                obtain ⟨g511_, s512_⟩ := s509_.ro
                subst g511_
                obtain ⟨v514_, w515_, rfl, hl517_, s516_⟩ := s512_.pair
                obtain ⟨g518_, s519_⟩ := s516_.ro
                subst g518_
                obtain ⟨g521_, s522_⟩ := s519_.ro
                obtain ⟨t523_, e524_, k525_⟩ := g521_
                subst e524_
                have n526_ := k525_.length
                have s527_ : St f497_ (⟨Rep.raw 25, [.pointer (some ⟨r2, 0, none⟩)], [.int .i64 ((0 : Int)), .int .i64 ((0 : Int)), .slice t523_.1 t523_.2.1 t523_.2.2]⟩ :: ⟨Rep.obj 45 (Rep.prod (Rep.ro Ro.str) (Rep.prod (Rep.ro (Ro.int .i64)) (Rep.ro (Ro.int .i64)))), [.pointer (some ⟨b_r_0, 0, none⟩)], d500_⟩ :: ⟨Rep.raw 43, [.pointer (some ⟨r1, 0, none⟩)], [.pointer (some ⟨b_r_0, 0, none⟩)]⟩ :: F) _ := s522_
                refine s_put (b := r2) (j := 0) (v := .int .i64 (2 : Int)) s527_ rfl (show (0 : Nat) < 3 by decide) ?_
                intro h529_ s528_
                refine s_put (b := r2) (j := 1) (v := .int .i64 t47) s528_ rfl (show (1 : Nat) < 3 by decide) ?_
                intro h531_ s530_
                refine s_put (b := r2) (j := 2) (v := .slice none 0 0) s530_ rfl (show (2 : Nat) < 3 by decide) ?_
                intro h533_ s532_
                have s534_ := St.unro (r := (Ro.list exRo)) (cs := [.slice ((none, 0, 0) : Slc).1 ((none, 0, 0) : Slc).2.1 ((none, 0, 0) : Slc).2.2]) (x := ([] : List Ex)) s532_ ⟨((none, 0, 0) : Slc), rfl, (Ro.SliceIs.nil exRo f497_)⟩
                have s535_ := St.unro (r := (Ro.int .i64)) (cs := [.int .i64 t47]) (x := t47) s534_ rfl
                have s536_ := St.unpair s535_
                have s537_ := St.unro (r := (Ro.int .i64)) (cs := [.int .i64 (2 : Int)]) (x := (2 : Int)) s536_ rfl
                have s538_ := St.unpair s537_
                have s539_ : St f497_ (⟨Rep.obj 25 (Rep.prod (Rep.ro (Ro.int .i64)) (Rep.prod (Rep.ro (Ro.int .i64)) (Rep.ro (Ro.list exRo)))), [.pointer (some ⟨r2, 0, none⟩)], ((2 : Int), t47, ([] : List Ex))⟩ :: ⟨Rep.obj 45 (Rep.prod (Rep.ro Ro.str) (Rep.prod (Rep.ro (Ro.int .i64)) (Rep.ro (Ro.int .i64)))), [.pointer (some ⟨b_r_0, 0, none⟩)], d500_⟩ :: ⟨Rep.raw 43, [.pointer (some ⟨r1, 0, none⟩)], [.pointer (some ⟨b_r_0, 0, none⟩)]⟩ :: F) _ := St.shut s538_.at1
                obtain rfl := Option.some.inj hx55_
                have s540_ := s539_.at2
                have s541_ := s540_.at1
                have s542_ := s541_.at2
                exact aft_ret ⟨f497_, d500_, ((2 : Int), t47, ([] : List Ex)), ((le155_.trans le184_).trans le499_), rfl, s542_⟩
              · rintro _ h543_ ⟨f544_, co547_, ca548_, d549_, le546_, rfl, rfl, s545_⟩
                try dsimp only at hx55_
                obtain rfl := Option.some.inj hx55_
                have s550_ := s545_.at2
                have s551_ := s550_.at2
                have s552_ := s551_.at2
                exact aft_pan ⟨f544_, co547_, ca548_, d549_, ((0 : Int), (0 : Int), ([] : List Ex)), ((le155_.trans le184_).trans le546_), rfl, rfl, s552_⟩
            · refine s_cond hx55_ rfl (fun hb704_ hx55_ => ?_) (fun hb704_ hx55_ => ?_)
              · refine s_loadR (b := r1) (j := 0) (x := (some ⟨b_r_0, 0, none⟩)) s185_.at2 rfl ?_
                obtain ⟨b553_, vs554_, e555_, hl556_, s557_⟩ := s185_.at1.open
                obtain rfl : b_r_0 = b553_ := by simpa using e555_
                clear e555_
                have s558_ := s557_.at1
                obtain ⟨v559_, w560_, rfl, hl562_, s561_⟩ := s558_.pair
                obtain ⟨g563_, s564_⟩ := s561_.ro
                subst g563_
                obtain ⟨v566_, w567_, rfl, hl569_, s568_⟩ := s564_.pair
                obtain ⟨g570_, s571_⟩ := s568_.ro
                subst g570_
                obtain ⟨g573_, s574_⟩ := s571_.ro
                subst g573_
                have s576_ : St f183_ (⟨Rep.raw 45, [.pointer (some ⟨b_r_0, 0, none⟩)], [.string ((d15_.1)), .int .i64 ((d15_.2.1)), .int .i64 ((IntKind.wrap .i64 ((d15_.2.2) + (1 : Int))))]⟩ :: ⟨Rep.obj 25 (Rep.prod (Rep.ro (Ro.int .i64)) (Rep.prod (Rep.ro (Ro.int .i64)) (Rep.ro (Ro.list exRo)))), [.pointer (some ⟨r2, 0, none⟩)], ((0 : Int), (0 : Int), ([] : List Ex))⟩ :: ⟨Rep.raw 43, [.pointer (some ⟨r1, 0, none⟩)], [.pointer (some ⟨b_r_0, 0, none⟩)]⟩ :: F) _ := s574_
                refine t_deref _ rfl ?_
                refine s_loadR (b := b_r_0) (j := 1) (x := ((d15_.2.1))) s576_ rfl ?_
                refine t_deref _ rfl ?_
                refine s_put (b := b_r_0) (j := 1) (v := .int .i64 (IntKind.wrap .i64 (((d15_.2.1)) + (1 : Int)))) s576_ rfl (show (1 : Nat) < 3 by decide) ?_
                intro h578_ s577_
                refine s_loadR (b := r1) (j := 0) (x := (some ⟨b_r_0, 0, none⟩)) s577_.at2 rfl ?_
                have s579_ := St.unro (r := (Ro.int .i64)) (cs := [.int .i64 ((IntKind.wrap .i64 ((d15_.2.2) + (1 : Int))))]) (x := ((IntKind.wrap .i64 ((d15_.2.2) + (1 : Int))))) s577_ rfl
                have s580_ := St.unro (r := (Ro.int .i64)) (cs := [.int .i64 (IntKind.wrap .i64 (((d15_.2.1)) + (1 : Int)))]) (x := (IntKind.wrap .i64 (((d15_.2.1)) + (1 : Int)))) s579_ rfl
                have s581_ := St.unpair s580_
                have s582_ := St.unro (r := Ro.str) (cs := [.string ((d15_.1))]) (x := ((d15_.1))) s581_ rfl
                have s583_ := St.unpair s582_
                have s584_ : St f183_ (⟨Rep.obj 45 (Rep.prod (Rep.ro Ro.str) (Rep.prod (Rep.ro (Ro.int .i64)) (Rep.ro (Ro.int .i64)))), [.pointer (some ⟨b_r_0, 0, none⟩)], (((d15_.1)), (IntKind.wrap .i64 (((d15_.2.1)) + (1 : Int))), ((IntKind.wrap .i64 ((d15_.2.2) + (1 : Int)))))⟩ :: ⟨Rep.obj 25 (Rep.prod (Rep.ro (Ro.int .i64)) (Rep.prod (Rep.ro (Ro.int .i64)) (Rep.ro (Ro.list exRo)))), [.pointer (some ⟨r2, 0, none⟩)], ((0 : Int), (0 : Int), ([] : List Ex))⟩ :: ⟨Rep.raw 43, [.pointer (some ⟨r1, 0, none⟩)], [.pointer (some ⟨b_r_0, 0, none⟩)]⟩ :: F) _ := St.shut s583_.at1
                obtain ⟨r585_, hr586_, hx55_⟩ := Option.bind_eq_some_iff.1 hx55_
                refine s_callP (expr_reader_number_sim  s584_ hr586_) ?_ ?_
                · rintro _ h587_ ⟨f588_, t53, d591_, le590_, rfl, rfl, s589_⟩
                  refine ⟨t53, rfl, ?_⟩
                  try dsimp only at hx55_
                  obtain ⟨b592_, vs593_, e594_, hl595_, s596_⟩ := s589_.at1.open
                  obtain rfl : r2 = b592_ := by simpa using e594_
                  clear e594_
                  have s597_ := s596_.at1
                  obtain ⟨v598_, w599_, rfl, hl601_, s600_⟩ := s597_.pair
                  obtain ⟨g602_, s603_⟩ := s600_.ro
                  subst g602_
                  obtain ⟨v605_, w606_, rfl, hl608_, s607_⟩ := s603_.pair
                  obtain ⟨g609_, s610_⟩ := s607_.ro
                  subst g609_
                  obtain ⟨g612_, s613_⟩ := s610_.ro
                  obtain ⟨t614_, e615_, k616_⟩ := g612_
                  subst e615_
                  have n617_ := k616_.length
                  have s618_ : St f588_ (⟨Rep.raw 25, [.pointer (some ⟨r2, 0, none⟩)], [.int .i64 ((0 : Int)), .int .i64 ((0 : Int)), .slice t614_.1 t614_.2.1 t614_.2.2]⟩ :: ⟨Rep.obj 45 (Rep.prod (Rep.ro Ro.str) (Rep.prod (Rep.ro (Ro.int .i64)) (Rep.ro (Ro.int .i64)))), [.pointer (some ⟨b_r_0, 0, none⟩)], d591_⟩ :: ⟨Rep.raw 43, [.pointer (some ⟨r1, 0, none⟩)], [.pointer (some ⟨b_r_0, 0, none⟩)]⟩ :: F) _ := s613_
                  refine s_put (b := r2) (j := 0) (v := .int .i64 (3 : Int)) s618_ rfl (show (0 : Nat) < 3 by decide) ?_
                  intro h620_ s619_
                  refine s_put (b := r2) (j := 1) (v := .int .i64 t53) s619_ rfl (show (1 : Nat) < 3 by decide) ?_
                  intro h622_ s621_
                  refine s_put (b := r2) (j := 2) (v := .slice none 0 0) s621_ rfl (show (2 : Nat) < 3 by decide) ?_
                  intro h624_ s623_
                  have s625_ := St.unro (r := (Ro.list exRo)) (cs := [.slice ((none, 0, 0) : Slc).1 ((none, 0, 0) : Slc).2.1 ((none, 0, 0) : Slc).2.2]) (x := ([] : List Ex)) s623_ ⟨((none, 0, 0) : Slc), rfl, (Ro.SliceIs.nil exRo f588_)⟩
                  have s626_ := St.unro (r := (Ro.int .i64)) (cs := [.int .i64 t53]) (x := t53) s625_ rfl
                  have s627_ := St.unpair s626_
                  have s628_ := St.unro (r := (Ro.int .i64)) (cs := [.int .i64 (3 : Int)]) (x := (3 : Int)) s627_ rfl
                  have s629_ := St.unpair s628_
                  have s630_ : St f588_ (⟨Rep.obj 25 (Rep.prod (Rep.ro (Ro.int .i64)) (Rep.prod (Rep.ro (Ro.int .i64)) (Rep.ro (Ro.list exRo)))), [.pointer (some ⟨r2, 0, none⟩)], ((3 : Int), t53, ([] : List Ex))⟩ :: ⟨Rep.obj 45 (Rep.prod (Rep.ro Ro.str) (Rep.prod (Rep.ro (Ro.int .i64)) (Rep.ro (Ro.int .i64)))), [.pointer (some ⟨b_r_0, 0, none⟩)], d591_⟩ :: ⟨Rep.raw 43, [.pointer (some ⟨r1, 0, none⟩)], [.pointer (some ⟨b_r_0, 0, none⟩)]⟩ :: F) _ := St.shut s629_.at1
                  obtain rfl := Option.some.inj hx55_
                  have s631_ := s630_.at2
                  have s632_ := s631_.at1
                  have s633_ := s632_.at2
                  exact aft_ret ⟨f588_, d591_, ((3 : Int), t53, ([] : List Ex)), ((le155_.trans le184_).trans le590_), rfl, s633_⟩
                · rintro _ h634_ ⟨f635_, co638_, ca639_, d640_, le637_, rfl, rfl, s636_⟩
                  try dsimp only at hx55_
                  obtain rfl := Option.some.inj hx55_
                  have s641_ := s636_.at2
                  have s642_ := s641_.at2
                  have s643_ := s642_.at2
                  exact aft_pan ⟨f635_, co638_, ca639_, d640_, ((0 : Int), (0 : Int), ([] : List Ex)), ((le155_.trans le184_).trans le637_), rfl, rfl, s643_⟩
              · refine s_loadR (b := r1) (j := 0) (x := (some ⟨b_r_0, 0, none⟩)) s185_.at2 rfl ?_
                have s644_ := s185_.at1
                obtain ⟨r645_, hr646_, hx55_⟩ := Option.bind_eq_some_iff.1 hx55_
                refine s_callP (expr_reader_number_sim  s644_ hr646_) ?_ ?_
                · rintro _ h647_ ⟨f648_, t55, d651_, le650_, rfl, rfl, s649_⟩
                  refine ⟨t55, rfl, ?_⟩
                  try dsimp only at hx55_
                  obtain ⟨b652_, vs653_, e654_, hl655_, s656_⟩ := s649_.at1.open
                  obtain rfl : r2 = b652_ := by simpa using e654_
                  clear e654_
                  have s657_ := s656_.at1
                  obtain ⟨v658_, w659_, rfl, hl661_, s660_⟩ := s657_.pair
                  obtain ⟨g662_, s663_⟩ := s660_.ro
                  subst g662_
                  obtain ⟨v665_, w666_, rfl, hl668_, s667_⟩ := s663_.pair
                  obtain ⟨g669_, s670_⟩ := s667_.ro
                  subst g669_
                  obtain ⟨g672_, s673_⟩ := s670_.ro
                  obtain ⟨t674_, e675_, k676_⟩ := g672_
                  subst e675_
                  have n677_ := k676_.length
                  have s678_ : St f648_ (⟨Rep.raw 25, [.pointer (some ⟨r2, 0, none⟩)], [.int .i64 ((0 : Int)), .int .i64 ((0 : Int)), .slice t674_.1 t674_.2.1 t674_.2.2]⟩ :: ⟨Rep.obj 45 (Rep.prod (Rep.ro Ro.str) (Rep.prod (Rep.ro (Ro.int .i64)) (Rep.ro (Ro.int .i64)))), [.pointer (some ⟨b_r_0, 0, none⟩)], d651_⟩ :: ⟨Rep.raw 43, [.pointer (some ⟨r1, 0, none⟩)], [.pointer (some ⟨b_r_0, 0, none⟩)]⟩ :: F) _ := s673_
                  refine s_put (b := r2) (j := 0) (v := .int .i64 (1 : Int)) s678_ rfl (show (0 : Nat) < 3 by decide) ?_
                  intro h680_ s679_
                  refine s_put (b := r2) (j := 1) (v := .int .i64 t55) s679_ rfl (show (1 : Nat) < 3 by decide) ?_
                  intro h682_ s681_
                  refine s_put (b := r2) (j := 2) (v := .slice none 0 0) s681_ rfl (show (2 : Nat) < 3 by decide) ?_
                  intro h684_ s683_
                  have s685_ := St.unro (r := (Ro.list exRo)) (cs := [.slice ((none, 0, 0) : Slc).1 ((none, 0, 0) : Slc).2.1 ((none, 0, 0) : Slc).2.2]) (x := ([] : List Ex)) s683_ ⟨((none, 0, 0) : Slc), rfl, (Ro.SliceIs.nil exRo f648_)⟩
                  have s686_ := St.unro (r := (Ro.int .i64)) (cs := [.int .i64 t55]) (x := t55) s685_ rfl
                  have s687_ := St.unpair s686_
                  have s688_ := St.unro (r := (Ro.int .i64)) (cs := [.int .i64 (1 : Int)]) (x := (1 : Int)) s687_ rfl
                  have s689_ := St.unpair s688_
                  have s690_ : St f648_ (⟨Rep.obj 25 (Rep.prod (Rep.ro (Ro.int .i64)) (Rep.prod (Rep.ro (Ro.int .i64)) (Rep.ro (Ro.list exRo)))), [.pointer (some ⟨r2, 0, none⟩)], ((1 : Int), t55, ([] : List Ex))⟩ :: ⟨Rep.obj 45 (Rep.prod (Rep.ro Ro.str) (Rep.prod (Rep.ro (Ro.int .i64)) (Rep.ro (Ro.int .i64)))), [.pointer (some ⟨b_r_0, 0, none⟩)], d651_⟩ :: ⟨Rep.raw 43, [.pointer (some ⟨r1, 0, none⟩)], [.pointer (some ⟨b_r_0, 0, none⟩)]⟩ :: F) _ := St.shut s689_.at1
                  obtain rfl := Option.some.inj hx55_
                  have s691_ := s690_.at2
                  have s692_ := s691_.at1
                  have s693_ := s692_.at2
                  exact aft_ret ⟨f648_, d651_, ((1 : Int), t55, ([] : List Ex)), ((le155_.trans le184_).trans le650_), rfl, s693_⟩
                · rintro _ h694_ ⟨f695_, co698_, ca699_, d700_, le697_, rfl, rfl, s696_⟩
                  try dsimp only at hx55_
                  obtain rfl := Option.some.inj hx55_
                  have s701_ := s696_.at2
                  have s702_ := s701_.at2
                  have s703_ := s702_.at2
                  exact aft_pan ⟨f695_, co698_, ca699_, d700_, ((0 : Int), (0 : Int), ([] : List Ex)), ((le155_.trans le184_).trans le697_), rfl, rfl, s703_⟩
  · rintro h710_ ⟨f711_, d714_, d715_, le712_, rfl, s713_⟩
    try dsimp only at hd
    obtain ⟨b716_, vs717_, e718_, hl719_, s720_⟩ := s713_.open
    obtain rfl : b_r_0 = b716_ := by simpa using e718_
    clear e718_
    have s721_ := s720_.at1
    obtain ⟨v722_, w723_, rfl, hl725_, s724_⟩ := s721_.pair
    obtain ⟨g726_, s727_⟩ := s724_.ro
    subst g726_
    obtain ⟨v729_, w730_, rfl, hl732_, s731_⟩ := s727_.pair
    obtain ⟨g733_, s734_⟩ := s731_.ro
    subst g733_
    obtain ⟨g736_, s737_⟩ := s734_.ro
    subst g736_
    have s739_ : St f711_ (⟨Rep.raw 45, [.pointer (some ⟨b_r_0, 0, none⟩)], [.string (d714_.1), .int .i64 (d714_.2.1), .int .i64 (d714_.2.2)]⟩ :: ⟨Rep.obj 25 (Rep.prod (Rep.ro (Ro.int .i64)) (Rep.prod (Rep.ro (Ro.int .i64)) (Rep.ro (Ro.list exRo)))), [.pointer (some ⟨r2, 0, none⟩)], d715_⟩ :: ⟨Rep.raw 43, [.pointer (some ⟨r1, 0, none⟩)], [.pointer (some ⟨b_r_0, 0, none⟩)]⟩ :: F) _ := s737_
    have s740_ := s739_
    have s741_ := s740_.at2
    refine CallsDH.mono (factor1_calls s741_) ?_
    rintro _ _ h742_ ⟨rfl, rfl, s743_⟩
    refine ⟨⟨_, rfl⟩, rfl, ?_⟩
    obtain ⟨b744_, vs745_, e746_, hl747_, s748_⟩ := s743_.at2.open
    obtain rfl : r2 = b744_ := by simpa using e746_
    clear e746_
    have s749_ := s748_.at1
    obtain ⟨v750_, w751_, rfl, hl753_, s752_⟩ := s749_.pair
    obtain ⟨g754_, s755_⟩ := s752_.ro
    subst g754_
    obtain ⟨v757_, w758_, rfl, hl760_, s759_⟩ := s755_.pair
    obtain ⟨g761_, s762_⟩ := s759_.ro
    subst g761_
    obtain ⟨g764_, s765_⟩ := s762_.ro
    obtain ⟨t766_, e767_, k768_⟩ := g764_
    subst e767_
    have n769_ := k768_.length
    have s770_ : St f711_ (⟨Rep.raw 25, [.pointer (some ⟨r2, 0, none⟩)], [.int .i64 (d715_.1), .int .i64 (d715_.2.1), .slice t766_.1 t766_.2.1 t766_.2.2]⟩ :: ⟨Rep.raw 43, [.pointer (some ⟨r1, 0, none⟩)], [.pointer (some ⟨b_r_0, 0, none⟩)]⟩ :: ⟨Rep.raw 45, [.pointer (some ⟨b_r_0, 0, none⟩)], [.string (d714_.1), .int .i64 (d714_.2.1), .int .i64 (IntKind.wrap .i64 ((d714_.2.2) - 1))]⟩ :: F) _ := s765_
    refine s_loadR (b := r2) (j := 0) (x := (d715_.1)) s770_ rfl ?_
    refine s_loadR (b := r2) (j := 1) (x := (d715_.2.1)) s770_ rfl ?_
    refine s_loadR (b := r2) (j := 2) (x := t766_) s770_ rfl ?_
    have s771_ := St.unro (r := (Ro.int .i64)) (cs := [.int .i64 (IntKind.wrap .i64 ((d714_.2.2) - 1))]) (x := (IntKind.wrap .i64 ((d714_.2.2) - 1))) s770_ rfl
    have s772_ := St.unro (r := (Ro.int .i64)) (cs := [.int .i64 (d714_.2.1)]) (x := (d714_.2.1)) s771_ rfl
    have s773_ := St.unpair s772_
    have s774_ := St.unro (r := Ro.str) (cs := [.string (d714_.1)]) (x := (d714_.1)) s773_ rfl
    have s775_ := St.unpair s774_
    have s776_ : St f711_ (⟨Rep.obj 45 (Rep.prod (Rep.ro Ro.str) (Rep.prod (Rep.ro (Ro.int .i64)) (Rep.ro (Ro.int .i64)))), [.pointer (some ⟨b_r_0, 0, none⟩)], ((d714_.1), (d714_.2.1), (IntKind.wrap .i64 ((d714_.2.2) - 1)))⟩ :: ⟨Rep.raw 25, [.pointer (some ⟨r2, 0, none⟩)], [.int .i64 (d715_.1), .int .i64 (d715_.2.1), .slice t766_.1 t766_.2.1 t766_.2.2]⟩ :: ⟨Rep.raw 43, [.pointer (some ⟨r1, 0, none⟩)], [.pointer (some ⟨b_r_0, 0, none⟩)]⟩ :: F) _ := St.shut s775_.at3
    obtain rfl := Option.some.inj hd
    have s777_ := s776_.at1.tail
    have s778_ := s777_.at1.tail
    exact finOf_ret ⟨f711_, ((d715_.1), (d715_.2.1), t766_, ()), d715_.2.2, ((d714_.1), (d714_.2.1), (IntKind.wrap .i64 ((d714_.2.2) - 1))), (le14_.trans le712_), rfl, rfl, k768_, s778_⟩
  · rintro _ h779_ ⟨f780_, co785_, ca786_, d783_, d784_, le781_, rfl, rfl, s782_⟩
    try dsimp only at hd
    obtain ⟨b787_, vs788_, e789_, hl790_, s791_⟩ := s782_.open
    obtain rfl : b_r_0 = b787_ := by simpa using e789_
    clear e789_
    have s792_ := s791_.at1
    obtain ⟨v793_, w794_, rfl, hl796_, s795_⟩ := s792_.pair
    obtain ⟨g797_, s798_⟩ := s795_.ro
    subst g797_
    obtain ⟨v800_, w801_, rfl, hl803_, s802_⟩ := s798_.pair
    obtain ⟨g804_, s805_⟩ := s802_.ro
    subst g804_
    obtain ⟨g807_, s808_⟩ := s805_.ro
    subst g807_
    have s810_ : St f780_ (⟨Rep.raw 45, [.pointer (some ⟨b_r_0, 0, none⟩)], [.string (d783_.1), .int .i64 (d783_.2.1), .int .i64 (d783_.2.2)]⟩ :: ⟨Rep.obj 25 (Rep.prod (Rep.ro (Ro.int .i64)) (Rep.prod (Rep.ro (Ro.int .i64)) (Rep.ro (Ro.list exRo)))), [.pointer (some ⟨r2, 0, none⟩)], d784_⟩ :: ⟨Rep.raw 43, [.pointer (some ⟨r1, 0, none⟩)], [.pointer (some ⟨b_r_0, 0, none⟩)]⟩ :: F) _ := s808_
    have s811_ := s810_
    have s812_ := s811_.at2
    refine CallsDH.mono (factor1_calls s812_) ?_
    rintro _ _ h813_ ⟨rfl, rfl, s814_⟩
    refine ⟨⟨_, rfl⟩, .inr ⟨_, rfl, ?_⟩⟩
    have s815_ := St.unro (r := (Ro.int .i64)) (cs := [.int .i64 (IntKind.wrap .i64 ((d783_.2.2) - 1))]) (x := (IntKind.wrap .i64 ((d783_.2.2) - 1))) s814_ rfl
    have s816_ := St.unro (r := (Ro.int .i64)) (cs := [.int .i64 (d783_.2.1)]) (x := (d783_.2.1)) s815_ rfl
    have s817_ := St.unpair s816_
    have s818_ := St.unro (r := Ro.str) (cs := [.string (d783_.1)]) (x := (d783_.1)) s817_ rfl
    have s819_ := St.unpair s818_
    have s820_ : St f780_ (⟨Rep.obj 45 (Rep.prod (Rep.ro Ro.str) (Rep.prod (Rep.ro (Ro.int .i64)) (Rep.ro (Ro.int .i64)))), [.pointer (some ⟨b_r_0, 0, none⟩)], ((d783_.1), (d783_.2.1), (IntKind.wrap .i64 ((d783_.2.2) - 1)))⟩ :: ⟨Rep.raw 43, [.pointer (some ⟨r1, 0, none⟩)], [.pointer (some ⟨b_r_0, 0, none⟩)]⟩ :: ⟨Rep.obj 25 (Rep.prod (Rep.ro (Ro.int .i64)) (Rep.prod (Rep.ro (Ro.int .i64)) (Rep.ro (Ro.list exRo)))), [.pointer (some ⟨r2, 0, none⟩)], d784_⟩ :: F) _ := St.shut s819_.at2
    obtain rfl := Option.some.inj hd
    have s821_ := s820_.at1.tail
    have s822_ := s821_.at1.tail
    exact finOf_pan ⟨f780_, co785_, ca786_, ((d783_.1), (d783_.2.1), (IntKind.wrap .i64 ((d783_.2.2) - 1))), (le14_.trans le781_), rfl, rfl, s822_⟩
noncomputable def expr_reader_factor_D : Nat → (ByteArray × Int × Int) → Option (Step (Int × Int × List Ex × (ByteArray × Int × Int)) (Int × Int))
  | 0 => fun _ => none
  | n + 1 => expr_reader_factor_B (expr_reader_factor_D n)
theorem expr_reader_factor_sim : ∀ n, expr_reader_factor_C (expr_reader_factor_D n)
  | 0 => by intro  s0 r hd; cases hd
  | n + 1 => by intro  s0 r hd; exact expr_reader_factor_step (expr_reader_factor_sim n)  s0 hd

@[reducible] def tronageref20_Reader_factor_C (rec : (ByteArray × Int × Int × Int × Int) → Option (Int × Int × List Ex × (ByteArray × Int × Int × Int × Int))) : Prop := ∀ {φ : Snap} {h : Heap} {F : List Chk} {r_0 : Option Addr} {d_r_0 : (ByteArray × Int × Int × Int × Int)}  (s0 : St φ (⟨Rep.obj 51 (Rep.prod (Rep.ro Ro.str) (Rep.prod (Rep.ro (Ro.int .i64)) (Rep.prod (Rep.ro (Ro.int .i64)) (Rep.prod (Rep.ro (Ro.int .i64)) (Rep.ro (Ro.int .i64)))))), [.pointer r_0], d_r_0⟩ :: F) h) {r : (Int × Int × List Ex × (ByteArray × Int × Int × Int × Int))} (hd : rec d_r_0 = some r), CallsH Tryd.prog 47 [(.pointer r_0)] h (Back fun v h' => ∃ ψ : Snap, ∃ y : Int × Int × (Option Addr × Nat × Nat) × Unit, ∃ l1_ : List Ex, ∃ l2_ : (ByteArray × Int × Int × Int × Int), Sub φ ψ ∧ v = ((.one (.agg [(.int .i64), (.int .i64), .slice])) : Sh).val y ∧ (y.1, y.2.1, l1_, l2_) = r ∧ Ro.SliceIs exRo ψ y.2.2.1 l1_ ∧ St ψ (⟨Rep.obj 51 (Rep.prod (Rep.ro Ro.str) (Rep.prod (Rep.ro (Ro.int .i64)) (Rep.prod (Rep.ro (Ro.int .i64)) (Rep.prod (Rep.ro (Ro.int .i64)) (Rep.ro (Ro.int .i64)))))), [.pointer r_0], l2_⟩ :: F) h')
noncomputable def tronageref20_Reader_product_D (rec : (ByteArray × Int × Int × Int × Int) → Option (Int × Int × List Ex × (ByteArray × Int × Int × Int × Int))) (r_0 : (ByteArray × Int × Int × Int × Int)) : Option (Int × Int × List Ex × (ByteArray × Int × Int × Int × Int)) :=
  (rec r_0).bind fun t2 =>
  (loop (σ := ((ByteArray × Int × Int × Int × Int) × (Int × Int × List Ex))) (β := ((ByteArray × Int × Int × Int × Int) × (Int × Int × List Ex))) (t2.2.2.2, (t2.1, t2.2.1, t2.2.2.1)) fun z5 =>
    cond ((z5.1.2.2.2.1) == (0 : Int))
    ((tronageref20_Reader_now_D ((z5.1.1), (z5.1.2.1), (z5.1.2.2.1), (z5.1.2.2.2.1), (z5.1.2.2.2.2))).bind fun t8 =>
      (cond (t8.1 == (42 : Int))
      (some (7 : Int))
      ((cond (t8.1 == (47 : Int))
        (some (8 : Int))
        ((cond (t8.1 == (37 : Int))
          (some (9 : Int))
          (some (0 : Int))).bind fun z11 =>
          some z11)).bind fun z10 =>
        some z10)).bind fun z9 =>
      cond (z9 == (0 : Int))
      (some (Step.done (t8.2, z5.2)))
      ((rec ((t8.2.1), (IntKind.wrap .i64 ((t8.2.2.1) + (1 : Int))), (t8.2.2.2.1), (t8.2.2.2.2.1), (t8.2.2.2.2.2))).bind fun t15 =>
        some (Step.next (t15.2.2.2, (z9, (0 : Int), ([(Ex.mk (z5.2.1) (z5.2.2.1) z5.2.2.2), (Ex.mk t15.1 t15.2.1 t15.2.2.1)] : List Ex))))))
    (some (Step.done (((z5.1.1), (z5.1.2.1), (z5.1.2.2.1), (z5.1.2.2.2.1), (z5.1.2.2.2.2)), z5.2)))).bind fun z4 =>
  some ((z4.2.1), (z4.2.2.1), z4.2.2.2, z4.1)
theorem tronageref20_Reader_product_sim {rec : (ByteArray × Int × Int × Int × Int) → Option (Int × Int × List Ex × (ByteArray × Int × Int × Int × Int))} (Hrec : tronageref20_Reader_factor_C rec) {φ : Snap} {h : Heap} {F : List Chk} {r_0 : Option Addr} {d_r_0 : (ByteArray × Int × Int × Int × Int)}  (s0 : St φ (⟨Rep.obj 51 (Rep.prod (Rep.ro Ro.str) (Rep.prod (Rep.ro (Ro.int .i64)) (Rep.prod (Rep.ro (Ro.int .i64)) (Rep.prod (Rep.ro (Ro.int .i64)) (Rep.ro (Ro.int .i64)))))), [.pointer r_0], d_r_0⟩ :: F) h) {r : (Int × Int × List Ex × (ByteArray × Int × Int × Int × Int))} (hd : tronageref20_Reader_product_D rec d_r_0 = some r) :
    CallsH Tryd.prog 39 [(.pointer r_0)] h (Back fun v h' => ∃ ψ : Snap, ∃ y : Int × Int × (Option Addr × Nat × Nat) × Unit, ∃ l1_ : List Ex, ∃ l2_ : (ByteArray × Int × Int × Int × Int), Sub φ ψ ∧ v = ((.one (.agg [(.int .i64), (.int .i64), .slice])) : Sh).val y ∧ (y.1, y.2.1, l1_, l2_) = r ∧ Ro.SliceIs exRo ψ y.2.2.1 l1_ ∧ St ψ (⟨Rep.obj 51 (Rep.prod (Rep.ro Ro.str) (Rep.prod (Rep.ro (Ro.int .i64)) (Rep.prod (Rep.ro (Ro.int .i64)) (Rep.prod (Rep.ro (Ro.int .i64)) (Rep.ro (Ro.int .i64)))))), [.pointer r_0], l2_⟩ :: F) h') := by
  refine calls_of mixed Tryd.func39 ?_
  rw [tronageref20_Reader_product_den]
  unfold tronageref20_Reader_product_T
  unfold tronageref20_Reader_product_D at hd
  try dsimp only [Ex.kind_mk, Ex.n_mk, Ex.kids_mk] at hd
  refine s_new (vs := [.int .i64 (0 : Int), .int .i64 (0 : Int), .slice none 0 0]) s0 ?_
  intro r1 h5_ s4_
  have s6_ := s4_.at1
  obtain ⟨r7_, hr8_, hd⟩ := Option.bind_eq_some_iff.1 hd
  refine s_call (Hrec  s6_ hr8_) ?_
  rintro _ h9_ ⟨f10_, t2, d13_, d16_, le12_, rfl, rfl, k15_, s11_⟩
  refine ⟨t2, rfl, ?_⟩
  try dsimp only at hd
  have n14_ := k15_.length
  refine s_new (vs := [.int .i64 (0 : Int), .int .i64 (0 : Int), .slice none 0 0]) s11_ ?_
  intro r3 h18_ s17_
  refine s_put (b := r3) (j := 0) (v := .int .i64 t2.1) s17_ rfl (show (0 : Nat) < 3 by decide) ?_
  intro h20_ s19_
  refine s_put (b := r3) (j := 1) (v := .int .i64 t2.2.1) s19_ rfl (show (1 : Nat) < 3 by decide) ?_
  intro h22_ s21_
  refine s_put (b := r3) (j := 2) (v := .slice t2.2.2.1.1 t2.2.2.1.2.1 t2.2.2.1.2.2) s21_ rfl (show (2 : Nat) < 3 by decide) ?_
  intro h24_ s23_
  have s25_ := St.unro (r := (Ro.list exRo)) (cs := [.slice t2.2.2.1.1 t2.2.2.1.2.1 t2.2.2.1.2.2]) (x := d13_) s23_ ⟨t2.2.2.1, rfl, k15_⟩
  have s26_ := St.unro (r := (Ro.int .i64)) (cs := [.int .i64 t2.2.1]) (x := t2.2.1) s25_ rfl
  have s27_ := St.unpair s26_
  have s28_ := St.unro (r := (Ro.int .i64)) (cs := [.int .i64 t2.1]) (x := t2.1) s27_ rfl
  have s29_ := St.unpair s28_
  have s30_ : St f10_ (⟨Rep.obj 25 (Rep.prod (Rep.ro (Ro.int .i64)) (Rep.prod (Rep.ro (Ro.int .i64)) (Rep.ro (Ro.list exRo)))), [.pointer (some ⟨r3, 0, none⟩)], (t2.1, t2.2.1, d13_)⟩ :: ⟨Rep.obj 51 (Rep.prod (Rep.ro Ro.str) (Rep.prod (Rep.ro (Ro.int .i64)) (Rep.prod (Rep.ro (Ro.int .i64)) (Rep.prod (Rep.ro (Ro.int .i64)) (Rep.ro (Ro.int .i64)))))), [.pointer r_0], d16_⟩ :: ⟨Rep.raw 25, [.pointer (some ⟨r1, 0, none⟩)], [.int .i64 (0 : Int), .int .i64 (0 : Int), .slice none 0 0]⟩ :: F) _ := St.shut s29_.at1
  have s33_ := s30_.at2
  have s34_ := s33_.at1
  have s35_ := s34_.at2
  obtain ⟨g31_, hx32_, hd⟩ := Option.bind_eq_some_iff.1 hd
  refine s_block (fun (y : Unit) w_ g => ∃ ψ : Snap, ∃ l36_ : (ByteArray × Int × Int × Int × Int), ∃ l37_ : (Int × Int × List Ex), Sub f10_ ψ ∧ (l36_, l37_) = g ∧ St ψ (⟨Rep.obj 51 (Rep.prod (Rep.ro Ro.str) (Rep.prod (Rep.ro (Ro.int .i64)) (Rep.prod (Rep.ro (Ro.int .i64)) (Rep.prod (Rep.ro (Ro.int .i64)) (Rep.ro (Ro.int .i64)))))), [.pointer r_0], l36_⟩ :: ⟨Rep.obj 25 (Rep.prod (Rep.ro (Ro.int .i64)) (Rep.prod (Rep.ro (Ro.int .i64)) (Rep.ro (Ro.list exRo)))), [.pointer (some ⟨r3, 0, none⟩)], l37_⟩ :: ⟨Rep.raw 25, [.pointer (some ⟨r1, 0, none⟩)], [.int .i64 (0 : Int), .int .i64 (0 : Int), .slice none 0 0]⟩ :: F) w_) (g := g31_) ?_ ?_
  · refine s_loop hx32_ (fun (y : Unit) w_ g => ∃ ψ : Snap, ∃ l38_ : (ByteArray × Int × Int × Int × Int), ∃ l39_ : (Int × Int × List Ex), Sub f10_ ψ ∧ (l38_, l39_) = g ∧ St ψ (⟨Rep.obj 51 (Rep.prod (Rep.ro Ro.str) (Rep.prod (Rep.ro (Ro.int .i64)) (Rep.prod (Rep.ro (Ro.int .i64)) (Rep.prod (Rep.ro (Ro.int .i64)) (Rep.ro (Ro.int .i64)))))), [.pointer r_0], l38_⟩ :: ⟨Rep.obj 25 (Rep.prod (Rep.ro (Ro.int .i64)) (Rep.prod (Rep.ro (Ro.int .i64)) (Rep.ro (Ro.list exRo)))), [.pointer (some ⟨r3, 0, none⟩)], l39_⟩ :: ⟨Rep.raw 25, [.pointer (some ⟨r1, 0, none⟩)], [.int .i64 (0 : Int), .int .i64 (0 : Int), .slice none 0 0]⟩ :: F) w_) (()) rfl ⟨f10_, d16_, (t2.1, t2.2.1, d13_), (Sub.refl _), rfl, s35_⟩ ?_
    · rintro z5 h45_ _ _ ⟨f42_, d46_, d47_, le43_, rfl, s44_⟩ he40_ hb41_
      try dsimp only at he40_
      obtain ⟨b48_, vs49_, e50_, hl51_, s52_⟩ := s44_.open
      obtain rfl : r_0 = some ⟨b48_, 0, none⟩ := by simpa using e50_
      clear e50_
      have s53_ := s52_.at1
      obtain ⟨v54_, w55_, rfl, hl57_, s56_⟩ := s53_.pair
      obtain ⟨g58_, s59_⟩ := s56_.ro
      subst g58_
      obtain ⟨v61_, w62_, rfl, hl64_, s63_⟩ := s59_.pair
      obtain ⟨g65_, s66_⟩ := s63_.ro
      subst g65_
      obtain ⟨v68_, w69_, rfl, hl71_, s70_⟩ := s66_.pair
      obtain ⟨g72_, s73_⟩ := s70_.ro
      subst g72_
      obtain ⟨v75_, w76_, rfl, hl78_, s77_⟩ := s73_.pair
      obtain ⟨g79_, s80_⟩ := s77_.ro
      subst g79_
      obtain ⟨g82_, s83_⟩ := s80_.ro
      subst g82_
      have s85_ : St f42_ (⟨Rep.raw 51, [.pointer (some ⟨b48_, 0, none⟩)], [.string (d46_.1), .int .i64 (d46_.2.1), .int .i64 (d46_.2.2.1), .int .i64 (d46_.2.2.2.1), .int .i64 (d46_.2.2.2.2)]⟩ :: ⟨Rep.obj 25 (Rep.prod (Rep.ro (Ro.int .i64)) (Rep.prod (Rep.ro (Ro.int .i64)) (Rep.ro (Ro.list exRo)))), [.pointer (some ⟨r3, 0, none⟩)], d47_⟩ :: ⟨Rep.raw 25, [.pointer (some ⟨r1, 0, none⟩)], [.int .i64 (0 : Int), .int .i64 (0 : Int), .slice none 0 0]⟩ :: F) _ := s83_
      refine t_deref _ rfl ?_
      refine s_loadR (b := b48_) (j := 3) (x := (d46_.2.2.2.1)) s85_ rfl ?_
      refine s_cond he40_ rfl (fun hb277_ he40_ => ?_) (fun hb277_ he40_ => ?_)
      · have s86_ := St.unro (r := (Ro.int .i64)) (cs := [.int .i64 (d46_.2.2.2.2)]) (x := (d46_.2.2.2.2)) s85_ rfl
        have s87_ := St.unro (r := (Ro.int .i64)) (cs := [.int .i64 (d46_.2.2.2.1)]) (x := (d46_.2.2.2.1)) s86_ rfl
        have s88_ := St.unpair s87_
        have s89_ := St.unro (r := (Ro.int .i64)) (cs := [.int .i64 (d46_.2.2.1)]) (x := (d46_.2.2.1)) s88_ rfl
        have s90_ := St.unpair s89_
        have s91_ := St.unro (r := (Ro.int .i64)) (cs := [.int .i64 (d46_.2.1)]) (x := (d46_.2.1)) s90_ rfl
        have s92_ := St.unpair s91_
        have s93_ := St.unro (r := Ro.str) (cs := [.string (d46_.1)]) (x := (d46_.1)) s92_ rfl
        have s94_ := St.unpair s93_
        have s95_ : St f42_ (⟨Rep.obj 51 (Rep.prod (Rep.ro Ro.str) (Rep.prod (Rep.ro (Ro.int .i64)) (Rep.prod (Rep.ro (Ro.int .i64)) (Rep.prod (Rep.ro (Ro.int .i64)) (Rep.ro (Ro.int .i64)))))), [.pointer (some ⟨b48_, 0, none⟩)], ((d46_.1), (d46_.2.1), (d46_.2.2.1), (d46_.2.2.2.1), (d46_.2.2.2.2))⟩ :: ⟨Rep.obj 25 (Rep.prod (Rep.ro (Ro.int .i64)) (Rep.prod (Rep.ro (Ro.int .i64)) (Rep.ro (Ro.list exRo)))), [.pointer (some ⟨r3, 0, none⟩)], d47_⟩ :: ⟨Rep.raw 25, [.pointer (some ⟨r1, 0, none⟩)], [.int .i64 (0 : Int), .int .i64 (0 : Int), .slice none 0 0]⟩ :: F) _ := St.shut s94_.at1
        obtain ⟨r96_, hr97_, he40_⟩ := Option.bind_eq_some_iff.1 he40_
        refine s_call (tronageref20_Reader_now_sim  s95_ hr97_) ?_
        rintro _ h98_ ⟨f99_, t8, d102_, le101_, rfl, rfl, s100_⟩
        refine ⟨t8, rfl, ?_⟩
        try dsimp only at he40_
        obtain ⟨g103_, hx104_, he40_⟩ := Option.bind_eq_some_iff.1 he40_
        refine s_join (fun (y : Int × Unit) w_ g => ∃ ψ : Snap, Sub f99_ ψ ∧ y.1 = g ∧ St ψ (⟨Rep.obj 51 (Rep.prod (Rep.ro Ro.str) (Rep.prod (Rep.ro (Ro.int .i64)) (Rep.prod (Rep.ro (Ro.int .i64)) (Rep.prod (Rep.ro (Ro.int .i64)) (Rep.ro (Ro.int .i64)))))), [.pointer (some ⟨b48_, 0, none⟩)], d102_⟩ :: ⟨Rep.obj 25 (Rep.prod (Rep.ro (Ro.int .i64)) (Rep.prod (Rep.ro (Ro.int .i64)) (Rep.ro (Ro.list exRo)))), [.pointer (some ⟨r3, 0, none⟩)], d47_⟩ :: ⟨Rep.raw 25, [.pointer (some ⟨r1, 0, none⟩)], [.int .i64 (0 : Int), .int .i64 (0 : Int), .slice none 0 0]⟩ :: F) w_) (g := g103_) ?_ ?_
        · refine s_cond hx104_ rfl (fun hb137_ hx104_ => ?_) (fun hb137_ hx104_ => ?_)
          · have s105_ := s100_.at2
            have s106_ := s105_.at2
            have s107_ := s106_.at2
            obtain rfl := Option.some.inj hx104_
            exact s_out ((7 : Int), ()) rfl ⟨f99_, (Sub.refl _), rfl, s107_⟩
          · obtain ⟨g108_, hx109_, hx104_⟩ := Option.bind_eq_some_iff.1 hx104_
            refine s_join (fun (y : Int × Unit) w_ g => ∃ ψ : Snap, Sub f99_ ψ ∧ y.1 = g ∧ St ψ (⟨Rep.obj 51 (Rep.prod (Rep.ro Ro.str) (Rep.prod (Rep.ro (Ro.int .i64)) (Rep.prod (Rep.ro (Ro.int .i64)) (Rep.prod (Rep.ro (Ro.int .i64)) (Rep.ro (Ro.int .i64)))))), [.pointer (some ⟨b48_, 0, none⟩)], d102_⟩ :: ⟨Rep.obj 25 (Rep.prod (Rep.ro (Ro.int .i64)) (Rep.prod (Rep.ro (Ro.int .i64)) (Rep.ro (Ro.list exRo)))), [.pointer (some ⟨r3, 0, none⟩)], d47_⟩ :: ⟨Rep.raw 25, [.pointer (some ⟨r1, 0, none⟩)], [.int .i64 (0 : Int), .int .i64 (0 : Int), .slice none 0 0]⟩ :: F) w_) (g := g108_) ?_ ?_
            · refine s_cond hx109_ rfl (fun hb129_ hx109_ => ?_) (fun hb129_ hx109_ => ?_)
              · have s110_ := s100_.at2
                have s111_ := s110_.at2
                have s112_ := s111_.at2
                obtain rfl := Option.some.inj hx109_
                exact s_out ((8 : Int), ()) rfl ⟨f99_, (Sub.refl _), rfl, s112_⟩
              · obtain ⟨g113_, hx114_, hx109_⟩ := Option.bind_eq_some_iff.1 hx109_
                refine s_join (fun (y : Int × Unit) w_ g => ∃ ψ : Snap, Sub f99_ ψ ∧ y.1 = g ∧ St ψ (⟨Rep.obj 51 (Rep.prod (Rep.ro Ro.str) (Rep.prod (Rep.ro (Ro.int .i64)) (Rep.prod (Rep.ro (Ro.int .i64)) (Rep.prod (Rep.ro (Ro.int .i64)) (Rep.ro (Ro.int .i64)))))), [.pointer (some ⟨b48_, 0, none⟩)], d102_⟩ :: ⟨Rep.obj 25 (Rep.prod (Rep.ro (Ro.int .i64)) (Rep.prod (Rep.ro (Ro.int .i64)) (Rep.ro (Ro.list exRo)))), [.pointer (some ⟨r3, 0, none⟩)], d47_⟩ :: ⟨Rep.raw 25, [.pointer (some ⟨r1, 0, none⟩)], [.int .i64 (0 : Int), .int .i64 (0 : Int), .slice none 0 0]⟩ :: F) w_) (g := g113_) ?_ ?_
                · refine s_cond hx114_ rfl (fun hb121_ hx114_ => ?_) (fun hb121_ hx114_ => ?_)
                  · have s115_ := s100_.at2
                    have s116_ := s115_.at2
                    have s117_ := s116_.at2
                    obtain rfl := Option.some.inj hx114_
                    exact s_out ((9 : Int), ()) rfl ⟨f99_, (Sub.refl _), rfl, s117_⟩
                  · have s118_ := s100_.at2
                    have s119_ := s118_.at2
                    have s120_ := s119_.at2
                    obtain rfl := Option.some.inj hx114_
                    exact s_out ((0 : Int), ()) rfl ⟨f99_, (Sub.refl _), rfl, s120_⟩
                · rintro z11 h122_ ⟨f123_, le124_, rfl, s125_⟩
                  try dsimp only at hx109_
                  have s126_ := s125_.at2
                  have s127_ := s126_.at2
                  have s128_ := s127_.at2
                  obtain rfl := Option.some.inj hx109_
                  exact s_out (z11.1, ()) rfl ⟨f123_, le124_, rfl, s128_⟩
            · rintro z10 h130_ ⟨f131_, le132_, rfl, s133_⟩
              try dsimp only at hx104_
              have s134_ := s133_.at2
              have s135_ := s134_.at2
              have s136_ := s135_.at2
              obtain rfl := Option.some.inj hx104_
              exact s_out (z10.1, ()) rfl ⟨f131_, le132_, rfl, s136_⟩
        · rintro z9 h138_ ⟨f139_, le140_, rfl, s141_⟩
          try dsimp only at he40_
          refine s_cond he40_ rfl (fun hb263_ he40_ => ?_) (fun hb263_ he40_ => ?_)
          · have s142_ := s141_.at2
            have s143_ := s142_.at2
            have s144_ := s143_.at2
            obtain rfl := Option.some.inj he40_
            obtain rfl := hb41_ _ rfl
            exact around_brk (meetB_brk (()) rfl ⟨f139_, d102_, d47_, ((le43_.trans le101_).trans le140_), rfl, s144_⟩)
          · obtain ⟨b145_, vs146_, e147_, hl148_, s149_⟩ := s141_.open
            obtain rfl : b48_ = b145_ := by simpa using e147_
            clear e147_
            have s150_ := s149_.at1
            obtain ⟨v151_, w152_, rfl, hl154_, s153_⟩ := s150_.pair
            obtain ⟨g155_, s156_⟩ := s153_.ro
            subst g155_
            obtain ⟨v158_, w159_, rfl, hl161_, s160_⟩ := s156_.pair
            obtain ⟨g162_, s163_⟩ := s160_.ro
            subst g162_
            obtain ⟨v165_, w166_, rfl, hl168_, s167_⟩ := s163_.pair
            obtain ⟨g169_, s170_⟩ := s167_.ro
            subst g169_
            obtain ⟨v172_, w173_, rfl, hl175_, s174_⟩ := s170_.pair
            obtain ⟨g176_, s177_⟩ := s174_.ro
            subst g176_
            obtain ⟨g179_, s180_⟩ := s177_.ro
            subst g179_
            have s182_ : St f139_ (⟨Rep.raw 51, [.pointer (some ⟨b48_, 0, none⟩)], [.string (d102_.1), .int .i64 (d102_.2.1), .int .i64 (d102_.2.2.1), .int .i64 (d102_.2.2.2.1), .int .i64 (d102_.2.2.2.2)]⟩ :: ⟨Rep.obj 25 (Rep.prod (Rep.ro (Ro.int .i64)) (Rep.prod (Rep.ro (Ro.int .i64)) (Rep.ro (Ro.list exRo)))), [.pointer (some ⟨r3, 0, none⟩)], d47_⟩ :: ⟨Rep.raw 25, [.pointer (some ⟨r1, 0, none⟩)], [.int .i64 (0 : Int), .int .i64 (0 : Int), .slice none 0 0]⟩ :: F) _ := s180_
            refine t_deref _ rfl ?_
            refine s_loadR (b := b48_) (j := 1) (x := (d102_.2.1)) s182_ rfl ?_
            refine t_deref _ rfl ?_
            refine s_put (b := b48_) (j := 1) (v := .int .i64 (IntKind.wrap .i64 ((d102_.2.1) + (1 : Int)))) s182_ rfl (show (1 : Nat) < 5 by decide) ?_
            intro h184_ s183_
            have s185_ := St.unro (r := (Ro.int .i64)) (cs := [.int .i64 (d102_.2.2.2.2)]) (x := (d102_.2.2.2.2)) s183_ rfl
            have s186_ := St.unro (r := (Ro.int .i64)) (cs := [.int .i64 (d102_.2.2.2.1)]) (x := (d102_.2.2.2.1)) s185_ rfl
            have s187_ := St.unpair s186_
            have s188_ := St.unro (r := (Ro.int .i64)) (cs := [.int .i64 (d102_.2.2.1)]) (x := (d102_.2.2.1)) s187_ rfl
            have s189_ := St.unpair s188_
            have s190_ := St.unro (r := (Ro.int .i64)) (cs := [.int .i64 (IntKind.wrap .i64 ((d102_.2.1) + (1 : Int)))]) (x := (IntKind.wrap .i64 ((d102_.2.1) + (1 : Int)))) s189_ rfl
            have s191_ := St.unpair s190_
            have s192_ := St.unro (r := Ro.str) (cs := [.string (d102_.1)]) (x := (d102_.1)) s191_ rfl
            have s193_ := St.unpair s192_
            have s194_ : St f139_ (⟨Rep.obj 51 (Rep.prod (Rep.ro Ro.str) (Rep.prod (Rep.ro (Ro.int .i64)) (Rep.prod (Rep.ro (Ro.int .i64)) (Rep.prod (Rep.ro (Ro.int .i64)) (Rep.ro (Ro.int .i64)))))), [.pointer (some ⟨b48_, 0, none⟩)], ((d102_.1), (IntKind.wrap .i64 ((d102_.2.1) + (1 : Int))), (d102_.2.2.1), (d102_.2.2.2.1), (d102_.2.2.2.2))⟩ :: ⟨Rep.obj 25 (Rep.prod (Rep.ro (Ro.int .i64)) (Rep.prod (Rep.ro (Ro.int .i64)) (Rep.ro (Ro.list exRo)))), [.pointer (some ⟨r3, 0, none⟩)], d47_⟩ :: ⟨Rep.raw 25, [.pointer (some ⟨r1, 0, none⟩)], [.int .i64 (0 : Int), .int .i64 (0 : Int), .slice none 0 0]⟩ :: F) _ := St.shut s193_.at1
            obtain ⟨r195_, hr196_, he40_⟩ := Option.bind_eq_some_iff.1 he40_
            refine s_call (Hrec  s194_ hr196_) ?_
            rintro _ h197_ ⟨f198_, t15, d201_, d204_, le200_, rfl, rfl, k203_, s199_⟩
            refine ⟨t15, rfl, ?_⟩
            try dsimp only at he40_
            have n202_ := k203_.length
            refine s_new (vs := [.int .i64 (0 : Int), .int .i64 (0 : Int), .slice none 0 0]) s199_ ?_
            intro r16 h206_ s205_
            refine s_put (b := r16) (j := 0) (v := .int .i64 t15.1) s205_ rfl (show (0 : Nat) < 3 by decide) ?_
            intro h208_ s207_
            refine s_put (b := r16) (j := 1) (v := .int .i64 t15.2.1) s207_ rfl (show (1 : Nat) < 3 by decide) ?_
            intro h210_ s209_
            refine s_put (b := r16) (j := 2) (v := .slice t15.2.2.1.1 t15.2.2.1.2.1 t15.2.2.1.2.2) s209_ rfl (show (2 : Nat) < 3 by decide) ?_
            intro h212_ s211_
            obtain ⟨b213_, vs214_, e215_, hl216_, s217_⟩ := s211_.at2.open
            obtain rfl : r3 = b213_ := by simpa using e215_
            clear e215_
            have s218_ := s217_.at1
            obtain ⟨v219_, w220_, rfl, hl222_, s221_⟩ := s218_.pair
            obtain ⟨g223_, s224_⟩ := s221_.ro
            subst g223_
            obtain ⟨v226_, w227_, rfl, hl229_, s228_⟩ := s224_.pair
            obtain ⟨g230_, s231_⟩ := s228_.ro
            subst g230_
            obtain ⟨g233_, s234_⟩ := s231_.ro
            obtain ⟨t235_, e236_, k237_⟩ := g233_
            subst e236_
            have n238_ := k237_.length
            have s239_ : St f198_ (⟨Rep.raw 25, [.pointer (some ⟨r3, 0, none⟩)], [.int .i64 (d47_.1), .int .i64 (d47_.2.1), .slice t235_.1 t235_.2.1 t235_.2.2]⟩ :: ⟨Rep.raw 25, [.pointer (some ⟨r16, 0, none⟩)], [.int .i64 t15.1, .int .i64 t15.2.1, .slice t15.2.2.1.1 t15.2.2.1.2.1 t15.2.2.1.2.2]⟩ :: ⟨Rep.obj 51 (Rep.prod (Rep.ro Ro.str) (Rep.prod (Rep.ro (Ro.int .i64)) (Rep.prod (Rep.ro (Ro.int .i64)) (Rep.prod (Rep.ro (Ro.int .i64)) (Rep.ro (Ro.int .i64)))))), [.pointer (some ⟨b48_, 0, none⟩)], d204_⟩ :: ⟨Rep.raw 25, [.pointer (some ⟨r1, 0, none⟩)], [.int .i64 (0 : Int), .int .i64 (0 : Int), .slice none 0 0]⟩ :: F) _ := s234_
            refine s_loadR (b := r3) (j := 0) (x := (d47_.1)) s239_ rfl ?_
            refine s_loadR (b := r3) (j := 1) (x := (d47_.2.1)) s239_ rfl ?_
            refine s_loadR (b := r3) (j := 2) (x := t235_) s239_ rfl ?_
            refine s_loadR (b := r16) (j := 0) (x := t15.1) s239_.at1 rfl ?_
            refine s_loadR (b := r16) (j := 1) (x := t15.2.1) s239_.at1 rfl ?_
            refine s_loadR (b := r16) (j := 2) (x := t15.2.2.1) s239_.at1 rfl ?_
            refine s_new (vs := [.int .i64 (d47_.1), .int .i64 (d47_.2.1), .slice t235_.1 t235_.2.1 t235_.2.2, .int .i64 t15.1, .int .i64 t15.2.1, .slice t15.2.2.1.1 t15.2.2.1.2.1 t15.2.2.1.2.2]) s239_ ?_
            intro r23 h241_ s240_
            refine s_put (b := r3) (j := 0) (v := .int .i64 z9.1) s240_.at1 rfl (show (0 : Nat) < 3 by decide) ?_
            intro h243_ s242_
            refine s_put (b := r3) (j := 1) (v := .int .i64 (0 : Int)) s242_ rfl (show (1 : Nat) < 3 by decide) ?_
            intro h245_ s244_
            refine s_put (b := r3) (j := 2) (v := .slice (some ⟨r23, 0, none⟩) 2 2) s244_ rfl (show (2 : Nat) < 3 by decide) ?_
            intro h247_ s246_
            have s248_ := St.lit (r := exRo) (l := ([(Ex.mk (d47_.1) (d47_.2.1) d47_.2.2), (Ex.mk t15.1 t15.2.1 d201_)] : List Ex)) (n := 2) s246_.at1 (.cons (a := [_, _, _]) (exRo_mk (φ := f198_) (cs := [_, _, _]) ⟨[_], _, rfl, rfl, ⟨[_], _, rfl, rfl, ⟨t235_, rfl, k237_⟩⟩⟩) (.cons (a := [_, _, _]) (exRo_mk (φ := f198_) (cs := [_, _, _]) ⟨[_], _, rfl, rfl, ⟨[_], _, rfl, rfl, ⟨t15.2.2.1, rfl, k203_⟩⟩⟩) .nil)) rfl (by decide)
            obtain ⟨f249_, le250_, k251_, s252_⟩ := St.freezeRow (t := ((some ⟨r23, 0, none⟩, 2, 2) : Slc)) s248_
            have s253_ := St.unro (r := (Ro.list exRo)) (cs := [.slice ((some ⟨r23, 0, none⟩, 2, 2) : Slc).1 ((some ⟨r23, 0, none⟩, 2, 2) : Slc).2.1 ((some ⟨r23, 0, none⟩, 2, 2) : Slc).2.2]) (x := ([(Ex.mk (d47_.1) (d47_.2.1) d47_.2.2), (Ex.mk t15.1 t15.2.1 d201_)] : List Ex)) s252_ ⟨((some ⟨r23, 0, none⟩, 2, 2) : Slc), rfl, k251_⟩
            have s254_ := St.unro (r := (Ro.int .i64)) (cs := [.int .i64 (0 : Int)]) (x := (0 : Int)) s253_ rfl
            have s255_ := St.unpair s254_
            have s256_ := St.unro (r := (Ro.int .i64)) (cs := [.int .i64 z9.1]) (x := z9.1) s255_ rfl
            have s257_ := St.unpair s256_
            have s258_ : St f249_ (⟨Rep.obj 25 (Rep.prod (Rep.ro (Ro.int .i64)) (Rep.prod (Rep.ro (Ro.int .i64)) (Rep.ro (Ro.list exRo)))), [.pointer (some ⟨r3, 0, none⟩)], (z9.1, (0 : Int), ([(Ex.mk (d47_.1) (d47_.2.1) d47_.2.2), (Ex.mk t15.1 t15.2.1 d201_)] : List Ex))⟩ :: ⟨Rep.raw 25, [.pointer (some ⟨r16, 0, none⟩)], [.int .i64 t15.1, .int .i64 t15.2.1, .slice t15.2.2.1.1 t15.2.2.1.2.1 t15.2.2.1.2.2]⟩ :: ⟨Rep.obj 51 (Rep.prod (Rep.ro Ro.str) (Rep.prod (Rep.ro (Ro.int .i64)) (Rep.prod (Rep.ro (Ro.int .i64)) (Rep.prod (Rep.ro (Ro.int .i64)) (Rep.ro (Ro.int .i64)))))), [.pointer (some ⟨b48_, 0, none⟩)], d204_⟩ :: ⟨Rep.raw 25, [.pointer (some ⟨r1, 0, none⟩)], [.int .i64 (0 : Int), .int .i64 (0 : Int), .slice none 0 0]⟩ :: F) _ := St.shut s257_.at1
            have s259_ := s258_.at1.tail
            have s260_ := s259_.at2
            have s261_ := s260_.at1
            have s262_ := s261_.at2
            obtain rfl := Option.some.inj he40_
            exact s_next (()) _ rfl rfl ⟨f249_, d204_, (z9.1, (0 : Int), ([(Ex.mk (d47_.1) (d47_.2.1) d47_.2.2), (Ex.mk t15.1 t15.2.1 d201_)] : List Ex)), ((((le43_.trans le101_).trans le140_).trans le200_).trans le250_), rfl, s262_⟩
      · have s264_ := St.unro (r := (Ro.int .i64)) (cs := [.int .i64 (d46_.2.2.2.2)]) (x := (d46_.2.2.2.2)) s85_ rfl
        have s265_ := St.unro (r := (Ro.int .i64)) (cs := [.int .i64 (d46_.2.2.2.1)]) (x := (d46_.2.2.2.1)) s264_ rfl
        have s266_ := St.unpair s265_
        have s267_ := St.unro (r := (Ro.int .i64)) (cs := [.int .i64 (d46_.2.2.1)]) (x := (d46_.2.2.1)) s266_ rfl
        have s268_ := St.unpair s267_
        have s269_ := St.unro (r := (Ro.int .i64)) (cs := [.int .i64 (d46_.2.1)]) (x := (d46_.2.1)) s268_ rfl
        have s270_ := St.unpair s269_
        have s271_ := St.unro (r := Ro.str) (cs := [.string (d46_.1)]) (x := (d46_.1)) s270_ rfl
        have s272_ := St.unpair s271_
        have s273_ : St f42_ (⟨Rep.obj 51 (Rep.prod (Rep.ro Ro.str) (Rep.prod (Rep.ro (Ro.int .i64)) (Rep.prod (Rep.ro (Ro.int .i64)) (Rep.prod (Rep.ro (Ro.int .i64)) (Rep.ro (Ro.int .i64)))))), [.pointer (some ⟨b48_, 0, none⟩)], ((d46_.1), (d46_.2.1), (d46_.2.2.1), (d46_.2.2.2.1), (d46_.2.2.2.2))⟩ :: ⟨Rep.obj 25 (Rep.prod (Rep.ro (Ro.int .i64)) (Rep.prod (Rep.ro (Ro.int .i64)) (Rep.ro (Ro.list exRo)))), [.pointer (some ⟨r3, 0, none⟩)], d47_⟩ :: ⟨Rep.raw 25, [.pointer (some ⟨r1, 0, none⟩)], [.int .i64 (0 : Int), .int .i64 (0 : Int), .slice none 0 0]⟩ :: F) _ := St.shut s272_.at1
        have s274_ := s273_.at2
        have s275_ := s274_.at2
        have s276_ := s275_.at2
        obtain rfl := Option.some.inj he40_
        obtain rfl := hb41_ _ rfl
        exact around_brk (meetB_brk (()) rfl ⟨f42_, ((d46_.1), (d46_.2.1), (d46_.2.2.1), (d46_.2.2.2.1), (d46_.2.2.2.2)), d47_, le43_, rfl, s276_⟩)
  · rintro z4 h278_ ⟨f279_, d282_, d283_, le280_, rfl, s281_⟩
    try dsimp only at hd
    obtain ⟨b285_, vs286_, e287_, hl288_, s289_⟩ := s281_.at1.open
    obtain rfl : r3 = b285_ := by simpa using e287_
    clear e287_
    have s290_ := s289_.at1
    obtain ⟨v291_, w292_, rfl, hl294_, s293_⟩ := s290_.pair
    obtain ⟨g295_, s296_⟩ := s293_.ro
    subst g295_
    obtain ⟨v298_, w299_, rfl, hl301_, s300_⟩ := s296_.pair
    obtain ⟨g302_, s303_⟩ := s300_.ro
    subst g302_
    obtain ⟨g305_, s306_⟩ := s303_.ro
    obtain ⟨t307_, e308_, k309_⟩ := g305_
    subst e308_
    have n310_ := k309_.length
    have s311_ : St f279_ (⟨Rep.raw 25, [.pointer (some ⟨r3, 0, none⟩)], [.int .i64 (d283_.1), .int .i64 (d283_.2.1), .slice t307_.1 t307_.2.1 t307_.2.2]⟩ :: ⟨Rep.obj 51 (Rep.prod (Rep.ro Ro.str) (Rep.prod (Rep.ro (Ro.int .i64)) (Rep.prod (Rep.ro (Ro.int .i64)) (Rep.prod (Rep.ro (Ro.int .i64)) (Rep.ro (Ro.int .i64)))))), [.pointer r_0], d282_⟩ :: ⟨Rep.raw 25, [.pointer (some ⟨r1, 0, none⟩)], [.int .i64 (0 : Int), .int .i64 (0 : Int), .slice none 0 0]⟩ :: F) _ := s306_
    refine s_loadR (b := r3) (j := 0) (x := (d283_.1)) s311_ rfl ?_
    refine s_loadR (b := r3) (j := 1) (x := (d283_.2.1)) s311_ rfl ?_
    refine s_loadR (b := r3) (j := 2) (x := t307_) s311_ rfl ?_
    refine s_put (b := r1) (j := 0) (v := .int .i64 (d283_.1)) s311_.at2 rfl (show (0 : Nat) < 3 by decide) ?_
    intro h313_ s312_
    refine s_put (b := r1) (j := 1) (v := .int .i64 (d283_.2.1)) s312_ rfl (show (1 : Nat) < 3 by decide) ?_
    intro h315_ s314_
    refine s_put (b := r1) (j := 2) (v := .slice t307_.1 t307_.2.1 t307_.2.2) s314_ rfl (show (2 : Nat) < 3 by decide) ?_
    intro h317_ s316_
    refine s_loadR (b := r1) (j := 0) (x := (d283_.1)) s316_ rfl ?_
    refine s_loadR (b := r1) (j := 1) (x := (d283_.2.1)) s316_ rfl ?_
    refine s_loadR (b := r1) (j := 2) (x := t307_) s316_ rfl ?_
    obtain rfl := Option.some.inj hd
    have s318_ := s316_.tail
    have s319_ := s318_.tail
    exact finOf_back ⟨f279_, ((d283_.1), (d283_.2.1), t307_, ()), d283_.2.2, d282_, (le12_.trans le280_), rfl, rfl, k309_, s319_⟩

noncomputable def tronageref20_Reader_sum_D (rec : (ByteArray × Int × Int × Int × Int) → Option (Int × Int × List Ex × (ByteArray × Int × Int × Int × Int))) (r_0 : (ByteArray × Int × Int × Int × Int)) : Option (Int × Int × List Ex × (ByteArray × Int × Int × Int × Int)) :=
  (tronageref20_Reader_product_D rec r_0).bind fun t2 =>
  (loop (σ := ((ByteArray × Int × Int × Int × Int) × (Int × Int × List Ex))) (β := ((ByteArray × Int × Int × Int × Int) × (Int × Int × List Ex))) (t2.2.2.2, (t2.1, t2.2.1, t2.2.2.1)) fun z5 =>
    cond ((z5.1.2.2.2.1) == (0 : Int))
    ((tronageref20_Reader_now_D ((z5.1.1), (z5.1.2.1), (z5.1.2.2.1), (z5.1.2.2.2.1), (z5.1.2.2.2.2))).bind fun t8 =>
      (cond (t8.1 != (43 : Int))
      (some (t8.1 != (45 : Int)))
      (some false)).bind fun z9 =>
      cond z9
      (some (Step.done (t8.2, z5.2)))
      ((cond (t8.1 == (45 : Int))
        (some (6 : Int))
        (some (5 : Int))).bind fun z10 =>
        (tronageref20_Reader_product_D rec ((t8.2.1), (IntKind.wrap .i64 ((t8.2.2.1) + (1 : Int))), (t8.2.2.2.1), (t8.2.2.2.2.1), (t8.2.2.2.2.2))).bind fun t14 =>
        some (Step.next (t14.2.2.2, (z10, (0 : Int), ([(Ex.mk (z5.2.1) (z5.2.2.1) z5.2.2.2), (Ex.mk t14.1 t14.2.1 t14.2.2.1)] : List Ex))))))
    (some (Step.done (((z5.1.1), (z5.1.2.1), (z5.1.2.2.1), (z5.1.2.2.2.1), (z5.1.2.2.2.2)), z5.2)))).bind fun z4 =>
  some ((z4.2.1), (z4.2.2.1), z4.2.2.2, z4.1)
theorem tronageref20_Reader_sum_sim {rec : (ByteArray × Int × Int × Int × Int) → Option (Int × Int × List Ex × (ByteArray × Int × Int × Int × Int))} (Hrec : tronageref20_Reader_factor_C rec) {φ : Snap} {h : Heap} {F : List Chk} {r_0 : Option Addr} {d_r_0 : (ByteArray × Int × Int × Int × Int)}  (s0 : St φ (⟨Rep.obj 51 (Rep.prod (Rep.ro Ro.str) (Rep.prod (Rep.ro (Ro.int .i64)) (Rep.prod (Rep.ro (Ro.int .i64)) (Rep.prod (Rep.ro (Ro.int .i64)) (Rep.ro (Ro.int .i64)))))), [.pointer r_0], d_r_0⟩ :: F) h) {r : (Int × Int × List Ex × (ByteArray × Int × Int × Int × Int))} (hd : tronageref20_Reader_sum_D rec d_r_0 = some r) :
    CallsH Tryd.prog 29 [(.pointer r_0)] h (Back fun v h' => ∃ ψ : Snap, ∃ y : Int × Int × (Option Addr × Nat × Nat) × Unit, ∃ l1_ : List Ex, ∃ l2_ : (ByteArray × Int × Int × Int × Int), Sub φ ψ ∧ v = ((.one (.agg [(.int .i64), (.int .i64), .slice])) : Sh).val y ∧ (y.1, y.2.1, l1_, l2_) = r ∧ Ro.SliceIs exRo ψ y.2.2.1 l1_ ∧ St ψ (⟨Rep.obj 51 (Rep.prod (Rep.ro Ro.str) (Rep.prod (Rep.ro (Ro.int .i64)) (Rep.prod (Rep.ro (Ro.int .i64)) (Rep.prod (Rep.ro (Ro.int .i64)) (Rep.ro (Ro.int .i64)))))), [.pointer r_0], l2_⟩ :: F) h') := by
  refine calls_of mixed Tryd.func29 ?_
  rw [tronageref20_Reader_sum_den]
  unfold tronageref20_Reader_sum_T
  unfold tronageref20_Reader_sum_D at hd
  try dsimp only [Ex.kind_mk, Ex.n_mk, Ex.kids_mk] at hd
  refine s_new (vs := [.int .i64 (0 : Int), .int .i64 (0 : Int), .slice none 0 0]) s0 ?_
  intro r1 h5_ s4_
  have s6_ := s4_.at1
  obtain ⟨r7_, hr8_, hd⟩ := Option.bind_eq_some_iff.1 hd
  refine s_call (tronageref20_Reader_product_sim Hrec  s6_ hr8_) ?_
  rintro _ h9_ ⟨f10_, t2, d13_, d16_, le12_, rfl, rfl, k15_, s11_⟩
  refine ⟨t2, rfl, ?_⟩
  try dsimp only at hd
  have n14_ := k15_.length
  refine s_new (vs := [.int .i64 (0 : Int), .int .i64 (0 : Int), .slice none 0 0]) s11_ ?_
  intro r3 h18_ s17_
  refine s_put (b := r3) (j := 0) (v := .int .i64 t2.1) s17_ rfl (show (0 : Nat) < 3 by decide) ?_
  intro h20_ s19_
  refine s_put (b := r3) (j := 1) (v := .int .i64 t2.2.1) s19_ rfl (show (1 : Nat) < 3 by decide) ?_
  intro h22_ s21_
  refine s_put (b := r3) (j := 2) (v := .slice t2.2.2.1.1 t2.2.2.1.2.1 t2.2.2.1.2.2) s21_ rfl (show (2 : Nat) < 3 by decide) ?_
  intro h24_ s23_
  have s25_ := St.unro (r := (Ro.list exRo)) (cs := [.slice t2.2.2.1.1 t2.2.2.1.2.1 t2.2.2.1.2.2]) (x := d13_) s23_ ⟨t2.2.2.1, rfl, k15_⟩
  have s26_ := St.unro (r := (Ro.int .i64)) (cs := [.int .i64 t2.2.1]) (x := t2.2.1) s25_ rfl
  have s27_ := St.unpair s26_
  have s28_ := St.unro (r := (Ro.int .i64)) (cs := [.int .i64 t2.1]) (x := t2.1) s27_ rfl
  have s29_ := St.unpair s28_
  have s30_ : St f10_ (⟨Rep.obj 25 (Rep.prod (Rep.ro (Ro.int .i64)) (Rep.prod (Rep.ro (Ro.int .i64)) (Rep.ro (Ro.list exRo)))), [.pointer (some ⟨r3, 0, none⟩)], (t2.1, t2.2.1, d13_)⟩ :: ⟨Rep.obj 51 (Rep.prod (Rep.ro Ro.str) (Rep.prod (Rep.ro (Ro.int .i64)) (Rep.prod (Rep.ro (Ro.int .i64)) (Rep.prod (Rep.ro (Ro.int .i64)) (Rep.ro (Ro.int .i64)))))), [.pointer r_0], d16_⟩ :: ⟨Rep.raw 25, [.pointer (some ⟨r1, 0, none⟩)], [.int .i64 (0 : Int), .int .i64 (0 : Int), .slice none 0 0]⟩ :: F) _ := St.shut s29_.at1
  have s33_ := s30_.at2
  have s34_ := s33_.at1
  have s35_ := s34_.at2
  obtain ⟨g31_, hx32_, hd⟩ := Option.bind_eq_some_iff.1 hd
  refine s_block (fun (y : Unit) w_ g => ∃ ψ : Snap, ∃ l36_ : (ByteArray × Int × Int × Int × Int), ∃ l37_ : (Int × Int × List Ex), Sub f10_ ψ ∧ (l36_, l37_) = g ∧ St ψ (⟨Rep.obj 51 (Rep.prod (Rep.ro Ro.str) (Rep.prod (Rep.ro (Ro.int .i64)) (Rep.prod (Rep.ro (Ro.int .i64)) (Rep.prod (Rep.ro (Ro.int .i64)) (Rep.ro (Ro.int .i64)))))), [.pointer r_0], l36_⟩ :: ⟨Rep.obj 25 (Rep.prod (Rep.ro (Ro.int .i64)) (Rep.prod (Rep.ro (Ro.int .i64)) (Rep.ro (Ro.list exRo)))), [.pointer (some ⟨r3, 0, none⟩)], l37_⟩ :: ⟨Rep.raw 25, [.pointer (some ⟨r1, 0, none⟩)], [.int .i64 (0 : Int), .int .i64 (0 : Int), .slice none 0 0]⟩ :: F) w_) (g := g31_) ?_ ?_
  · refine s_loop hx32_ (fun (y : Unit) w_ g => ∃ ψ : Snap, ∃ l38_ : (ByteArray × Int × Int × Int × Int), ∃ l39_ : (Int × Int × List Ex), Sub f10_ ψ ∧ (l38_, l39_) = g ∧ St ψ (⟨Rep.obj 51 (Rep.prod (Rep.ro Ro.str) (Rep.prod (Rep.ro (Ro.int .i64)) (Rep.prod (Rep.ro (Ro.int .i64)) (Rep.prod (Rep.ro (Ro.int .i64)) (Rep.ro (Ro.int .i64)))))), [.pointer r_0], l38_⟩ :: ⟨Rep.obj 25 (Rep.prod (Rep.ro (Ro.int .i64)) (Rep.prod (Rep.ro (Ro.int .i64)) (Rep.ro (Ro.list exRo)))), [.pointer (some ⟨r3, 0, none⟩)], l39_⟩ :: ⟨Rep.raw 25, [.pointer (some ⟨r1, 0, none⟩)], [.int .i64 (0 : Int), .int .i64 (0 : Int), .slice none 0 0]⟩ :: F) w_) (()) rfl ⟨f10_, d16_, (t2.1, t2.2.1, d13_), (Sub.refl _), rfl, s35_⟩ ?_
    · rintro z5 h45_ _ _ ⟨f42_, d46_, d47_, le43_, rfl, s44_⟩ he40_ hb41_
      try dsimp only at he40_
      obtain ⟨b48_, vs49_, e50_, hl51_, s52_⟩ := s44_.open
      obtain rfl : r_0 = some ⟨b48_, 0, none⟩ := by simpa using e50_
      clear e50_
      have s53_ := s52_.at1
      obtain ⟨v54_, w55_, rfl, hl57_, s56_⟩ := s53_.pair
      obtain ⟨g58_, s59_⟩ := s56_.ro
      subst g58_
      obtain ⟨v61_, w62_, rfl, hl64_, s63_⟩ := s59_.pair
      obtain ⟨g65_, s66_⟩ := s63_.ro
      subst g65_
      obtain ⟨v68_, w69_, rfl, hl71_, s70_⟩ := s66_.pair
      obtain ⟨g72_, s73_⟩ := s70_.ro
      subst g72_
      obtain ⟨v75_, w76_, rfl, hl78_, s77_⟩ := s73_.pair
      obtain ⟨g79_, s80_⟩ := s77_.ro
      subst g79_
      obtain ⟨g82_, s83_⟩ := s80_.ro
      subst g82_
      have s85_ : St f42_ (⟨Rep.raw 51, [.pointer (some ⟨b48_, 0, none⟩)], [.string (d46_.1), .int .i64 (d46_.2.1), .int .i64 (d46_.2.2.1), .int .i64 (d46_.2.2.2.1), .int .i64 (d46_.2.2.2.2)]⟩ :: ⟨Rep.obj 25 (Rep.prod (Rep.ro (Ro.int .i64)) (Rep.prod (Rep.ro (Ro.int .i64)) (Rep.ro (Ro.list exRo)))), [.pointer (some ⟨r3, 0, none⟩)], d47_⟩ :: ⟨Rep.raw 25, [.pointer (some ⟨r1, 0, none⟩)], [.int .i64 (0 : Int), .int .i64 (0 : Int), .slice none 0 0]⟩ :: F) _ := s83_
      refine t_deref _ rfl ?_
      refine s_loadR (b := b48_) (j := 3) (x := (d46_.2.2.2.1)) s85_ rfl ?_
      refine s_cond he40_ rfl (fun hb264_ he40_ => ?_) (fun hb264_ he40_ => ?_)
      · have s86_ := St.unro (r := (Ro.int .i64)) (cs := [.int .i64 (d46_.2.2.2.2)]) (x := (d46_.2.2.2.2)) s85_ rfl
        have s87_ := St.unro (r := (Ro.int .i64)) (cs := [.int .i64 (d46_.2.2.2.1)]) (x := (d46_.2.2.2.1)) s86_ rfl
        have s88_ := St.unpair s87_
        have s89_ := St.unro (r := (Ro.int .i64)) (cs := [.int .i64 (d46_.2.2.1)]) (x := (d46_.2.2.1)) s88_ rfl
        have s90_ := St.unpair s89_
        have s91_ := St.unro (r := (Ro.int .i64)) (cs := [.int .i64 (d46_.2.1)]) (x := (d46_.2.1)) s90_ rfl
        have s92_ := St.unpair s91_
        have s93_ := St.unro (r := Ro.str) (cs := [.string (d46_.1)]) (x := (d46_.1)) s92_ rfl
        have s94_ := St.unpair s93_
        have s95_ : St f42_ (⟨Rep.obj 51 (Rep.prod (Rep.ro Ro.str) (Rep.prod (Rep.ro (Ro.int .i64)) (Rep.prod (Rep.ro (Ro.int .i64)) (Rep.prod (Rep.ro (Ro.int .i64)) (Rep.ro (Ro.int .i64)))))), [.pointer (some ⟨b48_, 0, none⟩)], ((d46_.1), (d46_.2.1), (d46_.2.2.1), (d46_.2.2.2.1), (d46_.2.2.2.2))⟩ :: ⟨Rep.obj 25 (Rep.prod (Rep.ro (Ro.int .i64)) (Rep.prod (Rep.ro (Ro.int .i64)) (Rep.ro (Ro.list exRo)))), [.pointer (some ⟨r3, 0, none⟩)], d47_⟩ :: ⟨Rep.raw 25, [.pointer (some ⟨r1, 0, none⟩)], [.int .i64 (0 : Int), .int .i64 (0 : Int), .slice none 0 0]⟩ :: F) _ := St.shut s94_.at1
        obtain ⟨r96_, hr97_, he40_⟩ := Option.bind_eq_some_iff.1 he40_
        refine s_call (tronageref20_Reader_now_sim  s95_ hr97_) ?_
        rintro _ h98_ ⟨f99_, t8, d102_, le101_, rfl, rfl, s100_⟩
        refine ⟨t8, rfl, ?_⟩
        try dsimp only at he40_
        obtain ⟨g103_, hx104_, he40_⟩ := Option.bind_eq_some_iff.1 he40_
        refine s_join (fun (y : Bool × Unit) w_ g => ∃ ψ : Snap, Sub f99_ ψ ∧ y.1 = g ∧ St ψ (⟨Rep.obj 51 (Rep.prod (Rep.ro Ro.str) (Rep.prod (Rep.ro (Ro.int .i64)) (Rep.prod (Rep.ro (Ro.int .i64)) (Rep.prod (Rep.ro (Ro.int .i64)) (Rep.ro (Ro.int .i64)))))), [.pointer (some ⟨b48_, 0, none⟩)], d102_⟩ :: ⟨Rep.obj 25 (Rep.prod (Rep.ro (Ro.int .i64)) (Rep.prod (Rep.ro (Ro.int .i64)) (Rep.ro (Ro.list exRo)))), [.pointer (some ⟨r3, 0, none⟩)], d47_⟩ :: ⟨Rep.raw 25, [.pointer (some ⟨r1, 0, none⟩)], [.int .i64 (0 : Int), .int .i64 (0 : Int), .slice none 0 0]⟩ :: F) w_) (g := g103_) ?_ ?_
        · refine s_cond hx104_ rfl (fun hb111_ hx104_ => ?_) (fun hb111_ hx104_ => ?_)
          · have s105_ := s100_.at2
            have s106_ := s105_.at2
            have s107_ := s106_.at2
            obtain rfl := Option.some.inj hx104_
            exact s_out ((t8 != (45 : Int)), ()) rfl ⟨f99_, (Sub.refl _), rfl, s107_⟩
          · have s108_ := s100_.at2
            have s109_ := s108_.at2
            have s110_ := s109_.at2
            obtain rfl := Option.some.inj hx104_
            exact s_out (false, ()) rfl ⟨f99_, (Sub.refl _), rfl, s110_⟩
        · rintro z9 h112_ ⟨f113_, le114_, rfl, s115_⟩
          try dsimp only at he40_
          refine s_cond he40_ rfl (fun hb250_ he40_ => ?_) (fun hb250_ he40_ => ?_)
          · have s116_ := s115_.at2
            have s117_ := s116_.at2
            have s118_ := s117_.at2
            obtain rfl := Option.some.inj he40_
            obtain rfl := hb41_ _ rfl
            exact around_brk (meetB_brk (()) rfl ⟨f113_, d102_, d47_, ((le43_.trans le101_).trans le114_), rfl, s118_⟩)
          · obtain ⟨g119_, hx120_, he40_⟩ := Option.bind_eq_some_iff.1 he40_
            refine s_join (fun (y : Int × Unit) w_ g => ∃ ψ : Snap, Sub f113_ ψ ∧ y.1 = g ∧ St ψ (⟨Rep.obj 51 (Rep.prod (Rep.ro Ro.str) (Rep.prod (Rep.ro (Ro.int .i64)) (Rep.prod (Rep.ro (Ro.int .i64)) (Rep.prod (Rep.ro (Ro.int .i64)) (Rep.ro (Ro.int .i64)))))), [.pointer (some ⟨b48_, 0, none⟩)], d102_⟩ :: ⟨Rep.obj 25 (Rep.prod (Rep.ro (Ro.int .i64)) (Rep.prod (Rep.ro (Ro.int .i64)) (Rep.ro (Ro.list exRo)))), [.pointer (some ⟨r3, 0, none⟩)], d47_⟩ :: ⟨Rep.raw 25, [.pointer (some ⟨r1, 0, none⟩)], [.int .i64 (0 : Int), .int .i64 (0 : Int), .slice none 0 0]⟩ :: F) w_) (g := g119_) ?_ ?_
            · refine s_cond hx120_ rfl (fun hb127_ hx120_ => ?_) (fun hb127_ hx120_ => ?_)
              · have s121_ := s115_.at2
                have s122_ := s121_.at2
                have s123_ := s122_.at2
                obtain rfl := Option.some.inj hx120_
                exact s_out ((6 : Int), ()) rfl ⟨f113_, (Sub.refl _), rfl, s123_⟩
              · have s124_ := s115_.at2
                have s125_ := s124_.at2
                have s126_ := s125_.at2
                obtain rfl := Option.some.inj hx120_
                exact s_out ((5 : Int), ()) rfl ⟨f113_, (Sub.refl _), rfl, s126_⟩
            · rintro z10 h128_ ⟨f129_, le130_, rfl, s131_⟩
              try dsimp only at he40_
              obtain ⟨b132_, vs133_, e134_, hl135_, s136_⟩ := s131_.open
              obtain rfl : b48_ = b132_ := by simpa using e134_
              clear e134_
              have s137_ := s136_.at1
              obtain ⟨v138_, w139_, rfl, hl141_, s140_⟩ := s137_.pair
              obtain ⟨g142_, s143_⟩ := s140_.ro
              subst g142_
              obtain ⟨v145_, w146_, rfl, hl148_, s147_⟩ := s143_.pair
              obtain ⟨g149_, s150_⟩ := s147_.ro
              subst g149_
              obtain ⟨v152_, w153_, rfl, hl155_, s154_⟩ := s150_.pair
              obtain ⟨g156_, s157_⟩ := s154_.ro
              subst g156_
              obtain ⟨v159_, w160_, rfl, hl162_, s161_⟩ := s157_.pair
              obtain ⟨g163_, s164_⟩ := s161_.ro
              subst g163_
              obtain ⟨g166_, s167_⟩ := s164_.ro
              subst g166_
              have s169_ : St f129_ (⟨Rep.raw 51, [.pointer (some ⟨b48_, 0, none⟩)], [.string (d102_.1), .int .i64 (d102_.2.1), .int .i64 (d102_.2.2.1), .int .i64 (d102_.2.2.2.1), .int .i64 (d102_.2.2.2.2)]⟩ :: ⟨Rep.obj 25 (Rep.prod (Rep.ro (Ro.int .i64)) (Rep.prod (Rep.ro (Ro.int .i64)) (Rep.ro (Ro.list exRo)))), [.pointer (some ⟨r3, 0, none⟩)], d47_⟩ :: ⟨Rep.raw 25, [.pointer (some ⟨r1, 0, none⟩)], [.int .i64 (0 : Int), .int .i64 (0 : Int), .slice none 0 0]⟩ :: F) _ := s167_
              refine t_deref _ rfl ?_
              refine s_loadR (b := b48_) (j := 1) (x := (d102_.2.1)) s169_ rfl ?_
              refine t_deref _ rfl ?_
              refine s_put (b := b48_) (j := 1) (v := .int .i64 (IntKind.wrap .i64 ((d102_.2.1) + (1 : Int)))) s169_ rfl (show (1 : Nat) < 5 by decide) ?_
              intro h171_ s170_
              have s172_ := St.unro (r := (Ro.int .i64)) (cs := [.int .i64 (d102_.2.2.2.2)]) (x := (d102_.2.2.2.2)) s170_ rfl
              have s173_ := St.unro (r := (Ro.int .i64)) (cs := [.int .i64 (d102_.2.2.2.1)]) (x := (d102_.2.2.2.1)) s172_ rfl
              have s174_ := St.unpair s173_
              have s175_ := St.unro (r := (Ro.int .i64)) (cs := [.int .i64 (d102_.2.2.1)]) (x := (d102_.2.2.1)) s174_ rfl
              have s176_ := St.unpair s175_
              have s177_ := St.unro (r := (Ro.int .i64)) (cs := [.int .i64 (IntKind.wrap .i64 ((d102_.2.1) + (1 : Int)))]) (x := (IntKind.wrap .i64 ((d102_.2.1) + (1 : Int)))) s176_ rfl
              have s178_ := St.unpair s177_
              have s179_ := St.unro (r := Ro.str) (cs := [.string (d102_.1)]) (x := (d102_.1)) s178_ rfl
              have s180_ := St.unpair s179_
              have s181_ : St f129_ (⟨Rep.obj 51 (Rep.prod (Rep.ro Ro.str) (Rep.prod (Rep.ro (Ro.int .i64)) (Rep.prod (Rep.ro (Ro.int .i64)) (Rep.prod (Rep.ro (Ro.int .i64)) (Rep.ro (Ro.int .i64)))))), [.pointer (some ⟨b48_, 0, none⟩)], ((d102_.1), (IntKind.wrap .i64 ((d102_.2.1) + (1 : Int))), (d102_.2.2.1), (d102_.2.2.2.1), (d102_.2.2.2.2))⟩ :: ⟨Rep.obj 25 (Rep.prod (Rep.ro (Ro.int .i64)) (Rep.prod (Rep.ro (Ro.int .i64)) (Rep.ro (Ro.list exRo)))), [.pointer (some ⟨r3, 0, none⟩)], d47_⟩ :: ⟨Rep.raw 25, [.pointer (some ⟨r1, 0, none⟩)], [.int .i64 (0 : Int), .int .i64 (0 : Int), .slice none 0 0]⟩ :: F) _ := St.shut s180_.at1
              obtain ⟨r182_, hr183_, he40_⟩ := Option.bind_eq_some_iff.1 he40_
              refine s_call (tronageref20_Reader_product_sim Hrec  s181_ hr183_) ?_
              rintro _ h184_ ⟨f185_, t14, d188_, d191_, le187_, rfl, rfl, k190_, s186_⟩
              refine ⟨t14, rfl, ?_⟩
              try dsimp only at he40_
              have n189_ := k190_.length
              refine s_new (vs := [.int .i64 (0 : Int), .int .i64 (0 : Int), .slice none 0 0]) s186_ ?_
              intro r15 h193_ s192_
              refine s_put (b := r15) (j := 0) (v := .int .i64 t14.1) s192_ rfl (show (0 : Nat) < 3 by decide) ?_
              intro h195_ s194_
              refine s_put (b := r15) (j := 1) (v := .int .i64 t14.2.1) s194_ rfl (show (1 : Nat) < 3 by decide) ?_
              intro h197_ s196_
              refine s_put (b := r15) (j := 2) (v := .slice t14.2.2.1.1 t14.2.2.1.2.1 t14.2.2.1.2.2) s196_ rfl (show (2 : Nat) < 3 by decide) ?_
              intro h199_ s198_
              obtain ⟨b200_, vs201_, e202_, hl203_, s204_⟩ := s198_.at2.open
              obtain rfl : r3 = b200_ := by simpa using e202_
              clear e202_
              have s205_ := s204_.at1
              obtain ⟨v206_, w207_, rfl, hl209_, s208_⟩ := s205_.pair
              obtain ⟨g210_, s211_⟩ := s208_.ro
              subst g210_
              obtain ⟨v213_, w214_, rfl, hl216_, s215_⟩ := s211_.pair
              obtain ⟨g217_, s218_⟩ := s215_.ro
              subst g217_
              obtain ⟨g220_, s221_⟩ := s218_.ro
              obtain ⟨t222_, e223_, k224_⟩ := g220_
              subst e223_
              have n225_ := k224_.length
              have s226_ : St f185_ (⟨Rep.raw 25, [.pointer (some ⟨r3, 0, none⟩)], [.int .i64 (d47_.1), .int .i64 (d47_.2.1), .slice t222_.1 t222_.2.1 t222_.2.2]⟩ :: ⟨Rep.raw 25, [.pointer (some ⟨r15, 0, none⟩)], [.int .i64 t14.1, .int .i64 t14.2.1, .slice t14.2.2.1.1 t14.2.2.1.2.1 t14.2.2.1.2.2]⟩ :: ⟨Rep.obj 51 (Rep.prod (Rep.ro Ro.str) (Rep.prod (Rep.ro (Ro.int .i64)) (Rep.prod (Rep.ro (Ro.int .i64)) (Rep.prod (Rep.ro (Ro.int .i64)) (Rep.ro (Ro.int .i64)))))), [.pointer (some ⟨b48_, 0, none⟩)], d191_⟩ :: ⟨Rep.raw 25, [.pointer (some ⟨r1, 0, none⟩)], [.int .i64 (0 : Int), .int .i64 (0 : Int), .slice none 0 0]⟩ :: F) _ := s221_
              refine s_loadR (b := r3) (j := 0) (x := (d47_.1)) s226_ rfl ?_
              refine s_loadR (b := r3) (j := 1) (x := (d47_.2.1)) s226_ rfl ?_
              refine s_loadR (b := r3) (j := 2) (x := t222_) s226_ rfl ?_
              refine s_loadR (b := r15) (j := 0) (x := t14.1) s226_.at1 rfl ?_
              refine s_loadR (b := r15) (j := 1) (x := t14.2.1) s226_.at1 rfl ?_
              refine s_loadR (b := r15) (j := 2) (x := t14.2.2.1) s226_.at1 rfl ?_
              refine s_new (vs := [.int .i64 (d47_.1), .int .i64 (d47_.2.1), .slice t222_.1 t222_.2.1 t222_.2.2, .int .i64 t14.1, .int .i64 t14.2.1, .slice t14.2.2.1.1 t14.2.2.1.2.1 t14.2.2.1.2.2]) s226_ ?_
              intro r22 h228_ s227_
              refine s_put (b := r3) (j := 0) (v := .int .i64 z10.1) s227_.at1 rfl (show (0 : Nat) < 3 by decide) ?_
              intro h230_ s229_
              refine s_put (b := r3) (j := 1) (v := .int .i64 (0 : Int)) s229_ rfl (show (1 : Nat) < 3 by decide) ?_
              intro h232_ s231_
              refine s_put (b := r3) (j := 2) (v := .slice (some ⟨r22, 0, none⟩) 2 2) s231_ rfl (show (2 : Nat) < 3 by decide) ?_
              intro h234_ s233_
              have s235_ := St.lit (r := exRo) (l := ([(Ex.mk (d47_.1) (d47_.2.1) d47_.2.2), (Ex.mk t14.1 t14.2.1 d188_)] : List Ex)) (n := 2) s233_.at1 (.cons (a := [_, _, _]) (exRo_mk (φ := f185_) (cs := [_, _, _]) ⟨[_], _, rfl, rfl, ⟨[_], _, rfl, rfl, ⟨t222_, rfl, k224_⟩⟩⟩) (.cons (a := [_, _, _]) (exRo_mk (φ := f185_) (cs := [_, _, _]) ⟨[_], _, rfl, rfl, ⟨[_], _, rfl, rfl, ⟨t14.2.2.1, rfl, k190_⟩⟩⟩) .nil)) rfl (by decide)
              obtain ⟨f236_, le237_, k238_, s239_⟩ := St.freezeRow (t := ((some ⟨r22, 0, none⟩, 2, 2) : Slc)) s235_
              have s240_ := St.unro (r := (Ro.list exRo)) (cs := [.slice ((some ⟨r22, 0, none⟩, 2, 2) : Slc).1 ((some ⟨r22, 0, none⟩, 2, 2) : Slc).2.1 ((some ⟨r22, 0, none⟩, 2, 2) : Slc).2.2]) (x := ([(Ex.mk (d47_.1) (d47_.2.1) d47_.2.2), (Ex.mk t14.1 t14.2.1 d188_)] : List Ex)) s239_ ⟨((some ⟨r22, 0, none⟩, 2, 2) : Slc), rfl, k238_⟩
              have s241_ := St.unro (r := (Ro.int .i64)) (cs := [.int .i64 (0 : Int)]) (x := (0 : Int)) s240_ rfl
              have s242_ := St.unpair s241_
              have s243_ := St.unro (r := (Ro.int .i64)) (cs := [.int .i64 z10.1]) (x := z10.1) s242_ rfl
              have s244_ := St.unpair s243_
              have s245_ : St f236_ (⟨Rep.obj 25 (Rep.prod (Rep.ro (Ro.int .i64)) (Rep.prod (Rep.ro (Ro.int .i64)) (Rep.ro (Ro.list exRo)))), [.pointer (some ⟨r3, 0, none⟩)], (z10.1, (0 : Int), ([(Ex.mk (d47_.1) (d47_.2.1) d47_.2.2), (Ex.mk t14.1 t14.2.1 d188_)] : List Ex))⟩ :: ⟨Rep.raw 25, [.pointer (some ⟨r15, 0, none⟩)], [.int .i64 t14.1, .int .i64 t14.2.1, .slice t14.2.2.1.1 t14.2.2.1.2.1 t14.2.2.1.2.2]⟩ :: ⟨Rep.obj 51 (Rep.prod (Rep.ro Ro.str) (Rep.prod (Rep.ro (Ro.int .i64)) (Rep.prod (Rep.ro (Ro.int .i64)) (Rep.prod (Rep.ro (Ro.int .i64)) (Rep.ro (Ro.int .i64)))))), [.pointer (some ⟨b48_, 0, none⟩)], d191_⟩ :: ⟨Rep.raw 25, [.pointer (some ⟨r1, 0, none⟩)], [.int .i64 (0 : Int), .int .i64 (0 : Int), .slice none 0 0]⟩ :: F) _ := St.shut s244_.at1
              have s246_ := s245_.at1.tail
              have s247_ := s246_.at2
              have s248_ := s247_.at1
              have s249_ := s248_.at2
              obtain rfl := Option.some.inj he40_
              exact s_next (()) _ rfl rfl ⟨f236_, d191_, (z10.1, (0 : Int), ([(Ex.mk (d47_.1) (d47_.2.1) d47_.2.2), (Ex.mk t14.1 t14.2.1 d188_)] : List Ex)), (((((le43_.trans le101_).trans le114_).trans le130_).trans le187_).trans le237_), rfl, s249_⟩
      · have s251_ := St.unro (r := (Ro.int .i64)) (cs := [.int .i64 (d46_.2.2.2.2)]) (x := (d46_.2.2.2.2)) s85_ rfl
        have s252_ := St.unro (r := (Ro.int .i64)) (cs := [.int .i64 (d46_.2.2.2.1)]) (x := (d46_.2.2.2.1)) s251_ rfl
        have s253_ := St.unpair s252_
        have s254_ := St.unro (r := (Ro.int .i64)) (cs := [.int .i64 (d46_.2.2.1)]) (x := (d46_.2.2.1)) s253_ rfl
        have s255_ := St.unpair s254_
        have s256_ := St.unro (r := (Ro.int .i64)) (cs := [.int .i64 (d46_.2.1)]) (x := (d46_.2.1)) s255_ rfl
        have s257_ := St.unpair s256_
        have s258_ := St.unro (r := Ro.str) (cs := [.string (d46_.1)]) (x := (d46_.1)) s257_ rfl
        have s259_ := St.unpair s258_
        have s260_ : St f42_ (⟨Rep.obj 51 (Rep.prod (Rep.ro Ro.str) (Rep.prod (Rep.ro (Ro.int .i64)) (Rep.prod (Rep.ro (Ro.int .i64)) (Rep.prod (Rep.ro (Ro.int .i64)) (Rep.ro (Ro.int .i64)))))), [.pointer (some ⟨b48_, 0, none⟩)], ((d46_.1), (d46_.2.1), (d46_.2.2.1), (d46_.2.2.2.1), (d46_.2.2.2.2))⟩ :: ⟨Rep.obj 25 (Rep.prod (Rep.ro (Ro.int .i64)) (Rep.prod (Rep.ro (Ro.int .i64)) (Rep.ro (Ro.list exRo)))), [.pointer (some ⟨r3, 0, none⟩)], d47_⟩ :: ⟨Rep.raw 25, [.pointer (some ⟨r1, 0, none⟩)], [.int .i64 (0 : Int), .int .i64 (0 : Int), .slice none 0 0]⟩ :: F) _ := St.shut s259_.at1
        have s261_ := s260_.at2
        have s262_ := s261_.at2
        have s263_ := s262_.at2
        obtain rfl := Option.some.inj he40_
        obtain rfl := hb41_ _ rfl
        exact around_brk (meetB_brk (()) rfl ⟨f42_, ((d46_.1), (d46_.2.1), (d46_.2.2.1), (d46_.2.2.2.1), (d46_.2.2.2.2)), d47_, le43_, rfl, s263_⟩)
  · rintro z4 h265_ ⟨f266_, d269_, d270_, le267_, rfl, s268_⟩
    try dsimp only at hd
    obtain ⟨b272_, vs273_, e274_, hl275_, s276_⟩ := s268_.at1.open
    obtain rfl : r3 = b272_ := by simpa using e274_
    clear e274_
    have s277_ := s276_.at1
    obtain ⟨v278_, w279_, rfl, hl281_, s280_⟩ := s277_.pair
    obtain ⟨g282_, s283_⟩ := s280_.ro
    subst g282_
    obtain ⟨v285_, w286_, rfl, hl288_, s287_⟩ := s283_.pair
    obtain ⟨g289_, s290_⟩ := s287_.ro
    subst g289_
    obtain ⟨g292_, s293_⟩ := s290_.ro
    obtain ⟨t294_, e295_, k296_⟩ := g292_
    subst e295_
    have n297_ := k296_.length
    have s298_ : St f266_ (⟨Rep.raw 25, [.pointer (some ⟨r3, 0, none⟩)], [.int .i64 (d270_.1), .int .i64 (d270_.2.1), .slice t294_.1 t294_.2.1 t294_.2.2]⟩ :: ⟨Rep.obj 51 (Rep.prod (Rep.ro Ro.str) (Rep.prod (Rep.ro (Ro.int .i64)) (Rep.prod (Rep.ro (Ro.int .i64)) (Rep.prod (Rep.ro (Ro.int .i64)) (Rep.ro (Ro.int .i64)))))), [.pointer r_0], d269_⟩ :: ⟨Rep.raw 25, [.pointer (some ⟨r1, 0, none⟩)], [.int .i64 (0 : Int), .int .i64 (0 : Int), .slice none 0 0]⟩ :: F) _ := s293_
    refine s_loadR (b := r3) (j := 0) (x := (d270_.1)) s298_ rfl ?_
    refine s_loadR (b := r3) (j := 1) (x := (d270_.2.1)) s298_ rfl ?_
    refine s_loadR (b := r3) (j := 2) (x := t294_) s298_ rfl ?_
    refine s_put (b := r1) (j := 0) (v := .int .i64 (d270_.1)) s298_.at2 rfl (show (0 : Nat) < 3 by decide) ?_
    intro h300_ s299_
    refine s_put (b := r1) (j := 1) (v := .int .i64 (d270_.2.1)) s299_ rfl (show (1 : Nat) < 3 by decide) ?_
    intro h302_ s301_
    refine s_put (b := r1) (j := 2) (v := .slice t294_.1 t294_.2.1 t294_.2.2) s301_ rfl (show (2 : Nat) < 3 by decide) ?_
    intro h304_ s303_
    refine s_loadR (b := r1) (j := 0) (x := (d270_.1)) s303_ rfl ?_
    refine s_loadR (b := r1) (j := 1) (x := (d270_.2.1)) s303_ rfl ?_
    refine s_loadR (b := r1) (j := 2) (x := t294_) s303_ rfl ?_
    obtain rfl := Option.some.inj hd
    have s305_ := s303_.tail
    have s306_ := s305_.tail
    exact finOf_back ⟨f266_, ((d270_.1), (d270_.2.1), t294_, ()), d270_.2.2, d269_, (le12_.trans le267_), rfl, rfl, k296_, s306_⟩

noncomputable def tronageref20_Reader_factor_B (rec : (ByteArray × Int × Int × Int × Int) → Option (Int × Int × List Ex × (ByteArray × Int × Int × Int × Int))) (r_0 : (ByteArray × Int × Int × Int × Int)) : Option (Int × Int × List Ex × (ByteArray × Int × Int × Int × Int)) :=
  (tronageref20_Reader_now_D r_0).bind fun t2 =>
  (cond (t2.1 == (45 : Int))
  (some true)
  (cond (t2.1 == (40 : Int))
    (some true)
    (cond (t2.1 == (36 : Int))
      (some true)
      (cond (t2.1 == (64 : Int))
        (some true)
        (cond (decide (t2.1 ≥ (48 : Int)))
          (some (decide (t2.1 ≤ (57 : Int))))
          (some false)))))).bind fun z3 =>
  (cond ((t2.2.2.2.2.1) != (0 : Int))
  (some true)
  (some (!z3))).bind fun z4 =>
  cond z4
  ((tronageref20_Reader_fail_D t2.2 (30 : Int)).bind fun t7 =>
    some ((0 : Int), (0 : Int), ([] : List Ex), t7))
  (cond ((t2.2.2.2.1) == (20 : Int))
    ((tronageref20_Reader_fail_D ((t2.2.1), (t2.2.2.1), (t2.2.2.2.1), (t2.2.2.2.2.1), (t2.2.2.2.2.2)) (13 : Int)).bind fun t13 =>
      some ((0 : Int), (0 : Int), ([] : List Ex), t13))
    ((cond (t2.1 == (45 : Int))
      ((rec ((((t2.2.1), (t2.2.2.1), (IntKind.wrap .i64 ((t2.2.2.2.1) + (1 : Int))), (t2.2.2.2.2.1), (t2.2.2.2.2.2)).1), (IntKind.wrap .i64 ((((t2.2.1), (t2.2.2.1), (IntKind.wrap .i64 ((t2.2.2.2.1) + (1 : Int))), (t2.2.2.2.2.1), (t2.2.2.2.2.2)).2.1) + (1 : Int))), (((t2.2.1), (t2.2.2.1), (IntKind.wrap .i64 ((t2.2.2.2.1) + (1 : Int))), (t2.2.2.2.2.1), (t2.2.2.2.2.2)).2.2.1), (((t2.2.1), (t2.2.2.1), (IntKind.wrap .i64 ((t2.2.2.2.1) + (1 : Int))), (t2.2.2.2.2.1), (t2.2.2.2.2.2)).2.2.2.1), (((t2.2.1), (t2.2.2.1), (IntKind.wrap .i64 ((t2.2.2.2.1) + (1 : Int))), (t2.2.2.2.2.1), (t2.2.2.2.2.2)).2.2.2.2))).bind fun t25 =>
        some (t25.2.2.2, ((4 : Int), (0 : Int), ([(Ex.mk t25.1 t25.2.1 t25.2.2.1)] : List Ex))))
      ((cond (t2.1 == (40 : Int))
        ((tronageref20_Reader_sum_D rec ((((t2.2.1), (t2.2.2.1), (IntKind.wrap .i64 ((t2.2.2.2.1) + (1 : Int))), (t2.2.2.2.2.1), (t2.2.2.2.2.2)).1), (IntKind.wrap .i64 ((((t2.2.1), (t2.2.2.1), (IntKind.wrap .i64 ((t2.2.2.2.1) + (1 : Int))), (t2.2.2.2.2.1), (t2.2.2.2.2.2)).2.1) + (1 : Int))), (((t2.2.1), (t2.2.2.1), (IntKind.wrap .i64 ((t2.2.2.2.1) + (1 : Int))), (t2.2.2.2.2.1), (t2.2.2.2.2.2)).2.2.1), (((t2.2.1), (t2.2.2.1), (IntKind.wrap .i64 ((t2.2.2.2.1) + (1 : Int))), (t2.2.2.2.2.1), (t2.2.2.2.2.2)).2.2.2.1), (((t2.2.1), (t2.2.2.1), (IntKind.wrap .i64 ((t2.2.2.2.1) + (1 : Int))), (t2.2.2.2.2.1), (t2.2.2.2.2.2)).2.2.2.2))).bind fun t35 =>
          (tronageref20_Reader_now_D t35.2.2.2).bind fun t36 =>
          (cond (t36.1 != (41 : Int))
          ((tronageref20_Reader_fail_D t36.2 (30 : Int)).bind fun t38 =>
            some t38)
          (some t36.2)).bind fun z37 =>
          some (((z37.1), (IntKind.wrap .i64 ((z37.2.1) + (1 : Int))), (z37.2.2.1), (z37.2.2.2.1), (z37.2.2.2.2)), (t35.1, t35.2.1, t35.2.2.1)))
        ((cond (t2.1 == (36 : Int))
          ((tronageref20_Reader_number_D ((((t2.2.1), (t2.2.2.1), (IntKind.wrap .i64 ((t2.2.2.2.1) + (1 : Int))), (t2.2.2.2.2.1), (t2.2.2.2.2.2)).1), (IntKind.wrap .i64 ((((t2.2.1), (t2.2.2.1), (IntKind.wrap .i64 ((t2.2.2.2.1) + (1 : Int))), (t2.2.2.2.2.1), (t2.2.2.2.2.2)).2.1) + (1 : Int))), (((t2.2.1), (t2.2.2.1), (IntKind.wrap .i64 ((t2.2.2.2.1) + (1 : Int))), (t2.2.2.2.2.1), (t2.2.2.2.2.2)).2.2.1), (((t2.2.1), (t2.2.2.1), (IntKind.wrap .i64 ((t2.2.2.2.1) + (1 : Int))), (t2.2.2.2.2.1), (t2.2.2.2.2.2)).2.2.2.1), (((t2.2.1), (t2.2.2.1), (IntKind.wrap .i64 ((t2.2.2.2.1) + (1 : Int))), (t2.2.2.2.2.1), (t2.2.2.2.2.2)).2.2.2.2))).bind fun t46 =>
            some (t46.2, ((2 : Int), t46.1, ([] : List Ex))))
          ((cond (t2.1 == (64 : Int))
            ((tronageref20_Reader_number_D ((((t2.2.1), (t2.2.2.1), (IntKind.wrap .i64 ((t2.2.2.2.1) + (1 : Int))), (t2.2.2.2.2.1), (t2.2.2.2.2.2)).1), (IntKind.wrap .i64 ((((t2.2.1), (t2.2.2.1), (IntKind.wrap .i64 ((t2.2.2.2.1) + (1 : Int))), (t2.2.2.2.2.1), (t2.2.2.2.2.2)).2.1) + (1 : Int))), (((t2.2.1), (t2.2.2.1), (IntKind.wrap .i64 ((t2.2.2.2.1) + (1 : Int))), (t2.2.2.2.2.1), (t2.2.2.2.2.2)).2.2.1), (((t2.2.1), (t2.2.2.1), (IntKind.wrap .i64 ((t2.2.2.2.1) + (1 : Int))), (t2.2.2.2.2.1), (t2.2.2.2.2.2)).2.2.2.1), (((t2.2.1), (t2.2.2.1), (IntKind.wrap .i64 ((t2.2.2.2.1) + (1 : Int))), (t2.2.2.2.2.1), (t2.2.2.2.2.2)).2.2.2.2))).bind fun t51 =>
              some (t51.2, ((3 : Int), t51.1, ([] : List Ex))))
            ((tronageref20_Reader_number_D ((t2.2.1), (t2.2.2.1), (IntKind.wrap .i64 ((t2.2.2.2.1) + (1 : Int))), (t2.2.2.2.2.1), (t2.2.2.2.2.2))).bind fun t52 =>
              some (t52.2, ((((1 : Int), (0 : Int), ([] : List Ex)).1), t52.1, ((1 : Int), (0 : Int), ([] : List Ex)).2.2)))).bind fun z47 =>
            some (z47.1, z47.2))).bind fun z42 =>
          some (z42.1, z42.2))).bind fun z31 =>
        some (z31.1, z31.2))).bind fun z21 =>
      some ((z21.2.1), (z21.2.2.1), z21.2.2.2, ((z21.1.1), (z21.1.2.1), (IntKind.wrap .i64 ((z21.1.2.2.1) - (1 : Int))), (z21.1.2.2.2.1), (z21.1.2.2.2.2)))))
theorem tronageref20_Reader_factor_step {rec : (ByteArray × Int × Int × Int × Int) → Option (Int × Int × List Ex × (ByteArray × Int × Int × Int × Int))} (Hrec : tronageref20_Reader_factor_C rec) {φ : Snap} {h : Heap} {F : List Chk} {r_0 : Option Addr} {d_r_0 : (ByteArray × Int × Int × Int × Int)}  (s0 : St φ (⟨Rep.obj 51 (Rep.prod (Rep.ro Ro.str) (Rep.prod (Rep.ro (Ro.int .i64)) (Rep.prod (Rep.ro (Ro.int .i64)) (Rep.prod (Rep.ro (Ro.int .i64)) (Rep.ro (Ro.int .i64)))))), [.pointer r_0], d_r_0⟩ :: F) h) {r : (Int × Int × List Ex × (ByteArray × Int × Int × Int × Int))} (hd : tronageref20_Reader_factor_B rec d_r_0 = some r) :
    CallsH Tryd.prog 47 [(.pointer r_0)] h (Back fun v h' => ∃ ψ : Snap, ∃ y : Int × Int × (Option Addr × Nat × Nat) × Unit, ∃ l1_ : List Ex, ∃ l2_ : (ByteArray × Int × Int × Int × Int), Sub φ ψ ∧ v = ((.one (.agg [(.int .i64), (.int .i64), .slice])) : Sh).val y ∧ (y.1, y.2.1, l1_, l2_) = r ∧ Ro.SliceIs exRo ψ y.2.2.1 l1_ ∧ St ψ (⟨Rep.obj 51 (Rep.prod (Rep.ro Ro.str) (Rep.prod (Rep.ro (Ro.int .i64)) (Rep.prod (Rep.ro (Ro.int .i64)) (Rep.prod (Rep.ro (Ro.int .i64)) (Rep.ro (Ro.int .i64)))))), [.pointer r_0], l2_⟩ :: F) h') := by
  refine calls_of mixed Tryd.func47 ?_
  rw [tronageref20_Reader_factor_den]
  unfold tronageref20_Reader_factor_T
  unfold tronageref20_Reader_factor_B at hd
  try dsimp only [Ex.kind_mk, Ex.n_mk, Ex.kids_mk] at hd
  refine s_new (vs := [.int .i64 (0 : Int), .int .i64 (0 : Int), .slice none 0 0]) s0 ?_
  intro r1 h5_ s4_
  have s6_ := s4_.at1
  obtain ⟨r7_, hr8_, hd⟩ := Option.bind_eq_some_iff.1 hd
  refine s_call (tronageref20_Reader_now_sim  s6_ hr8_) ?_
  rintro _ h9_ ⟨f10_, t2, d13_, le12_, rfl, rfl, s11_⟩
  refine ⟨t2, rfl, ?_⟩
  try dsimp only at hd
  obtain ⟨g14_, hx15_, hd⟩ := Option.bind_eq_some_iff.1 hd
  refine s_join (fun (y : Bool × Unit) w_ g => ∃ ψ : Snap, Sub f10_ ψ ∧ y.1 = g ∧ St ψ (⟨Rep.obj 51 (Rep.prod (Rep.ro Ro.str) (Rep.prod (Rep.ro (Ro.int .i64)) (Rep.prod (Rep.ro (Ro.int .i64)) (Rep.prod (Rep.ro (Ro.int .i64)) (Rep.ro (Ro.int .i64)))))), [.pointer r_0], d13_⟩ :: ⟨Rep.raw 25, [.pointer (some ⟨r1, 0, none⟩)], [.int .i64 (0 : Int), .int .i64 (0 : Int), .slice none 0 0]⟩ :: F) w_) (g := g14_) ?_ ?_
  · refine s_cond hx15_ rfl (fun hb32_ hx15_ => ?_) (fun hb32_ hx15_ => ?_)
    · have s16_ := s11_.at1
      have s17_ := s16_.at1
      obtain rfl := Option.some.inj hx15_
      exact s_out (true, ()) rfl ⟨f10_, (Sub.refl _), rfl, s17_⟩
    · refine s_cond hx15_ rfl (fun hb31_ hx15_ => ?_) (fun hb31_ hx15_ => ?_)
      · have s18_ := s11_.at1
        have s19_ := s18_.at1
        obtain rfl := Option.some.inj hx15_
        exact s_out (true, ()) rfl ⟨f10_, (Sub.refl _), rfl, s19_⟩
      · refine s_cond hx15_ rfl (fun hb30_ hx15_ => ?_) (fun hb30_ hx15_ => ?_)
        · have s20_ := s11_.at1
          have s21_ := s20_.at1
          obtain rfl := Option.some.inj hx15_
          exact s_out (true, ()) rfl ⟨f10_, (Sub.refl _), rfl, s21_⟩
        · refine s_cond hx15_ rfl (fun hb29_ hx15_ => ?_) (fun hb29_ hx15_ => ?_)
          · have s22_ := s11_.at1
            have s23_ := s22_.at1
            obtain rfl := Option.some.inj hx15_
            exact s_out (true, ()) rfl ⟨f10_, (Sub.refl _), rfl, s23_⟩
          · refine s_cond hx15_ rfl (fun hb28_ hx15_ => ?_) (fun hb28_ hx15_ => ?_)
            · have s24_ := s11_.at1
              have s25_ := s24_.at1
              obtain rfl := Option.some.inj hx15_
              exact s_out ((decide (t2 ≤ (57 : Int))), ()) rfl ⟨f10_, (Sub.refl _), rfl, s25_⟩
            · have s26_ := s11_.at1
              have s27_ := s26_.at1
              obtain rfl := Option.some.inj hx15_
              exact s_out (false, ()) rfl ⟨f10_, (Sub.refl _), rfl, s27_⟩
  · rintro z3 h33_ ⟨f34_, le35_, rfl, s36_⟩
    try dsimp only at hd
    obtain ⟨g37_, hx38_, hd⟩ := Option.bind_eq_some_iff.1 hd
    refine s_join (fun (y : Bool × Unit) w_ g => ∃ ψ : Snap, Sub f34_ ψ ∧ y.1 = g ∧ St ψ (⟨Rep.obj 51 (Rep.prod (Rep.ro Ro.str) (Rep.prod (Rep.ro (Ro.int .i64)) (Rep.prod (Rep.ro (Ro.int .i64)) (Rep.prod (Rep.ro (Ro.int .i64)) (Rep.ro (Ro.int .i64)))))), [.pointer r_0], d13_⟩ :: ⟨Rep.raw 25, [.pointer (some ⟨r1, 0, none⟩)], [.int .i64 (0 : Int), .int .i64 (0 : Int), .slice none 0 0]⟩ :: F) w_) (g := g37_) ?_ ?_
    · obtain ⟨b39_, vs40_, e41_, hl42_, s43_⟩ := s36_.open
      obtain rfl : r_0 = some ⟨b39_, 0, none⟩ := by simpa using e41_
      clear e41_
      have s44_ := s43_.at1
      obtain ⟨v45_, w46_, rfl, hl48_, s47_⟩ := s44_.pair
      obtain ⟨g49_, s50_⟩ := s47_.ro
      subst g49_
      obtain ⟨v52_, w53_, rfl, hl55_, s54_⟩ := s50_.pair
      obtain ⟨g56_, s57_⟩ := s54_.ro
      subst g56_
      obtain ⟨v59_, w60_, rfl, hl62_, s61_⟩ := s57_.pair
      obtain ⟨g63_, s64_⟩ := s61_.ro
      subst g63_
      obtain ⟨v66_, w67_, rfl, hl69_, s68_⟩ := s64_.pair
      obtain ⟨g70_, s71_⟩ := s68_.ro
      subst g70_
      obtain ⟨g73_, s74_⟩ := s71_.ro
      subst g73_
      have s76_ : St f34_ (⟨Rep.raw 51, [.pointer (some ⟨b39_, 0, none⟩)], [.string (d13_.1), .int .i64 (d13_.2.1), .int .i64 (d13_.2.2.1), .int .i64 (d13_.2.2.2.1), .int .i64 (d13_.2.2.2.2)]⟩ :: ⟨Rep.raw 25, [.pointer (some ⟨r1, 0, none⟩)], [.int .i64 (0 : Int), .int .i64 (0 : Int), .slice none 0 0]⟩ :: F) _ := s74_
      refine t_deref _ rfl ?_
      refine s_loadR (b := b39_) (j := 3) (x := (d13_.2.2.2.1)) s76_ rfl ?_
      refine s_cond hx38_ rfl (fun hb101_ hx38_ => ?_) (fun hb101_ hx38_ => ?_)
      · have s77_ := St.unro (r := (Ro.int .i64)) (cs := [.int .i64 (d13_.2.2.2.2)]) (x := (d13_.2.2.2.2)) s76_ rfl
        have s78_ := St.unro (r := (Ro.int .i64)) (cs := [.int .i64 (d13_.2.2.2.1)]) (x := (d13_.2.2.2.1)) s77_ rfl
        have s79_ := St.unpair s78_
        have s80_ := St.unro (r := (Ro.int .i64)) (cs := [.int .i64 (d13_.2.2.1)]) (x := (d13_.2.2.1)) s79_ rfl
        have s81_ := St.unpair s80_
        have s82_ := St.unro (r := (Ro.int .i64)) (cs := [.int .i64 (d13_.2.1)]) (x := (d13_.2.1)) s81_ rfl
        have s83_ := St.unpair s82_
        have s84_ := St.unro (r := Ro.str) (cs := [.string (d13_.1)]) (x := (d13_.1)) s83_ rfl
        have s85_ := St.unpair s84_
        have s86_ : St f34_ (⟨Rep.obj 51 (Rep.prod (Rep.ro Ro.str) (Rep.prod (Rep.ro (Ro.int .i64)) (Rep.prod (Rep.ro (Ro.int .i64)) (Rep.prod (Rep.ro (Ro.int .i64)) (Rep.ro (Ro.int .i64)))))), [.pointer (some ⟨b39_, 0, none⟩)], ((d13_.1), (d13_.2.1), (d13_.2.2.1), (d13_.2.2.2.1), (d13_.2.2.2.2))⟩ :: ⟨Rep.raw 25, [.pointer (some ⟨r1, 0, none⟩)], [.int .i64 (0 : Int), .int .i64 (0 : Int), .slice none 0 0]⟩ :: F) _ := St.shut s85_.at1
        have s87_ := s86_.at1
        have s88_ := s87_.at1
        obtain rfl := Option.some.inj hx38_
        exact s_out (true, ()) rfl ⟨f34_, (Sub.refl _), rfl, s88_⟩
      · have s89_ := St.unro (r := (Ro.int .i64)) (cs := [.int .i64 (d13_.2.2.2.2)]) (x := (d13_.2.2.2.2)) s76_ rfl
        have s90_ := St.unro (r := (Ro.int .i64)) (cs := [.int .i64 (d13_.2.2.2.1)]) (x := (d13_.2.2.2.1)) s89_ rfl
        have s91_ := St.unpair s90_
        have s92_ := St.unro (r := (Ro.int .i64)) (cs := [.int .i64 (d13_.2.2.1)]) (x := (d13_.2.2.1)) s91_ rfl
        have s93_ := St.unpair s92_
        have s94_ := St.unro (r := (Ro.int .i64)) (cs := [.int .i64 (d13_.2.1)]) (x := (d13_.2.1)) s93_ rfl
        have s95_ := St.unpair s94_
        have s96_ := St.unro (r := Ro.str) (cs := [.string (d13_.1)]) (x := (d13_.1)) s95_ rfl
        have s97_ := St.unpair s96_
        have s98_ : St f34_ (⟨Rep.obj 51 (Rep.prod (Rep.ro Ro.str) (Rep.prod (Rep.ro (Ro.int .i64)) (Rep.prod (Rep.ro (Ro.int .i64)) (Rep.prod (Rep.ro (Ro.int .i64)) (Rep.ro (Ro.int .i64)))))), [.pointer (some ⟨b39_, 0, none⟩)], ((d13_.1), (d13_.2.1), (d13_.2.2.1), (d13_.2.2.2.1), (d13_.2.2.2.2))⟩ :: ⟨Rep.raw 25, [.pointer (some ⟨r1, 0, none⟩)], [.int .i64 (0 : Int), .int .i64 (0 : Int), .slice none 0 0]⟩ :: F) _ := St.shut s97_.at1
        have s99_ := s98_.at1
        have s100_ := s99_.at1
        obtain rfl := Option.some.inj hx38_
        exact s_out ((!z3.1), ()) rfl ⟨f34_, (Sub.refl _), rfl, s100_⟩
    · rintro z4 h102_ ⟨f103_, le104_, rfl, s105_⟩
      try dsimp only at hd
      refine s_cond hd rfl (fun hb891_ hd => ?_) (fun hb891_ hd => ?_)
      · obtain ⟨r106_, hr107_, hd⟩ := Option.bind_eq_some_iff.1 hd
        refine s_call (tronageref20_Reader_fail_sim  s105_ hr107_) ?_
        rintro _ h108_ ⟨f109_, t7, d112_, le111_, rfl, rfl, s110_⟩
        refine ⟨t7, rfl, ?_⟩
        refine s_put (b := r1) (j := 0) (v := .int .i64 (0 : Int)) s110_.at1 rfl (show (0 : Nat) < 3 by decide) ?_
        intro h114_ s113_
        refine s_put (b := r1) (j := 1) (v := .int .i64 (0 : Int)) s113_ rfl (show (1 : Nat) < 3 by decide) ?_
        intro h116_ s115_
        refine s_put (b := r1) (j := 2) (v := .slice none 0 0) s115_ rfl (show (2 : Nat) < 3 by decide) ?_
        intro h118_ s117_
        refine s_loadR (b := r1) (j := 0) (x := (0 : Int)) s117_ rfl ?_
        refine s_loadR (b := r1) (j := 1) (x := (0 : Int)) s117_ rfl ?_
        refine s_loadR (b := r1) (j := 2) (x := ((none, 0, 0) : Slc)) s117_ rfl ?_
        obtain rfl := Option.some.inj hd
        have s119_ := s117_.tail
        exact finOf_back ⟨f109_, ((0 : Int), (0 : Int), ((none, 0, 0) : Slc), ()), ([] : List Ex), d112_, (((le12_.trans le35_).trans le104_).trans le111_), rfl, rfl, (Ro.SliceIs.nil exRo f109_), s119_⟩
      · obtain ⟨b120_, vs121_, e122_, hl123_, s124_⟩ := s105_.open
        obtain rfl : r_0 = some ⟨b120_, 0, none⟩ := by simpa using e122_
        clear e122_
        have s125_ := s124_.at1
        obtain ⟨v126_, w127_, rfl, hl129_, s128_⟩ := s125_.pair
        obtain ⟨g130_, s131_⟩ := s128_.ro
        subst g130_
        obtain ⟨v133_, w134_, rfl, hl136_, s135_⟩ := s131_.pair
        obtain ⟨g137_, s138_⟩ := s135_.ro
        subst g137_
        obtain ⟨v140_, w141_, rfl, hl143_, s142_⟩ := s138_.pair
        obtain ⟨g144_, s145_⟩ := s142_.ro
        subst g144_
        obtain ⟨v147_, w148_, rfl, hl150_, s149_⟩ := s145_.pair
        obtain ⟨g151_, s152_⟩ := s149_.ro
        subst g151_
        obtain ⟨g154_, s155_⟩ := s152_.ro
        subst g154_
        have s157_ : St f103_ (⟨Rep.raw 51, [.pointer (some ⟨b120_, 0, none⟩)], [.string (d13_.1), .int .i64 (d13_.2.1), .int .i64 (d13_.2.2.1), .int .i64 (d13_.2.2.2.1), .int .i64 (d13_.2.2.2.2)]⟩ :: ⟨Rep.raw 25, [.pointer (some ⟨r1, 0, none⟩)], [.int .i64 (0 : Int), .int .i64 (0 : Int), .slice none 0 0]⟩ :: F) _ := s155_
        refine t_deref _ rfl ?_
        refine s_loadR (b := b120_) (j := 2) (x := (d13_.2.2.1)) s157_ rfl ?_
        refine s_cond hd rfl (fun hb890_ hd => ?_) (fun hb890_ hd => ?_)
        · have s158_ := St.unro (r := (Ro.int .i64)) (cs := [.int .i64 (d13_.2.2.2.2)]) (x := (d13_.2.2.2.2)) s157_ rfl
          have s159_ := St.unro (r := (Ro.int .i64)) (cs := [.int .i64 (d13_.2.2.2.1)]) (x := (d13_.2.2.2.1)) s158_ rfl
          have s160_ := St.unpair s159_
          have s161_ := St.unro (r := (Ro.int .i64)) (cs := [.int .i64 (d13_.2.2.1)]) (x := (d13_.2.2.1)) s160_ rfl
          have s162_ := St.unpair s161_
          have s163_ := St.unro (r := (Ro.int .i64)) (cs := [.int .i64 (d13_.2.1)]) (x := (d13_.2.1)) s162_ rfl
          have s164_ := St.unpair s163_
          have s165_ := St.unro (r := Ro.str) (cs := [.string (d13_.1)]) (x := (d13_.1)) s164_ rfl
          have s166_ := St.unpair s165_
          have s167_ : St f103_ (⟨Rep.obj 51 (Rep.prod (Rep.ro Ro.str) (Rep.prod (Rep.ro (Ro.int .i64)) (Rep.prod (Rep.ro (Ro.int .i64)) (Rep.prod (Rep.ro (Ro.int .i64)) (Rep.ro (Ro.int .i64)))))), [.pointer (some ⟨b120_, 0, none⟩)], ((d13_.1), (d13_.2.1), (d13_.2.2.1), (d13_.2.2.2.1), (d13_.2.2.2.2))⟩ :: ⟨Rep.raw 25, [.pointer (some ⟨r1, 0, none⟩)], [.int .i64 (0 : Int), .int .i64 (0 : Int), .slice none 0 0]⟩ :: F) _ := St.shut s166_.at1
          obtain ⟨r168_, hr169_, hd⟩ := Option.bind_eq_some_iff.1 hd
          refine s_call (tronageref20_Reader_fail_sim  s167_ hr169_) ?_
          rintro _ h170_ ⟨f171_, t13, d174_, le173_, rfl, rfl, s172_⟩
          refine ⟨t13, rfl, ?_⟩
          refine s_put (b := r1) (j := 0) (v := .int .i64 (0 : Int)) s172_.at1 rfl (show (0 : Nat) < 3 by decide) ?_
          intro h176_ s175_
          refine s_put (b := r1) (j := 1) (v := .int .i64 (0 : Int)) s175_ rfl (show (1 : Nat) < 3 by decide) ?_
          intro h178_ s177_
          refine s_put (b := r1) (j := 2) (v := .slice none 0 0) s177_ rfl (show (2 : Nat) < 3 by decide) ?_
          intro h180_ s179_
          refine s_loadR (b := r1) (j := 0) (x := (0 : Int)) s179_ rfl ?_
          refine s_loadR (b := r1) (j := 1) (x := (0 : Int)) s179_ rfl ?_
          refine s_loadR (b := r1) (j := 2) (x := ((none, 0, 0) : Slc)) s179_ rfl ?_
          obtain rfl := Option.some.inj hd
          have s181_ := s179_.tail
          exact finOf_back ⟨f171_, ((0 : Int), (0 : Int), ((none, 0, 0) : Slc), ()), ([] : List Ex), d174_, (((le12_.trans le35_).trans le104_).trans le173_), rfl, rfl, (Ro.SliceIs.nil exRo f171_), s181_⟩
        · refine t_deref _ rfl ?_
          refine s_loadR (b := b120_) (j := 2) (x := (d13_.2.2.1)) s157_ rfl ?_
          refine t_deref _ rfl ?_
          refine s_put (b := b120_) (j := 2) (v := .int .i64 (IntKind.wrap .i64 ((d13_.2.2.1) + (1 : Int)))) s157_ rfl (show (2 : Nat) < 5 by decide) ?_
          intro h183_ s182_
          refine s_new (vs := [.int .i64 (0 : Int), .int .i64 (0 : Int), .slice none 0 0]) s182_ ?_
          intro r20 h185_ s184_
          refine s_put (b := r20) (j := 0) (v := .int .i64 (1 : Int)) s184_ rfl (show (0 : Nat) < 3 by decide) ?_
          intro h187_ s186_
          refine s_put (b := r20) (j := 1) (v := .int .i64 (0 : Int)) s186_ rfl (show (1 : Nat) < 3 by decide) ?_
          intro h189_ s188_
          refine s_put (b := r20) (j := 2) (v := .slice none 0 0) s188_ rfl (show (2 : Nat) < 3 by decide) ?_
          intro h191_ s190_
          have s192_ := St.unro (r := (Ro.int .i64)) (cs := [.int .i64 (d13_.2.2.2.2)]) (x := (d13_.2.2.2.2)) s190_ rfl
          have s193_ := St.unro (r := (Ro.int .i64)) (cs := [.int .i64 (d13_.2.2.2.1)]) (x := (d13_.2.2.2.1)) s192_ rfl
          have s194_ := St.unpair s193_
          have s195_ := St.unro (r := (Ro.int .i64)) (cs := [.int .i64 (IntKind.wrap .i64 ((d13_.2.2.1) + (1 : Int)))]) (x := (IntKind.wrap .i64 ((d13_.2.2.1) + (1 : Int)))) s194_ rfl
          have s196_ := St.unpair s195_
          have s197_ := St.unro (r := (Ro.int .i64)) (cs := [.int .i64 (d13_.2.1)]) (x := (d13_.2.1)) s196_ rfl
          have s198_ := St.unpair s197_
          have s199_ := St.unro (r := Ro.str) (cs := [.string (d13_.1)]) (x := (d13_.1)) s198_ rfl
          have s200_ := St.unpair s199_
          have s201_ : St f103_ (⟨Rep.obj 51 (Rep.prod (Rep.ro Ro.str) (Rep.prod (Rep.ro (Ro.int .i64)) (Rep.prod (Rep.ro (Ro.int .i64)) (Rep.prod (Rep.ro (Ro.int .i64)) (Rep.ro (Ro.int .i64)))))), [.pointer (some ⟨b120_, 0, none⟩)], ((d13_.1), (d13_.2.1), (IntKind.wrap .i64 ((d13_.2.2.1) + (1 : Int))), (d13_.2.2.2.1), (d13_.2.2.2.2))⟩ :: ⟨Rep.raw 25, [.pointer (some ⟨r20, 0, none⟩)], [.int .i64 (1 : Int), .int .i64 (0 : Int), .slice none 0 0]⟩ :: ⟨Rep.raw 25, [.pointer (some ⟨r1, 0, none⟩)], [.int .i64 (0 : Int), .int .i64 (0 : Int), .slice none 0 0]⟩ :: F) _ := St.shut s200_.at2
          have s202_ := St.unro (r := (Ro.list exRo)) (cs := [.slice ((none, 0, 0) : Slc).1 ((none, 0, 0) : Slc).2.1 ((none, 0, 0) : Slc).2.2]) (x := ([] : List Ex)) s201_ ⟨((none, 0, 0) : Slc), rfl, (Ro.SliceIs.nil exRo f103_)⟩
          have s203_ := St.unro (r := (Ro.int .i64)) (cs := [.int .i64 (0 : Int)]) (x := (0 : Int)) s202_ rfl
          have s204_ := St.unpair s203_
          have s205_ := St.unro (r := (Ro.int .i64)) (cs := [.int .i64 (1 : Int)]) (x := (1 : Int)) s204_ rfl
          have s206_ := St.unpair s205_
          have s207_ : St f103_ (⟨Rep.obj 25 (Rep.prod (Rep.ro (Ro.int .i64)) (Rep.prod (Rep.ro (Ro.int .i64)) (Rep.ro (Ro.list exRo)))), [.pointer (some ⟨r20, 0, none⟩)], ((1 : Int), (0 : Int), ([] : List Ex))⟩ :: ⟨Rep.obj 51 (Rep.prod (Rep.ro Ro.str) (Rep.prod (Rep.ro (Ro.int .i64)) (Rep.prod (Rep.ro (Ro.int .i64)) (Rep.prod (Rep.ro (Ro.int .i64)) (Rep.ro (Ro.int .i64)))))), [.pointer (some ⟨b120_, 0, none⟩)], ((d13_.1), (d13_.2.1), (IntKind.wrap .i64 ((d13_.2.2.1) + (1 : Int))), (d13_.2.2.2.1), (d13_.2.2.2.2))⟩ :: ⟨Rep.raw 25, [.pointer (some ⟨r1, 0, none⟩)], [.int .i64 (0 : Int), .int .i64 (0 : Int), .slice none 0 0]⟩ :: F) _ := St.shut s206_.at2
          obtain ⟨g208_, hx209_, hd⟩ := Option.bind_eq_some_iff.1 hd
          refine s_join (fun (y : Unit) w_ g => ∃ ψ : Snap, ∃ l210_ : (ByteArray × Int × Int × Int × Int), ∃ l211_ : (Int × Int × List Ex), Sub f103_ ψ ∧ (l210_, l211_) = g ∧ St ψ (⟨Rep.obj 51 (Rep.prod (Rep.ro Ro.str) (Rep.prod (Rep.ro (Ro.int .i64)) (Rep.prod (Rep.ro (Ro.int .i64)) (Rep.prod (Rep.ro (Ro.int .i64)) (Rep.ro (Ro.int .i64)))))), [.pointer (some ⟨b120_, 0, none⟩)], l210_⟩ :: ⟨Rep.obj 25 (Rep.prod (Rep.ro (Ro.int .i64)) (Rep.prod (Rep.ro (Ro.int .i64)) (Rep.ro (Ro.list exRo)))), [.pointer (some ⟨r20, 0, none⟩)], l211_⟩ :: ⟨Rep.raw 25, [.pointer (some ⟨r1, 0, none⟩)], [.int .i64 (0 : Int), .int .i64 (0 : Int), .slice none 0 0]⟩ :: F) w_) (g := g208_) ?_ ?_
          · refine s_cond hx209_ rfl (fun hb798_ hx209_ => ?_) (fun hb798_ hx209_ => ?_)
            · obtain ⟨b212_, vs213_, e214_, hl215_, s216_⟩ := s207_.at1.open
              obtain rfl : b120_ = b212_ := by simpa using e214_
              clear e214_
              have s217_ := s216_.at1
              obtain ⟨v218_, w219_, rfl, hl221_, s220_⟩ := s217_.pair
              obtain ⟨g222_, s223_⟩ := s220_.ro
              subst g222_
              obtain ⟨v225_, w226_, rfl, hl228_, s227_⟩ := s223_.pair
              obtain ⟨g229_, s230_⟩ := s227_.ro
              subst g229_
              obtain ⟨v232_, w233_, rfl, hl235_, s234_⟩ := s230_.pair
              obtain ⟨g236_, s237_⟩ := s234_.ro
              subst g236_
              obtain ⟨v239_, w240_, rfl, hl242_, s241_⟩ := s237_.pair
              obtain ⟨g243_, s244_⟩ := s241_.ro
              subst g243_
              obtain ⟨g246_, s247_⟩ := s244_.ro
              subst g246_
              have s249_ : St f103_ (⟨Rep.raw 51, [.pointer (some ⟨b120_, 0, none⟩)], [.string ((d13_.1)), .int .i64 ((d13_.2.1)), .int .i64 ((IntKind.wrap .i64 ((d13_.2.2.1) + (1 : Int)))), .int .i64 ((d13_.2.2.2.1)), .int .i64 ((d13_.2.2.2.2))]⟩ :: ⟨Rep.obj 25 (Rep.prod (Rep.ro (Ro.int .i64)) (Rep.prod (Rep.ro (Ro.int .i64)) (Rep.ro (Ro.list exRo)))), [.pointer (some ⟨r20, 0, none⟩)], ((1 : Int), (0 : Int), ([] : List Ex))⟩ :: ⟨Rep.raw 25, [.pointer (some ⟨r1, 0, none⟩)], [.int .i64 (0 : Int), .int .i64 (0 : Int), .slice none 0 0]⟩ :: F) _ := s247_
              refine t_deref _ rfl ?_
              refine s_loadR (b := b120_) (j := 1) (x := ((d13_.2.1))) s249_ rfl ?_
              refine t_deref _ rfl ?_
              refine s_put (b := b120_) (j := 1) (v := .int .i64 (IntKind.wrap .i64 (((d13_.2.1)) + (1 : Int)))) s249_ rfl (show (1 : Nat) < 5 by decide) ?_
              intro h251_ s250_
              have s252_ := St.unro (r := (Ro.int .i64)) (cs := [.int .i64 ((d13_.2.2.2.2))]) (x := ((d13_.2.2.2.2))) s250_ rfl
              have s253_ := St.unro (r := (Ro.int .i64)) (cs := [.int .i64 ((d13_.2.2.2.1))]) (x := ((d13_.2.2.2.1))) s252_ rfl
              have s254_ := St.unpair s253_
              have s255_ := St.unro (r := (Ro.int .i64)) (cs := [.int .i64 ((IntKind.wrap .i64 ((d13_.2.2.1) + (1 : Int))))]) (x := ((IntKind.wrap .i64 ((d13_.2.2.1) + (1 : Int))))) s254_ rfl
              have s256_ := St.unpair s255_
              have s257_ := St.unro (r := (Ro.int .i64)) (cs := [.int .i64 (IntKind.wrap .i64 (((d13_.2.1)) + (1 : Int)))]) (x := (IntKind.wrap .i64 (((d13_.2.1)) + (1 : Int)))) s256_ rfl
              have s258_ := St.unpair s257_
              have s259_ := St.unro (r := Ro.str) (cs := [.string ((d13_.1))]) (x := ((d13_.1))) s258_ rfl
              have s260_ := St.unpair s259_
              have s261_ : St f103_ (⟨Rep.obj 51 (Rep.prod (Rep.ro Ro.str) (Rep.prod (Rep.ro (Ro.int .i64)) (Rep.prod (Rep.ro (Ro.int .i64)) (Rep.prod (Rep.ro (Ro.int .i64)) (Rep.ro (Ro.int .i64)))))), [.pointer (some ⟨b120_, 0, none⟩)], (((d13_.1)), (IntKind.wrap .i64 (((d13_.2.1)) + (1 : Int))), ((IntKind.wrap .i64 ((d13_.2.2.1) + (1 : Int)))), ((d13_.2.2.2.1)), ((d13_.2.2.2.2)))⟩ :: ⟨Rep.obj 25 (Rep.prod (Rep.ro (Ro.int .i64)) (Rep.prod (Rep.ro (Ro.int .i64)) (Rep.ro (Ro.list exRo)))), [.pointer (some ⟨r20, 0, none⟩)], ((1 : Int), (0 : Int), ([] : List Ex))⟩ :: ⟨Rep.raw 25, [.pointer (some ⟨r1, 0, none⟩)], [.int .i64 (0 : Int), .int .i64 (0 : Int), .slice none 0 0]⟩ :: F) _ := St.shut s260_.at1
              obtain ⟨r262_, hr263_, hx209_⟩ := Option.bind_eq_some_iff.1 hx209_
              refine s_call (Hrec  s261_ hr263_) ?_
              rintro _ h264_ ⟨f265_, t25, d268_, d271_, le267_, rfl, rfl, k270_, s266_⟩
              refine ⟨t25, rfl, ?_⟩
              try dsimp only at hx209_
              have n269_ := k270_.length
              refine s_new (vs := [.int .i64 (0 : Int), .int .i64 (0 : Int), .slice none 0 0]) s266_ ?_
              intro r26 h273_ s272_
              refine s_put (b := r26) (j := 0) (v := .int .i64 t25.1) s272_ rfl (show (0 : Nat) < 3 by decide) ?_
              intro h275_ s274_
              refine s_put (b := r26) (j := 1) (v := .int .i64 t25.2.1) s274_ rfl (show (1 : Nat) < 3 by decide) ?_
              intro h277_ s276_
              refine s_put (b := r26) (j := 2) (v := .slice t25.2.2.1.1 t25.2.2.1.2.1 t25.2.2.1.2.2) s276_ rfl (show (2 : Nat) < 3 by decide) ?_
              intro h279_ s278_
              refine s_loadR (b := r26) (j := 0) (x := t25.1) s278_ rfl ?_
              refine s_loadR (b := r26) (j := 1) (x := t25.2.1) s278_ rfl ?_
              refine s_loadR (b := r26) (j := 2) (x := t25.2.2.1) s278_ rfl ?_
              refine s_new (vs := [.int .i64 t25.1, .int .i64 t25.2.1, .slice t25.2.2.1.1 t25.2.2.1.2.1 t25.2.2.1.2.2]) s278_ ?_
              intro r30 h281_ s280_
              obtain ⟨b282_, vs283_, e284_, hl285_, s286_⟩ := s280_.at3.open
              obtain rfl : r20 = b282_ := by simpa using e284_
              clear e284_
              have s287_ := s286_.at1
              obtain ⟨v288_, w289_, rfl, hl291_, s290_⟩ := s287_.pair
              obtain ⟨g292_, s293_⟩ := s290_.ro
              subst g292_
              obtain ⟨v295_, w296_, rfl, hl298_, s297_⟩ := s293_.pair
              obtain ⟨g299_, s300_⟩ := s297_.ro
              subst g299_
              obtain ⟨g302_, s303_⟩ := s300_.ro
              obtain ⟨t304_, e305_, k306_⟩ := g302_
              subst e305_
              have n307_ := k306_.length
              have s308_ : St f265_ (⟨Rep.raw 25, [.pointer (some ⟨r20, 0, none⟩)], [.int .i64 ((1 : Int)), .int .i64 ((0 : Int)), .slice t304_.1 t304_.2.1 t304_.2.2]⟩ :: ⟨Rep.raw 25, [.pointer (some ⟨r30, 0, none⟩)], [.int .i64 t25.1, .int .i64 t25.2.1, .slice t25.2.2.1.1 t25.2.2.1.2.1 t25.2.2.1.2.2]⟩ :: ⟨Rep.raw 25, [.pointer (some ⟨r26, 0, none⟩)], [.int .i64 t25.1, .int .i64 t25.2.1, .slice t25.2.2.1.1 t25.2.2.1.2.1 t25.2.2.1.2.2]⟩ :: ⟨Rep.obj 51 (Rep.prod (Rep.ro Ro.str) (Rep.prod (Rep.ro (Ro.int .i64)) (Rep.prod (Rep.ro (Ro.int .i64)) (Rep.prod (Rep.ro (Ro.int .i64)) (Rep.ro (Ro.int .i64)))))), [.pointer (some ⟨b120_, 0, none⟩)], d271_⟩ :: ⟨Rep.raw 25, [.pointer (some ⟨r1, 0, none⟩)], [.int .i64 (0 : Int), .int .i64 (0 : Int), .slice none 0 0]⟩ :: F) _ := s303_
              refine s_put (b := r20) (j := 0) (v := .int .i64 (4 : Int)) s308_ rfl (show (0 : Nat) < 3 by decide) ?_
              intro h310_ s309_
              refine s_put (b := r20) (j := 1) (v := .int .i64 (0 : Int)) s309_ rfl (show (1 : Nat) < 3 by decide) ?_
              intro h312_ s311_
              refine s_put (b := r20) (j := 2) (v := .slice (some ⟨r30, 0, none⟩) 1 1) s311_ rfl (show (2 : Nat) < 3 by decide) ?_
              intro h314_ s313_
              have s315_ := St.lit (r := exRo) (l := ([(Ex.mk t25.1 t25.2.1 d268_)] : List Ex)) (n := 1) s313_.at1 (.cons (a := [_, _, _]) (exRo_mk (φ := f265_) (cs := [_, _, _]) ⟨[_], _, rfl, rfl, ⟨[_], _, rfl, rfl, ⟨t25.2.2.1, rfl, k270_⟩⟩⟩) .nil) rfl (by decide)
              obtain ⟨f316_, le317_, k318_, s319_⟩ := St.freezeRow (t := ((some ⟨r30, 0, none⟩, 1, 1) : Slc)) s315_
              have s320_ := St.unro (r := (Ro.list exRo)) (cs := [.slice ((some ⟨r30, 0, none⟩, 1, 1) : Slc).1 ((some ⟨r30, 0, none⟩, 1, 1) : Slc).2.1 ((some ⟨r30, 0, none⟩, 1, 1) : Slc).2.2]) (x := ([(Ex.mk t25.1 t25.2.1 d268_)] : List Ex)) s319_ ⟨((some ⟨r30, 0, none⟩, 1, 1) : Slc), rfl, k318_⟩
              have s321_ := St.unro (r := (Ro.int .i64)) (cs := [.int .i64 (0 : Int)]) (x := (0 : Int)) s320_ rfl
              have s322_ := St.unpair s321_
              have s323_ := St.unro (r := (Ro.int .i64)) (cs := [.int .i64 (4 : Int)]) (x := (4 : Int)) s322_ rfl
              have s324_ := St.unpair s323_
              have s325_ : St f316_ (⟨Rep.obj 25 (Rep.prod (Rep.ro (Ro.int .i64)) (Rep.prod (Rep.ro (Ro.int .i64)) (Rep.ro (Ro.list exRo)))), [.pointer (some ⟨r20, 0, none⟩)], ((4 : Int), (0 : Int), ([(Ex.mk t25.1 t25.2.1 d268_)] : List Ex))⟩ :: ⟨Rep.raw 25, [.pointer (some ⟨r26, 0, none⟩)], [.int .i64 t25.1, .int .i64 t25.2.1, .slice t25.2.2.1.1 t25.2.2.1.2.1 t25.2.2.1.2.2]⟩ :: ⟨Rep.obj 51 (Rep.prod (Rep.ro Ro.str) (Rep.prod (Rep.ro (Ro.int .i64)) (Rep.prod (Rep.ro (Ro.int .i64)) (Rep.prod (Rep.ro (Ro.int .i64)) (Rep.ro (Ro.int .i64)))))), [.pointer (some ⟨b120_, 0, none⟩)], d271_⟩ :: ⟨Rep.raw 25, [.pointer (some ⟨r1, 0, none⟩)], [.int .i64 (0 : Int), .int .i64 (0 : Int), .slice none 0 0]⟩ :: F) _ := St.shut s324_.at1
              have s326_ := s325_.at1.tail
              have s327_ := s326_.at2
              have s328_ := s327_.at1
              have s329_ := s328_.at2
              obtain rfl := Option.some.inj hx209_
              exact s_out (()) rfl ⟨f316_, d271_, ((4 : Int), (0 : Int), ([(Ex.mk t25.1 t25.2.1 d268_)] : List Ex)), (le267_.trans le317_), rfl, s329_⟩
            · obtain ⟨g330_, hx331_, hx209_⟩ := Option.bind_eq_some_iff.1 hx209_
              refine s_join (fun (y : Unit) w_ g => ∃ ψ : Snap, ∃ l332_ : (ByteArray × Int × Int × Int × Int), ∃ l333_ : (Int × Int × List Ex), Sub f103_ ψ ∧ (l332_, l333_) = g ∧ St ψ (⟨Rep.obj 51 (Rep.prod (Rep.ro Ro.str) (Rep.prod (Rep.ro (Ro.int .i64)) (Rep.prod (Rep.ro (Ro.int .i64)) (Rep.prod (Rep.ro (Ro.int .i64)) (Rep.ro (Ro.int .i64)))))), [.pointer (some ⟨b120_, 0, none⟩)], l332_⟩ :: ⟨Rep.obj 25 (Rep.prod (Rep.ro (Ro.int .i64)) (Rep.prod (Rep.ro (Ro.int .i64)) (Rep.ro (Ro.list exRo)))), [.pointer (some ⟨r20, 0, none⟩)], l333_⟩ :: ⟨Rep.raw 25, [.pointer (some ⟨r1, 0, none⟩)], [.int .i64 (0 : Int), .int .i64 (0 : Int), .slice none 0 0]⟩ :: F) w_) (g := g330_) ?_ ?_
              · refine s_cond hx331_ rfl (fun hb788_ hx331_ => ?_) (fun hb788_ hx331_ => ?_)
                · obtain ⟨b334_, vs335_, e336_, hl337_, s338_⟩ := s207_.at1.open
                  obtain rfl : b120_ = b334_ := by simpa using e336_
                  clear e336_
                  have s339_ := s338_.at1
                  obtain ⟨v340_, w341_, rfl, hl343_, s342_⟩ := s339_.pair
                  obtain ⟨g344_, s345_⟩ := s342_.ro
                  subst g344_
                  obtain ⟨v347_, w348_, rfl, hl350_, s349_⟩ := s345_.pair
                  obtain ⟨g351_, s352_⟩ := s349_.ro
                  subst g351_
                  obtain ⟨v354_, w355_, rfl, hl357_, s356_⟩ := s352_.pair
                  obtain ⟨g358_, s359_⟩ := s356_.ro
                  subst g358_
                  obtain ⟨v361_, w362_, rfl, hl364_, s363_⟩ := s359_.pair
                  obtain ⟨g365_, s366_⟩ := s363_.ro
                  subst g365_
                  obtain ⟨g368_, s369_⟩ := s366_.ro
                  subst g368_
                  have s371_ : St f103_ (⟨Rep.raw 51, [.pointer (some ⟨b120_, 0, none⟩)], [.string ((d13_.1)), .int .i64 ((d13_.2.1)), .int .i64 ((IntKind.wrap .i64 ((d13_.2.2.1) + (1 : Int)))), .int .i64 ((d13_.2.2.2.1)), .int .i64 ((d13_.2.2.2.2))]⟩ :: ⟨Rep.obj 25 (Rep.prod (Rep.ro (Ro.int .i64)) (Rep.prod (Rep.ro (Ro.int .i64)) (Rep.ro (Ro.list exRo)))), [.pointer (some ⟨r20, 0, none⟩)], ((1 : Int), (0 : Int), ([] : List Ex))⟩ :: ⟨Rep.raw 25, [.pointer (some ⟨r1, 0, none⟩)], [.int .i64 (0 : Int), .int .i64 (0 : Int), .slice none 0 0]⟩ :: F) _ := s369_
                  refine t_deref _ rfl ?_
                  refine s_loadR (b := b120_) (j := 1) (x := ((d13_.2.1))) s371_ rfl ?_
                  refine t_deref _ rfl ?_
                  refine s_put (b := b120_) (j := 1) (v := .int .i64 (IntKind.wrap .i64 (((d13_.2.1)) + (1 : Int)))) s371_ rfl (show (1 : Nat) < 5 by decide) ?_
                  intro h373_ s372_
                  have s374_ := St.unro (r := (Ro.int .i64)) (cs := [.int .i64 ((d13_.2.2.2.2))]) (x := ((d13_.2.2.2.2))) s372_ rfl
                  have s375_ := St.unro (r := (Ro.int .i64)) (cs := [.int .i64 ((d13_.2.2.2.1))]) (x := ((d13_.2.2.2.1))) s374_ rfl
                  have s376_ := St.unpair s375_
                  have s377_ := St.unro (r := (Ro.int .i64)) (cs := [.int .i64 ((IntKind.wrap .i64 ((d13_.2.2.1) + (1 : Int))))]) (x := ((IntKind.wrap .i64 ((d13_.2.2.1) + (1 : Int))))) s376_ rfl
                  have s378_ := St.unpair s377_
                  have s379_ := St.unro (r := (Ro.int .i64)) (cs := [.int .i64 (IntKind.wrap .i64 (((d13_.2.1)) + (1 : Int)))]) (x := (IntKind.wrap .i64 (((d13_.2.1)) + (1 : Int)))) s378_ rfl
                  have s380_ := St.unpair s379_
                  have s381_ := St.unro (r := Ro.str) (cs := [.string ((d13_.1))]) (x := ((d13_.1))) s380_ rfl
                  have s382_ := St.unpair s381_
                  have s383_ : St f103_ (⟨Rep.obj 51 (Rep.prod (Rep.ro Ro.str) (Rep.prod (Rep.ro (Ro.int .i64)) (Rep.prod (Rep.ro (Ro.int .i64)) (Rep.prod (Rep.ro (Ro.int .i64)) (Rep.ro (Ro.int .i64)))))), [.pointer (some ⟨b120_, 0, none⟩)], (((d13_.1)), (IntKind.wrap .i64 (((d13_.2.1)) + (1 : Int))), ((IntKind.wrap .i64 ((d13_.2.2.1) + (1 : Int)))), ((d13_.2.2.2.1)), ((d13_.2.2.2.2)))⟩ :: ⟨Rep.obj 25 (Rep.prod (Rep.ro (Ro.int .i64)) (Rep.prod (Rep.ro (Ro.int .i64)) (Rep.ro (Ro.list exRo)))), [.pointer (some ⟨r20, 0, none⟩)], ((1 : Int), (0 : Int), ([] : List Ex))⟩ :: ⟨Rep.raw 25, [.pointer (some ⟨r1, 0, none⟩)], [.int .i64 (0 : Int), .int .i64 (0 : Int), .slice none 0 0]⟩ :: F) _ := St.shut s382_.at1
                  obtain ⟨r384_, hr385_, hx331_⟩ := Option.bind_eq_some_iff.1 hx331_
                  refine s_call (tronageref20_Reader_sum_sim Hrec  s383_ hr385_) ?_
                  rintro _ h386_ ⟨f387_, t35, d390_, d393_, le389_, rfl, rfl, k392_, s388_⟩
                  refine ⟨t35, rfl, ?_⟩
                  try dsimp only at hx331_
                  have n391_ := k392_.length
                  obtain ⟨b394_, vs395_, e396_, hl397_, s398_⟩ := s388_.at1.open
                  obtain rfl : r20 = b394_ := by simpa using e396_
                  clear e396_
                  have s399_ := s398_.at1
                  obtain ⟨v400_, w401_, rfl, hl403_, s402_⟩ := s399_.pair
                  obtain ⟨g404_, s405_⟩ := s402_.ro
                  subst g404_
                  obtain ⟨v407_, w408_, rfl, hl410_, s409_⟩ := s405_.pair
                  obtain ⟨g411_, s412_⟩ := s409_.ro
                  subst g411_
                  obtain ⟨g414_, s415_⟩ := s412_.ro
                  obtain ⟨t416_, e417_, k418_⟩ := g414_
                  subst e417_
                  have n419_ := k418_.length
                  have s420_ : St f387_ (⟨Rep.raw 25, [.pointer (some ⟨r20, 0, none⟩)], [.int .i64 ((1 : Int)), .int .i64 ((0 : Int)), .slice t416_.1 t416_.2.1 t416_.2.2]⟩ :: ⟨Rep.obj 51 (Rep.prod (Rep.ro Ro.str) (Rep.prod (Rep.ro (Ro.int .i64)) (Rep.prod (Rep.ro (Ro.int .i64)) (Rep.prod (Rep.ro (Ro.int .i64)) (Rep.ro (Ro.int .i64)))))), [.pointer (some ⟨b120_, 0, none⟩)], d393_⟩ :: ⟨Rep.raw 25, [.pointer (some ⟨r1, 0, none⟩)], [.int .i64 (0 : Int), .int .i64 (0 : Int), .slice none 0 0]⟩ :: F) _ := s415_
                  refine s_put (b := r20) (j := 0) (v := .int .i64 t35.1) s420_ rfl (show (0 : Nat) < 3 by decide) ?_
                  intro h422_ s421_
                  refine s_put (b := r20) (j := 1) (v := .int .i64 t35.2.1) s421_ rfl (show (1 : Nat) < 3 by decide) ?_
                  intro h424_ s423_
                  refine s_put (b := r20) (j := 2) (v := .slice t35.2.2.1.1 t35.2.2.1.2.1 t35.2.2.1.2.2) s423_ rfl (show (2 : Nat) < 3 by decide) ?_
                  intro h426_ s425_
                  have s427_ := s425_.at1
                  obtain ⟨r428_, hr429_, hx331_⟩ := Option.bind_eq_some_iff.1 hx331_
                  refine s_call (tronageref20_Reader_now_sim  s427_ hr429_) ?_
                  rintro _ h430_ ⟨f431_, t36, d434_, le433_, rfl, rfl, s432_⟩
                  refine ⟨t36, rfl, ?_⟩
                  try dsimp only at hx331_
                  obtain ⟨g435_, hx436_, hx331_⟩ := Option.bind_eq_some_iff.1 hx331_
                  refine s_join (fun (y : Unit) w_ g => ∃ ψ : Snap, ∃ l437_ : (ByteArray × Int × Int × Int × Int), Sub f431_ ψ ∧ l437_ = g ∧ St ψ (⟨Rep.obj 51 (Rep.prod (Rep.ro Ro.str) (Rep.prod (Rep.ro (Ro.int .i64)) (Rep.prod (Rep.ro (Ro.int .i64)) (Rep.prod (Rep.ro (Ro.int .i64)) (Rep.ro (Ro.int .i64)))))), [.pointer (some ⟨b120_, 0, none⟩)], l437_⟩ :: ⟨Rep.raw 25, [.pointer (some ⟨r20, 0, none⟩)], [.int .i64 t35.1, .int .i64 t35.2.1, .slice t35.2.2.1.1 t35.2.2.1.2.1 t35.2.2.1.2.2]⟩ :: ⟨Rep.raw 25, [.pointer (some ⟨r1, 0, none⟩)], [.int .i64 (0 : Int), .int .i64 (0 : Int), .slice none 0 0]⟩ :: F) w_) (g := g435_) ?_ ?_
                  · refine s_cond hx436_ rfl (fun hb451_ hx436_ => ?_) (fun hb451_ hx436_ => ?_)
                    · obtain ⟨r438_, hr439_, hx436_⟩ := Option.bind_eq_some_iff.1 hx436_
                      refine s_call (tronageref20_Reader_fail_sim  s432_ hr439_) ?_
                      rintro _ h440_ ⟨f441_, t38, d444_, le443_, rfl, rfl, s442_⟩
                      refine ⟨t38, rfl, ?_⟩
                      have s445_ := s442_.at2
                      have s446_ := s445_.at2
                      have s447_ := s446_.at2
                      obtain rfl := Option.some.inj hx436_
                      exact s_out (()) rfl ⟨f441_, d444_, le443_, rfl, s447_⟩
                    · have s448_ := s432_.at2
                      have s449_ := s448_.at2
                      have s450_ := s449_.at2
                      obtain rfl := Option.some.inj hx436_
                      exact s_out (()) rfl ⟨f431_, d434_, (Sub.refl _), rfl, s450_⟩
                  · rintro z37 h452_ ⟨f453_, d456_, le454_, rfl, s455_⟩
                    try dsimp only at hx331_
                    obtain ⟨b457_, vs458_, e459_, hl460_, s461_⟩ := s455_.open
                    obtain rfl : b120_ = b457_ := by simpa using e459_
                    clear e459_
                    have s462_ := s461_.at1
                    obtain ⟨v463_, w464_, rfl, hl466_, s465_⟩ := s462_.pair
                    obtain ⟨g467_, s468_⟩ := s465_.ro
                    subst g467_
                    obtain ⟨v470_, w471_, rfl, hl473_, s472_⟩ := s468_.pair
                    obtain ⟨g474_, s475_⟩ := s472_.ro
                    subst g474_
                    obtain ⟨v477_, w478_, rfl, hl480_, s479_⟩ := s475_.pair
                    obtain ⟨g481_, s482_⟩ := s479_.ro
                    subst g481_
                    obtain ⟨v484_, w485_, rfl, hl487_, s486_⟩ := s482_.pair
                    obtain ⟨g488_, s489_⟩ := s486_.ro
                    subst g488_
                    obtain ⟨g491_, s492_⟩ := s489_.ro
                    subst g491_
                    have s494_ : St f453_ (⟨Rep.raw 51, [.pointer (some ⟨b120_, 0, none⟩)], [.string (d456_.1), .int .i64 (d456_.2.1), .int .i64 (d456_.2.2.1), .int .i64 (d456_.2.2.2.1), .int .i64 (d456_.2.2.2.2)]⟩ :: ⟨Rep.raw 25, [.pointer (some ⟨r20, 0, none⟩)], [.int .i64 t35.1, .int .i64 t35.2.1, .slice t35.2.2.1.1 t35.2.2.1.2.1 t35.2.2.1.2.2]⟩ :: ⟨Rep.raw 25, [.pointer (some ⟨r1, 0, none⟩)], [.int .i64 (0 : Int), .int .i64 (0 : Int), .slice none 0 0]⟩ :: F) _ := s492_
                    refine t_deref _ rfl ?_
                    refine s_loadR (b := b120_) (j := 1) (x := (d456_.2.1)) s494_ rfl ?_
                    refine t_deref _ rfl ?_
                    refine s_put (b := b120_) (j := 1) (v := .int .i64 (IntKind.wrap .i64 ((d456_.2.1) + (1 : Int)))) s494_ rfl (show (1 : Nat) < 5 by decide) ?_
                    intro h496_ s495_
                    have s497_ := St.unro (r := (Ro.int .i64)) (cs := [.int .i64 (d456_.2.2.2.2)]) (x := (d456_.2.2.2.2)) s495_ rfl
                    have s498_ := St.unro (r := (Ro.int .i64)) (cs := [.int .i64 (d456_.2.2.2.1)]) (x := (d456_.2.2.2.1)) s497_ rfl
                    have s499_ := St.unpair s498_
                    have s500_ := St.unro (r := (Ro.int .i64)) (cs := [.int .i64 (d456_.2.2.1)]) (x := (d456_.2.2.1)) s499_ rfl
                    have s501_ := St.unpair s500_
                    have s502_ := St.unro (r := (Ro.int .i64)) (cs := [.int .i64 (IntKind.wrap .i64 ((d456_.2.1) + (1 : Int)))]) (x := (IntKind.wrap .i64 ((d456_.2.1) + (1 : Int)))) s501_ rfl
                    have s503_ := St.unpair s502_
                    have s504_ := St.unro (r := Ro.str) (cs := [.string (d456_.1)]) (x := (d456_.1)) s503_ rfl
                    have s505_ := St.unpair s504_
                    have s506_ : St f453_ (⟨Rep.obj 51 (Rep.prod (Rep.ro Ro.str) (Rep.prod (Rep.ro (Ro.int .i64)) (Rep.prod (Rep.ro (Ro.int .i64)) (Rep.prod (Rep.ro (Ro.int .i64)) (Rep.ro (Ro.int .i64)))))), [.pointer (some ⟨b120_, 0, none⟩)], ((d456_.1), (IntKind.wrap .i64 ((d456_.2.1) + (1 : Int))), (d456_.2.2.1), (d456_.2.2.2.1), (d456_.2.2.2.2))⟩ :: ⟨Rep.raw 25, [.pointer (some ⟨r20, 0, none⟩)], [.int .i64 t35.1, .int .i64 t35.2.1, .slice t35.2.2.1.1 t35.2.2.1.2.1 t35.2.2.1.2.2]⟩ :: ⟨Rep.raw 25, [.pointer (some ⟨r1, 0, none⟩)], [.int .i64 (0 : Int), .int .i64 (0 : Int), .slice none 0 0]⟩ :: F) _ := St.shut s505_.at1
                    have s507_ := St.unro (r := (Ro.list exRo)) (cs := [.slice t35.2.2.1.1 t35.2.2.1.2.1 t35.2.2.1.2.2]) (x := d390_) s506_ ⟨t35.2.2.1, rfl, (k392_.mono (le433_.trans le454_))⟩
                    have s508_ := St.unro (r := (Ro.int .i64)) (cs := [.int .i64 t35.2.1]) (x := t35.2.1) s507_ rfl
                    have s509_ := St.unpair s508_
                    have s510_ := St.unro (r := (Ro.int .i64)) (cs := [.int .i64 t35.1]) (x := t35.1) s509_ rfl
                    have s511_ := St.unpair s510_
                    have s512_ : St f453_ (⟨Rep.obj 25 (Rep.prod (Rep.ro (Ro.int .i64)) (Rep.prod (Rep.ro (Ro.int .i64)) (Rep.ro (Ro.list exRo)))), [.pointer (some ⟨r20, 0, none⟩)], (t35.1, t35.2.1, d390_)⟩ :: ⟨Rep.obj 51 (Rep.prod (Rep.ro Ro.str) (Rep.prod (Rep.ro (Ro.int .i64)) (Rep.prod (Rep.ro (Ro.int .i64)) (Rep.prod (Rep.ro (Ro.int .i64)) (Rep.ro (Ro.int .i64)))))), [.pointer (some ⟨b120_, 0, none⟩)], ((d456_.1), (IntKind.wrap .i64 ((d456_.2.1) + (1 : Int))), (d456_.2.2.1), (d456_.2.2.2.1), (d456_.2.2.2.2))⟩ :: ⟨Rep.raw 25, [.pointer (some ⟨r1, 0, none⟩)], [.int .i64 (0 : Int), .int .i64 (0 : Int), .slice none 0 0]⟩ :: F) _ := St.shut s511_.at2
                    have s513_ := s512_.at2
                    have s514_ := s513_.at1
                    have s515_ := s514_.at2
                    obtain rfl := Option.some.inj hx331_
                    exact s_out (()) rfl ⟨f453_, ((d456_.1), (IntKind.wrap .i64 ((d456_.2.1) + (1 : Int))), (d456_.2.2.1), (d456_.2.2.2.1), (d456_.2.2.2.2)), (t35.1, t35.2.1, d390_), ((le389_.trans le433_).trans le454_), rfl, s515_⟩
                · obtain ⟨g516_, hx517_, hx331_⟩ := Option.bind_eq_some_iff.1 hx331_
                  refine s_join (fun (y : Unit) w_ g => ∃ ψ : Snap, ∃ l518_ : (ByteArray × Int × Int × Int × Int), ∃ l519_ : (Int × Int × List Ex), Sub f103_ ψ ∧ (l518_, l519_) = g ∧ St ψ (⟨Rep.obj 51 (Rep.prod (Rep.ro Ro.str) (Rep.prod (Rep.ro (Ro.int .i64)) (Rep.prod (Rep.ro (Ro.int .i64)) (Rep.prod (Rep.ro (Ro.int .i64)) (Rep.ro (Ro.int .i64)))))), [.pointer (some ⟨b120_, 0, none⟩)], l518_⟩ :: ⟨Rep.obj 25 (Rep.prod (Rep.ro (Ro.int .i64)) (Rep.prod (Rep.ro (Ro.int .i64)) (Rep.ro (Ro.list exRo)))), [.pointer (some ⟨r20, 0, none⟩)], l519_⟩ :: ⟨Rep.raw 25, [.pointer (some ⟨r1, 0, none⟩)], [.int .i64 (0 : Int), .int .i64 (0 : Int), .slice none 0 0]⟩ :: F) w_) (g := g516_) ?_ ?_
                  · refine s_cond hx517_ rfl (fun hb778_ hx517_ => ?_) (fun hb778_ hx517_ => ?_)
                    · obtain ⟨b520_, vs521_, e522_, hl523_, s524_⟩ := s207_.at1.open
                      obtain rfl : b120_ = b520_ := by simpa using e522_
                      clear e522_
                      have s525_ := s524_.at1
                      obtain ⟨v526_, w527_, rfl, hl529_, s528_⟩ := s525_.pair
                      obtain ⟨g530_, s531_⟩ := s528_.ro
                      subst g530_
                      obtain ⟨v533_, w534_, rfl, hl536_, s535_⟩ := s531_.pair
                      obtain ⟨g537_, s538_⟩ := s535_.ro
                      subst g537_
                      obtain ⟨v540_, w541_, rfl, hl543_, s542_⟩ := s538_.pair
                      obtain ⟨g544_, s545_⟩ := s542_.ro
                      subst g544_
                      obtain ⟨v547_, w548_, rfl, hl550_, s549_⟩ := s545_.pair
                      obtain ⟨g551_, s552_⟩ := s549_.ro
                      subst g551_
                      obtain ⟨g554_, s555_⟩ := s552_.ro
                      subst g554_
                      have s557_ : St f103_ (⟨Rep.raw 51, [.pointer (some ⟨b120_, 0, none⟩)], [.string ((d13_.1)), .int .i64 ((d13_.2.1)), .int .i64 ((IntKind.wrap .i64 ((d13_.2.2.1) + (1 : Int)))), .int .i64 ((d13_.2.2.2.1)), .int .i64 ((d13_.2.2.2.2))]⟩ :: ⟨Rep.obj 25 (Rep.prod (Rep.ro (Ro.int .i64)) (Rep.prod (Rep.ro (Ro.int .i64)) (Rep.ro (Ro.list exRo)))), [.pointer (some ⟨r20, 0, none⟩)], ((1 : Int), (0 : Int), ([] : List Ex))⟩ :: ⟨Rep.raw 25, [.pointer (some ⟨r1, 0, none⟩)], [.int .i64 (0 : Int), .int .i64 (0 : Int), .slice none 0 0]⟩ :: F) _ := s555_
                      refine t_deref _ rfl ?_
                      refine s_loadR (b := b120_) (j := 1) (x := ((d13_.2.1))) s557_ rfl ?_
                      refine t_deref _ rfl ?_
                      refine s_put (b := b120_) (j := 1) (v := .int .i64 (IntKind.wrap .i64 (((d13_.2.1)) + (1 : Int)))) s557_ rfl (show (1 : Nat) < 5 by decide) ?_
                      intro h559_ s558_
                      have s560_ := St.unro (r := (Ro.int .i64)) (cs := [.int .i64 ((d13_.2.2.2.2))]) (x := ((d13_.2.2.2.2))) s558_ rfl
                      have s561_ := St.unro (r := (Ro.int .i64)) (cs := [.int .i64 ((d13_.2.2.2.1))]) (x := ((d13_.2.2.2.1))) s560_ rfl
                      have s562_ := St.unpair s561_
                      have s563_ := St.unro (r := (Ro.int .i64)) (cs := [.int .i64 ((IntKind.wrap .i64 ((d13_.2.2.1) + (1 : Int))))]) (x := ((IntKind.wrap .i64 ((d13_.2.2.1) + (1 : Int))))) s562_ rfl
                      have s564_ := St.unpair s563_
                      have s565_ := St.unro (r := (Ro.int .i64)) (cs := [.int .i64 (IntKind.wrap .i64 (((d13_.2.1)) + (1 : Int)))]) (x := (IntKind.wrap .i64 (((d13_.2.1)) + (1 : Int)))) s564_ rfl
                      have s566_ := St.unpair s565_
                      have s567_ := St.unro (r := Ro.str) (cs := [.string ((d13_.1))]) (x := ((d13_.1))) s566_ rfl
                      have s568_ := St.unpair s567_
                      have s569_ : St f103_ (⟨Rep.obj 51 (Rep.prod (Rep.ro Ro.str) (Rep.prod (Rep.ro (Ro.int .i64)) (Rep.prod (Rep.ro (Ro.int .i64)) (Rep.prod (Rep.ro (Ro.int .i64)) (Rep.ro (Ro.int .i64)))))), [.pointer (some ⟨b120_, 0, none⟩)], (((d13_.1)), (IntKind.wrap .i64 (((d13_.2.1)) + (1 : Int))), ((IntKind.wrap .i64 ((d13_.2.2.1) + (1 : Int)))), ((d13_.2.2.2.1)), ((d13_.2.2.2.2)))⟩ :: ⟨Rep.obj 25 (Rep.prod (Rep.ro (Ro.int .i64)) (Rep.prod (Rep.ro (Ro.int .i64)) (Rep.ro (Ro.list exRo)))), [.pointer (some ⟨r20, 0, none⟩)], ((1 : Int), (0 : Int), ([] : List Ex))⟩ :: ⟨Rep.raw 25, [.pointer (some ⟨r1, 0, none⟩)], [.int .i64 (0 : Int), .int .i64 (0 : Int), .slice none 0 0]⟩ :: F) _ := St.shut s568_.at1
                      obtain ⟨r570_, hr571_, hx517_⟩ := Option.bind_eq_some_iff.1 hx517_
                      refine s_call (tronageref20_Reader_number_sim  s569_ hr571_) ?_
                      rintro _ h572_ ⟨f573_, t46, d576_, le575_, rfl, rfl, s574_⟩
                      refine ⟨t46, rfl, ?_⟩
                      try dsimp only at hx517_
                      obtain ⟨b577_, vs578_, e579_, hl580_, s581_⟩ := s574_.at1.open
                      obtain rfl : r20 = b577_ := by simpa using e579_
                      clear e579_
                      have s582_ := s581_.at1
                      obtain ⟨v583_, w584_, rfl, hl586_, s585_⟩ := s582_.pair
                      obtain ⟨g587_, s588_⟩ := s585_.ro
                      subst g587_
                      obtain ⟨v590_, w591_, rfl, hl593_, s592_⟩ := s588_.pair
                      obtain ⟨g594_, s595_⟩ := s592_.ro
                      subst g594_
                      obtain ⟨g597_, s598_⟩ := s595_.ro
                      obtain ⟨t599_, e600_, k601_⟩ := g597_
                      subst e600_
                      have n602_ := k601_.length
                      have s603_ : St f573_ (⟨Rep.raw 25, [.pointer (some ⟨r20, 0, none⟩)], [.int .i64 ((1 : Int)), .int .i64 ((0 : Int)), .slice t599_.1 t599_.2.1 t599_.2.2]⟩ :: ⟨Rep.obj 51 (Rep.prod (Rep.ro Ro.str) (Rep.prod (Rep.ro (Ro.int .i64)) (Rep.prod (Rep.ro (Ro.int .i64)) (Rep.prod (Rep.ro (Ro.int .i64)) (Rep.ro (Ro.int .i64)))))), [.pointer (some ⟨b120_, 0, none⟩)], d576_⟩ :: ⟨Rep.raw 25, [.pointer (some ⟨r1, 0, none⟩)], [.int .i64 (0 : Int), .int .i64 (0 : Int), .slice none 0 0]⟩ :: F) _ := s598_
                      refine s_put (b := r20) (j := 0) (v := .int .i64 (2 : Int)) s603_ rfl (show (0 : Nat) < 3 by decide) ?_
                      intro h605_ s604_
                      refine s_put (b := r20) (j := 1) (v := .int .i64 t46) s604_ rfl (show (1 : Nat) < 3 by decide) ?_
                      intro h607_ s606_
                      refine s_put (b := r20) (j := 2) (v := .slice none 0 0) s606_ rfl (show (2 : Nat) < 3 by decide) ?_
                      intro h609_ s608_
                      have s610_ := St.unro (r := (Ro.list exRo)) (cs := [.slice ((none, 0, 0) : Slc).1 ((none, 0, 0) : Slc).2.1 ((none, 0, 0) : Slc).2.2]) (x := ([] : List Ex)) s608_ ⟨((none, 0, 0) : Slc), rfl, (Ro.SliceIs.nil exRo f573_)⟩
                      have s611_ := St.unro (r := (Ro.int .i64)) (cs := [.int .i64 t46]) (x := t46) s610_ rfl
                      have s612_ := St.unpair s611_
                      have s613_ := St.unro (r := (Ro.int .i64)) (cs := [.int .i64 (2 : Int)]) (x := (2 : Int)) s612_ rfl
                      have s614_ := St.unpair s613_
                      have s615_ : St f573_ (⟨Rep.obj 25 (Rep.prod (Rep.ro (Ro.int .i64)) (Rep.prod (Rep.ro (Ro.int .i64)) (Rep.ro (Ro.list exRo)))), [.pointer (some ⟨r20, 0, none⟩)], ((2 : Int), t46, ([] : List Ex))⟩ :: ⟨Rep.obj 51 (Rep.prod (Rep.ro Ro.str) (Rep.prod (Rep.ro (Ro.int .i64)) (Rep.prod (Rep.ro (Ro.int .i64)) (Rep.prod (Rep.ro (Ro.int .i64)) (Rep.ro (Ro.int .i64)))))), [.pointer (some ⟨b120_, 0, none⟩)], d576_⟩ :: ⟨Rep.raw 25, [.pointer (some ⟨r1, 0, none⟩)], [.int .i64 (0 : Int), .int .i64 (0 : Int), .slice none 0 0]⟩ :: F) _ := St.shut s614_.at1
                      have s616_ := s615_.at2
                      have s617_ := s616_.at1
                      have s618_ := s617_.at2
                      obtain rfl := Option.some.inj hx517_
                      exact s_out (()) rfl ⟨f573_, d576_, ((2 : Int), t46, ([] : List Ex)), le575_, rfl, s618_⟩
                    · obtain ⟨g619_, hx620_, hx517_⟩ := Option.bind_eq_some_iff.1 hx517_
                      refine s_join (fun (y : Unit) w_ g => ∃ ψ : Snap, ∃ l621_ : (ByteArray × Int × Int × Int × Int), ∃ l622_ : (Int × Int × List Ex), Sub f103_ ψ ∧ (l621_, l622_) = g ∧ St ψ (⟨Rep.obj 51 (Rep.prod (Rep.ro Ro.str) (Rep.prod (Rep.ro (Ro.int .i64)) (Rep.prod (Rep.ro (Ro.int .i64)) (Rep.prod (Rep.ro (Ro.int .i64)) (Rep.ro (Ro.int .i64)))))), [.pointer (some ⟨b120_, 0, none⟩)], l621_⟩ :: ⟨Rep.obj 25 (Rep.prod (Rep.ro (Ro.int .i64)) (Rep.prod (Rep.ro (Ro.int .i64)) (Rep.ro (Ro.list exRo)))), [.pointer (some ⟨r20, 0, none⟩)], l622_⟩ :: ⟨Rep.raw 25, [.pointer (some ⟨r1, 0, none⟩)], [.int .i64 (0 : Int), .int .i64 (0 : Int), .slice none 0 0]⟩ :: F) w_) (g := g619_) ?_ ?_
                      · refine s_cond hx620_ rfl (fun hb768_ hx620_ => ?_) (fun hb768_ hx620_ => ?_)
                        · obtain ⟨b623_, vs624_, e625_, hl626_, s627_⟩ := s207_.at1.open
                          obtain rfl : b120_ = b623_ := by simpa using e625_
                          clear e625_
                          have s628_ := s627_.at1
                          obtain ⟨v629_, w630_, rfl, hl632_, s631_⟩ := s628_.pair
                          obtain ⟨g633_, s634_⟩ := s631_.ro
                          subst g633_
                          obtain ⟨v636_, w637_, rfl, hl639_, s638_⟩ := s634_.pair
                          obtain ⟨g640_, s641_⟩ := s638_.ro
                          subst g640_
                          obtain ⟨v643_, w644_, rfl, hl646_, s645_⟩ := s641_.pair
                          obtain ⟨g647_, s648_⟩ := s645_.ro
                          subst g647_
                          obtain ⟨v650_, w651_, rfl, hl653_, s652_⟩ := s648_.pair
                          obtain ⟨g654_, s655_⟩ := s652_.ro
                          subst g654_
                          obtain ⟨g657_, s658_⟩ := s655_.ro
                          subst g657_
                          have s660_ : St f103_ (⟨Rep.raw 51, [.pointer (some ⟨b120_, 0, none⟩)], [.string ((d13_.1)), .int .i64 ((d13_.2.1)), .int .i64 ((IntKind.wrap .i64 ((d13_.2.2.1) + (1 : Int)))), .int .i64 ((d13_.2.2.2.1)), .int .i64 ((d13_.2.2.2.2))]⟩ :: ⟨Rep.obj 25 (Rep.prod (Rep.ro (Ro.int .i64)) (Rep.prod (Rep.ro (Ro.int .i64)) (Rep.ro (Ro.list exRo)))), [.pointer (some ⟨r20, 0, none⟩)], ((1 : Int), (0 : Int), ([] : List Ex))⟩ :: ⟨Rep.raw 25, [.pointer (some ⟨r1, 0, none⟩)], [.int .i64 (0 : Int), .int .i64 (0 : Int), .slice none 0 0]⟩ :: F) _ := s658_
                          refine t_deref _ rfl ?_
                          refine s_loadR (b := b120_) (j := 1) (x := ((d13_.2.1))) s660_ rfl ?_
                          refine t_deref _ rfl ?_
                          refine s_put (b := b120_) (j := 1) (v := .int .i64 (IntKind.wrap .i64 (((d13_.2.1)) + (1 : Int)))) s660_ rfl (show (1 : Nat) < 5 by decide) ?_
                          intro h662_ s661_
                          have s663_ := St.unro (r := (Ro.int .i64)) (cs := [.int .i64 ((d13_.2.2.2.2))]) (x := ((d13_.2.2.2.2))) s661_ rfl
                          have s664_ := St.unro (r := (Ro.int .i64)) (cs := [.int .i64 ((d13_.2.2.2.1))]) (x := ((d13_.2.2.2.1))) s663_ rfl
                          have s665_ := St.unpair s664_
                          have s666_ := St.unro (r := (Ro.int .i64)) (cs := [.int .i64 ((IntKind.wrap .i64 ((d13_.2.2.1) + (1 : Int))))]) (x := ((IntKind.wrap .i64 ((d13_.2.2.1) + (1 : Int))))) s665_ rfl
                          have s667_ := St.unpair s666_
                          have s668_ := St.unro (r := (Ro.int .i64)) (cs := [.int .i64 (IntKind.wrap .i64 (((d13_.2.1)) + (1 : Int)))]) (x := (IntKind.wrap .i64 (((d13_.2.1)) + (1 : Int)))) s667_ rfl
                          have s669_ := St.unpair s668_
                          have s670_ := St.unro (r := Ro.str) (cs := [.string ((d13_.1))]) (x := ((d13_.1))) s669_ rfl
                          have s671_ := St.unpair s670_
                          have s672_ : St f103_ (⟨Rep.obj 51 (Rep.prod (Rep.ro Ro.str) (Rep.prod (Rep.ro (Ro.int .i64)) (Rep.prod (Rep.ro (Ro.int .i64)) (Rep.prod (Rep.ro (Ro.int .i64)) (Rep.ro (Ro.int .i64)))))), [.pointer (some ⟨b120_, 0, none⟩)], (((d13_.1)), (IntKind.wrap .i64 (((d13_.2.1)) + (1 : Int))), ((IntKind.wrap .i64 ((d13_.2.2.1) + (1 : Int)))), ((d13_.2.2.2.1)), ((d13_.2.2.2.2)))⟩ :: ⟨Rep.obj 25 (Rep.prod (Rep.ro (Ro.int .i64)) (Rep.prod (Rep.ro (Ro.int .i64)) (Rep.ro (Ro.list exRo)))), [.pointer (some ⟨r20, 0, none⟩)], ((1 : Int), (0 : Int), ([] : List Ex))⟩ :: ⟨Rep.raw 25, [.pointer (some ⟨r1, 0, none⟩)], [.int .i64 (0 : Int), .int .i64 (0 : Int), .slice none 0 0]⟩ :: F) _ := St.shut s671_.at1
                          obtain ⟨r673_, hr674_, hx620_⟩ := Option.bind_eq_some_iff.1 hx620_
                          refine s_call (tronageref20_Reader_number_sim  s672_ hr674_) ?_
                          rintro _ h675_ ⟨f676_, t51, d679_, le678_, rfl, rfl, s677_⟩
                          refine ⟨t51, rfl, ?_⟩
                          try dsimp only at hx620_
                          obtain ⟨b680_, vs681_, e682_, hl683_, s684_⟩ := s677_.at1.open
                          obtain rfl : r20 = b680_ := by simpa using e682_
                          clear e682_
                          have s685_ := s684_.at1
                          obtain ⟨v686_, w687_, rfl, hl689_, s688_⟩ := s685_.pair
                          obtain ⟨g690_, s691_⟩ := s688_.ro
                          subst g690_
                          obtain ⟨v693_, w694_, rfl, hl696_, s695_⟩ := s691_.pair
                          obtain ⟨g697_, s698_⟩ := s695_.ro
                          subst g697_
                          obtain ⟨g700_, s701_⟩ := s698_.ro
                          obtain ⟨t702_, e703_, k704_⟩ := g700_
                          subst e703_
                          have n705_ := k704_.length
                          have s706_ : St f676_ (⟨Rep.raw 25, [.pointer (some ⟨r20, 0, none⟩)], [.int .i64 ((1 : Int)), .int .i64 ((0 : Int)), .slice t702_.1 t702_.2.1 t702_.2.2]⟩ :: ⟨Rep.obj 51 (Rep.prod (Rep.ro Ro.str) (Rep.prod (Rep.ro (Ro.int .i64)) (Rep.prod (Rep.ro (Ro.int .i64)) (Rep.prod (Rep.ro (Ro.int .i64)) (Rep.ro (Ro.int .i64)))))), [.pointer (some ⟨b120_, 0, none⟩)], d679_⟩ :: ⟨Rep.raw 25, [.pointer (some ⟨r1, 0, none⟩)], [.int .i64 (0 : Int), .int .i64 (0 : Int), .slice none 0 0]⟩ :: F) _ := s701_
                          refine s_put (b := r20) (j := 0) (v := .int .i64 (3 : Int)) s706_ rfl (show (0 : Nat) < 3 by decide) ?_
                          intro h708_ s707_
                          refine s_put (b := r20) (j := 1) (v := .int .i64 t51) s707_ rfl (show (1 : Nat) < 3 by decide) ?_
                          intro h710_ s709_
                          refine s_put (b := r20) (j := 2) (v := .slice none 0 0) s709_ rfl (show (2 : Nat) < 3 by decide) ?_
                          intro h712_ s711_
                          have s713_ := St.unro (r := (Ro.list exRo)) (cs := [.slice ((none, 0, 0) : Slc).1 ((none, 0, 0) : Slc).2.1 ((none, 0, 0) : Slc).2.2]) (x := ([] : List Ex)) s711_ ⟨((none, 0, 0) : Slc), rfl, (Ro.SliceIs.nil exRo f676_)⟩
                          have s714_ := St.unro (r := (Ro.int .i64)) (cs := [.int .i64 t51]) (x := t51) s713_ rfl
                          have s715_ := St.unpair s714_
                          have s716_ := St.unro (r := (Ro.int .i64)) (cs := [.int .i64 (3 : Int)]) (x := (3 : Int)) s715_ rfl
                          have s717_ := St.unpair s716_
                          have s718_ : St f676_ (⟨Rep.obj 25 (Rep.prod (Rep.ro (Ro.int .i64)) (Rep.prod (Rep.ro (Ro.int .i64)) (Rep.ro (Ro.list exRo)))), [.pointer (some ⟨r20, 0, none⟩)], ((3 : Int), t51, ([] : List Ex))⟩ :: ⟨Rep.obj 51 (Rep.prod (Rep.ro Ro.str) (Rep.prod (Rep.ro (Ro.int .i64)) (Rep.prod (Rep.ro (Ro.int .i64)) (Rep.prod (Rep.ro (Ro.int .i64)) (Rep.ro (Ro.int .i64)))))), [.pointer (some ⟨b120_, 0, none⟩)], d679_⟩ :: ⟨Rep.raw 25, [.pointer (some ⟨r1, 0, none⟩)], [.int .i64 (0 : Int), .int .i64 (0 : Int), .slice none 0 0]⟩ :: F) _ := St.shut s717_.at1
                          have s719_ := s718_.at2
                          have s720_ := s719_.at1
                          have s721_ := s720_.at2
                          obtain rfl := Option.some.inj hx620_
                          exact s_out (()) rfl ⟨f676_, d679_, ((3 : Int), t51, ([] : List Ex)), le678_, rfl, s721_⟩
                        · have s722_ := s207_.at1
                          obtain ⟨r723_, hr724_, hx620_⟩ := Option.bind_eq_some_iff.1 hx620_
                          refine s_call (tronageref20_Reader_number_sim  s722_ hr724_) ?_
                          rintro _ h725_ ⟨f726_, t52, d729_, le728_, rfl, rfl, s727_⟩
                          refine ⟨t52, rfl, ?_⟩
                          try dsimp only at hx620_
                          obtain ⟨b730_, vs731_, e732_, hl733_, s734_⟩ := s727_.at1.open
                          obtain rfl : r20 = b730_ := by simpa using e732_
                          clear e732_
                          have s735_ := s734_.at1
                          obtain ⟨v736_, w737_, rfl, hl739_, s738_⟩ := s735_.pair
                          obtain ⟨g740_, s741_⟩ := s738_.ro
                          subst g740_
                          obtain ⟨v743_, w744_, rfl, hl746_, s745_⟩ := s741_.pair
                          obtain ⟨g747_, s748_⟩ := s745_.ro
                          subst g747_
                          obtain ⟨g750_, s751_⟩ := s748_.ro
                          obtain ⟨t752_, e753_, k754_⟩ := g750_
                          subst e753_
                          have n755_ := k754_.length
                          have s756_ : St f726_ (⟨Rep.raw 25, [.pointer (some ⟨r20, 0, none⟩)], [.int .i64 ((1 : Int)), .int .i64 ((0 : Int)), .slice t752_.1 t752_.2.1 t752_.2.2]⟩ :: ⟨Rep.obj 51 (Rep.prod (Rep.ro Ro.str) (Rep.prod (Rep.ro (Ro.int .i64)) (Rep.prod (Rep.ro (Ro.int .i64)) (Rep.prod (Rep.ro (Ro.int .i64)) (Rep.ro (Ro.int .i64)))))), [.pointer (some ⟨b120_, 0, none⟩)], d729_⟩ :: ⟨Rep.raw 25, [.pointer (some ⟨r1, 0, none⟩)], [.int .i64 (0 : Int), .int .i64 (0 : Int), .slice none 0 0]⟩ :: F) _ := s751_
                          refine s_put (b := r20) (j := 1) (v := .int .i64 t52) s756_ rfl (show (1 : Nat) < 3 by decide) ?_
                          intro h758_ s757_
                          have s759_ := St.unro (r := (Ro.list exRo)) (cs := [.slice t752_.1 t752_.2.1 t752_.2.2]) (x := ([] : List Ex)) s757_ ⟨t752_, rfl, k754_⟩
                          have s760_ := St.unro (r := (Ro.int .i64)) (cs := [.int .i64 t52]) (x := t52) s759_ rfl
                          have s761_ := St.unpair s760_
                          have s762_ := St.unro (r := (Ro.int .i64)) (cs := [.int .i64 ((1 : Int))]) (x := ((1 : Int))) s761_ rfl
                          have s763_ := St.unpair s762_
                          have s764_ : St f726_ (⟨Rep.obj 25 (Rep.prod (Rep.ro (Ro.int .i64)) (Rep.prod (Rep.ro (Ro.int .i64)) (Rep.ro (Ro.list exRo)))), [.pointer (some ⟨r20, 0, none⟩)], (((1 : Int)), t52, ([] : List Ex))⟩ :: ⟨Rep.obj 51 (Rep.prod (Rep.ro Ro.str) (Rep.prod (Rep.ro (Ro.int .i64)) (Rep.prod (Rep.ro (Ro.int .i64)) (Rep.prod (Rep.ro (Ro.int .i64)) (Rep.ro (Ro.int .i64)))))), [.pointer (some ⟨b120_, 0, none⟩)], d729_⟩ :: ⟨Rep.raw 25, [.pointer (some ⟨r1, 0, none⟩)], [.int .i64 (0 : Int), .int .i64 (0 : Int), .slice none 0 0]⟩ :: F) _ := St.shut s763_.at1
                          have s765_ := s764_.at2
                          have s766_ := s765_.at1
                          have s767_ := s766_.at2
                          obtain rfl := Option.some.inj hx620_
                          exact s_out (()) rfl ⟨f726_, d729_, (((1 : Int)), t52, ([] : List Ex)), le728_, rfl, s767_⟩
                      · rintro z47 h769_ ⟨f770_, d773_, d774_, le771_, rfl, s772_⟩
                        try dsimp only at hx517_
                        have s775_ := s772_.at2
                        have s776_ := s775_.at2
                        have s777_ := s776_.at2
                        obtain rfl := Option.some.inj hx517_
                        exact s_out (()) rfl ⟨f770_, d773_, d774_, le771_, rfl, s777_⟩
                  · rintro z42 h779_ ⟨f780_, d783_, d784_, le781_, rfl, s782_⟩
                    try dsimp only at hx331_
                    have s785_ := s782_.at2
                    have s786_ := s785_.at2
                    have s787_ := s786_.at2
                    obtain rfl := Option.some.inj hx331_
                    exact s_out (()) rfl ⟨f780_, d783_, d784_, le781_, rfl, s787_⟩
              · rintro z31 h789_ ⟨f790_, d793_, d794_, le791_, rfl, s792_⟩
                try dsimp only at hx209_
                have s795_ := s792_.at2
                have s796_ := s795_.at2
                have s797_ := s796_.at2
                obtain rfl := Option.some.inj hx209_
                exact s_out (()) rfl ⟨f790_, d793_, d794_, le791_, rfl, s797_⟩
          · rintro z21 h799_ ⟨f800_, d803_, d804_, le801_, rfl, s802_⟩
            try dsimp only at hd
            obtain ⟨b805_, vs806_, e807_, hl808_, s809_⟩ := s802_.open
            obtain rfl : b120_ = b805_ := by simpa using e807_
            clear e807_
            have s810_ := s809_.at1
            obtain ⟨v811_, w812_, rfl, hl814_, s813_⟩ := s810_.pair
            obtain ⟨g815_, s816_⟩ := s813_.ro
            subst g815_
            obtain ⟨v818_, w819_, rfl, hl821_, s820_⟩ := s816_.pair
            obtain ⟨g822_, s823_⟩ := s820_.ro
            subst g822_
            obtain ⟨v825_, w826_, rfl, hl828_, s827_⟩ := s823_.pair
            obtain ⟨g829_, s830_⟩ := s827_.ro
            subst g829_
            obtain ⟨v832_, w833_, rfl, hl835_, s834_⟩ := s830_.pair
            obtain ⟨g836_, s837_⟩ := s834_.ro
            subst g836_
            obtain ⟨g839_, s840_⟩ := s837_.ro
            subst g839_
            have s842_ : St f800_ (⟨Rep.raw 51, [.pointer (some ⟨b120_, 0, none⟩)], [.string (d803_.1), .int .i64 (d803_.2.1), .int .i64 (d803_.2.2.1), .int .i64 (d803_.2.2.2.1), .int .i64 (d803_.2.2.2.2)]⟩ :: ⟨Rep.obj 25 (Rep.prod (Rep.ro (Ro.int .i64)) (Rep.prod (Rep.ro (Ro.int .i64)) (Rep.ro (Ro.list exRo)))), [.pointer (some ⟨r20, 0, none⟩)], d804_⟩ :: ⟨Rep.raw 25, [.pointer (some ⟨r1, 0, none⟩)], [.int .i64 (0 : Int), .int .i64 (0 : Int), .slice none 0 0]⟩ :: F) _ := s840_
            refine t_deref _ rfl ?_
            refine s_loadR (b := b120_) (j := 2) (x := (d803_.2.2.1)) s842_ rfl ?_
            refine t_deref _ rfl ?_
            refine s_put (b := b120_) (j := 2) (v := .int .i64 (IntKind.wrap .i64 ((d803_.2.2.1) - (1 : Int)))) s842_ rfl (show (2 : Nat) < 5 by decide) ?_
            intro h844_ s843_
            obtain ⟨b845_, vs846_, e847_, hl848_, s849_⟩ := s843_.at1.open
            obtain rfl : r20 = b845_ := by simpa using e847_
            clear e847_
            have s850_ := s849_.at1
            obtain ⟨v851_, w852_, rfl, hl854_, s853_⟩ := s850_.pair
            obtain ⟨g855_, s856_⟩ := s853_.ro
            subst g855_
            obtain ⟨v858_, w859_, rfl, hl861_, s860_⟩ := s856_.pair
            obtain ⟨g862_, s863_⟩ := s860_.ro
            subst g862_
            obtain ⟨g865_, s866_⟩ := s863_.ro
            obtain ⟨t867_, e868_, k869_⟩ := g865_
            subst e868_
            have n870_ := k869_.length
            have s871_ : St f800_ (⟨Rep.raw 25, [.pointer (some ⟨r20, 0, none⟩)], [.int .i64 (d804_.1), .int .i64 (d804_.2.1), .slice t867_.1 t867_.2.1 t867_.2.2]⟩ :: ⟨Rep.raw 51, [.pointer (some ⟨b120_, 0, none⟩)], [.string (d803_.1), .int .i64 (d803_.2.1), .int .i64 (IntKind.wrap .i64 ((d803_.2.2.1) - (1 : Int))), .int .i64 (d803_.2.2.2.1), .int .i64 (d803_.2.2.2.2)]⟩ :: ⟨Rep.raw 25, [.pointer (some ⟨r1, 0, none⟩)], [.int .i64 (0 : Int), .int .i64 (0 : Int), .slice none 0 0]⟩ :: F) _ := s866_
            refine s_loadR (b := r20) (j := 0) (x := (d804_.1)) s871_ rfl ?_
            refine s_loadR (b := r20) (j := 1) (x := (d804_.2.1)) s871_ rfl ?_
            refine s_loadR (b := r20) (j := 2) (x := t867_) s871_ rfl ?_
            refine s_put (b := r1) (j := 0) (v := .int .i64 (d804_.1)) s871_.at2 rfl (show (0 : Nat) < 3 by decide) ?_
            intro h873_ s872_
            refine s_put (b := r1) (j := 1) (v := .int .i64 (d804_.2.1)) s872_ rfl (show (1 : Nat) < 3 by decide) ?_
            intro h875_ s874_
            refine s_put (b := r1) (j := 2) (v := .slice t867_.1 t867_.2.1 t867_.2.2) s874_ rfl (show (2 : Nat) < 3 by decide) ?_
            intro h877_ s876_
            refine s_loadR (b := r1) (j := 0) (x := (d804_.1)) s876_ rfl ?_
            refine s_loadR (b := r1) (j := 1) (x := (d804_.2.1)) s876_ rfl ?_
            refine s_loadR (b := r1) (j := 2) (x := t867_) s876_ rfl ?_
            have s878_ := St.unro (r := (Ro.int .i64)) (cs := [.int .i64 (d803_.2.2.2.2)]) (x := (d803_.2.2.2.2)) s876_ rfl
            have s879_ := St.unro (r := (Ro.int .i64)) (cs := [.int .i64 (d803_.2.2.2.1)]) (x := (d803_.2.2.2.1)) s878_ rfl
            have s880_ := St.unpair s879_
            have s881_ := St.unro (r := (Ro.int .i64)) (cs := [.int .i64 (IntKind.wrap .i64 ((d803_.2.2.1) - (1 : Int)))]) (x := (IntKind.wrap .i64 ((d803_.2.2.1) - (1 : Int)))) s880_ rfl
            have s882_ := St.unpair s881_
            have s883_ := St.unro (r := (Ro.int .i64)) (cs := [.int .i64 (d803_.2.1)]) (x := (d803_.2.1)) s882_ rfl
            have s884_ := St.unpair s883_
            have s885_ := St.unro (r := Ro.str) (cs := [.string (d803_.1)]) (x := (d803_.1)) s884_ rfl
            have s886_ := St.unpair s885_
            have s887_ : St f800_ (⟨Rep.obj 51 (Rep.prod (Rep.ro Ro.str) (Rep.prod (Rep.ro (Ro.int .i64)) (Rep.prod (Rep.ro (Ro.int .i64)) (Rep.prod (Rep.ro (Ro.int .i64)) (Rep.ro (Ro.int .i64)))))), [.pointer (some ⟨b120_, 0, none⟩)], ((d803_.1), (d803_.2.1), (IntKind.wrap .i64 ((d803_.2.2.1) - (1 : Int))), (d803_.2.2.2.1), (d803_.2.2.2.2))⟩ :: ⟨Rep.raw 25, [.pointer (some ⟨r1, 0, none⟩)], [.int .i64 (d804_.1), .int .i64 (d804_.2.1), .slice t867_.1 t867_.2.1 t867_.2.2]⟩ :: ⟨Rep.raw 25, [.pointer (some ⟨r20, 0, none⟩)], [.int .i64 (d804_.1), .int .i64 (d804_.2.1), .slice t867_.1 t867_.2.1 t867_.2.2]⟩ :: F) _ := St.shut s886_.at3
            obtain rfl := Option.some.inj hd
            have s888_ := s887_.at1.tail
            have s889_ := s888_.at1.tail
            exact finOf_back ⟨f800_, ((d804_.1), (d804_.2.1), t867_, ()), d804_.2.2, ((d803_.1), (d803_.2.1), (IntKind.wrap .i64 ((d803_.2.2.1) - (1 : Int))), (d803_.2.2.2.1), (d803_.2.2.2.2)), (((le12_.trans le35_).trans le104_).trans le801_), rfl, rfl, k869_, s889_⟩
noncomputable def tronageref20_Reader_factor_D : Nat → (ByteArray × Int × Int × Int × Int) → Option (Int × Int × List Ex × (ByteArray × Int × Int × Int × Int))
  | 0 => fun _ => none
  | n + 1 => tronageref20_Reader_factor_B (tronageref20_Reader_factor_D n)
theorem tronageref20_Reader_factor_sim : ∀ n, tronageref20_Reader_factor_C (tronageref20_Reader_factor_D n)
  | 0 => by intro  s0 r hd; cases hd
  | n + 1 => by intro  s0 r hd; exact tronageref20_Reader_factor_step (tronageref20_Reader_factor_sim n)  s0 hd

end Go.Proofs.YtkhfdckieocciaaDoor
