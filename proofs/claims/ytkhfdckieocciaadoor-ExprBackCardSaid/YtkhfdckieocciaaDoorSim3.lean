import Derived.Test.YtkhfdckieocciaaDoorBase
import Derived.Test.YtkhfdckieocciaaDoorSim0
import Derived.Test.YtkhfdckieocciaaDoorSim1
import Derived.Test.YtkhfdckieocciaaDoorSim2
import Derived.Test.YtkhfdckieocciaaDoorLater
import Derived.KernelRfl
namespace Go.Proofs.YtkhfdckieocciaaDoor
open Go Go.Eng
set_option linter.unusedVariables false
set_option maxRecDepth 100000


noncomputable def expr_Read_D (fuel : Nat) (s_0 : ByteArray) : Option (Int × Int × List Ex × Int × Int) :=
  cond (decide (((ByteArray.size s_0 : Nat) : Int) > (200 : Int)))
  (some ((0 : Int), (0 : Int), ([] : List Ex), (12 : Int), (0 : Int)))
  (((((expr_reader_now_D (s_0, (0 : Int), (0 : Int))).bind fun t11 =>
    cond (t11.1 == (0 : Int))
    (some (((t11.2.2.1) == ((ByteArray.size s_0 : Nat) : Int)), ((t11.2.1), (t11.2.2.1), (t11.2.2.2))))
    (some (false, t11.2))).bind fun z10 =>
    cond z10.1
    (some (Step.next (((0 : Int), (0 : Int), ([] : List Ex)), (0 : Int), (0 : Int))))
    ((expr_reader_sum_D (expr_reader_factor_D fuel) z10.2).bind fun e_t13 => match e_t13 with
      | .next t13 =>
        (expr_reader_now_D t13.2.2.2).bind fun t14 =>
        ((cond (decide ((t14.2.2.1) < ((ByteArray.size s_0 : Nat) : Int)))
        ((expr_reader_fail_D ((t14.2.1), (t14.2.2.1), (t14.2.2.2)) (30 : Int)).bind fun e_t17 => match e_t17 with
          | .next t17 =>
            some (Step.next ())
          | .done p_t17 => some (Step.done p_t17))
        (some (Step.next ()))) : Option (Step Unit (Int × Int))).bind fun e_z16 => match e_z16 with
        | .next z16 =>
          some (Step.next ((t13.1, t13.2.1, t13.2.2.1), (0 : Int), (0 : Int)))
        | .done q329 => some (Step.done q329)
      | .done p_t13 => some (Step.done p_t13))) : Option (Step ((Int × Int × List Ex) × Int × Int) (Int × Int))).bind fun e_w341 => match e_w341 with
    | .next w341 =>
      some ((w341.1.1), (w341.1.2.1), w341.1.2.2, (w341.2.1), (w341.2.2))
    | .done p_w341 =>
      some (0, 0, ([] : List Ex), p_w341.1, p_w341.2))
theorem expr_Read_sim (fuel : Nat) {φ : Snap} {h : Heap} {F : List Chk} {s_0 : ByteArray}  (s0 : St φ (F) h) {r : (Int × Int × List Ex × Int × Int)} (hd : expr_Read_D fuel s_0 = some r) :
    CallsH Tryd.prog 11 [(.string s_0)] h (Back fun v h' => ∃ ψ : Snap, ∃ y : (Int × Int × (Option Addr × Nat × Nat) × Unit) × Int × Int × Unit, ∃ l1_ : List Ex, Sub φ ψ ∧ v = ((.tuple [(.agg [(.int .i64), (.int .i64), .slice]), (.atom (.int .i64)), (.atom (.int .i64))]) : Sh).val y ∧ (y.1.1, y.1.2.1, l1_, y.2.1, y.2.2.1) = r ∧ Ro.SliceIs exRo ψ y.1.2.2.1 l1_ ∧ St ψ (F) h') := by
  refine calls_ofD mixed Tryd.func11 ?_
  rw [expr_Read_den]
  unfold expr_Read_T
  unfold expr_Read_D at hd
  try dsimp only [Ex.kind_mk, Ex.n_mk, Ex.kids_mk] at hd
  refine s_new (vs := [.int .i64 (0 : Int), .int .i64 (0 : Int), .slice none 0 0]) s0 ?_
  intro r1 h3_ s2_
  refine s_new (vs := [.int .i64 (0 : Int)]) s2_ ?_
  intro r2 h5_ s4_
  refine s_new (vs := [.int .i64 (0 : Int)]) s4_ ?_
  intro r3 h7_ s6_
  refine s_cond hd rfl (fun hb464_ hd => ?_) (fun hb464_ hd => ?_)
  · refine s_put (b := r1) (j := 0) (v := .int .i64 (0 : Int)) s6_.at2 rfl (show (0 : Nat) < 3 by decide) ?_
    intro h9_ s8_
    refine s_put (b := r1) (j := 1) (v := .int .i64 (0 : Int)) s8_ rfl (show (1 : Nat) < 3 by decide) ?_
    intro h11_ s10_
    refine s_put (b := r1) (j := 2) (v := .slice none 0 0) s10_ rfl (show (2 : Nat) < 3 by decide) ?_
    intro h13_ s12_
    refine s_put (b := r2) (j := 0) (v := .int .i64 (12 : Int)) s12_.at2 rfl (show (0 : Nat) < 1 by decide) ?_
    intro h15_ s14_
    refine s_put (b := r3) (j := 0) (v := .int .i64 (0 : Int)) s14_.at2 rfl (show (0 : Nat) < 1 by decide) ?_
    intro h17_ s16_
    refine s_loadR (b := r1) (j := 0) (x := (0 : Int)) s16_.at2 rfl ?_
    refine s_loadR (b := r1) (j := 1) (x := (0 : Int)) s16_.at2 rfl ?_
    refine s_loadR (b := r1) (j := 2) (x := ((none, 0, 0) : Slc)) s16_.at2 rfl ?_
    refine s_loadR (b := r2) (j := 0) (x := (12 : Int)) s16_.at1 rfl ?_
    refine s_loadR (b := r3) (j := 0) (x := (0 : Int)) s16_ rfl ?_
    obtain rfl := Option.some.inj hd
    have s18_ := s16_.tail
    have s19_ := s18_.tail
    have s20_ := s19_.tail
    exact finOf_back ⟨φ, (((0 : Int), (0 : Int), ((none, 0, 0) : Slc), ()), (12 : Int), (0 : Int), ()), ([] : List Ex), (Sub.refl _), rfl, rfl, (Ro.SliceIs.nil exRo φ), s20_⟩
  · have s21_ := St.unro (r := (Ro.list exRo)) (cs := [.slice ((none, 0, 0) : Slc).1 ((none, 0, 0) : Slc).2.1 ((none, 0, 0) : Slc).2.2]) (x := ([] : List Ex)) s6_ ⟨((none, 0, 0) : Slc), rfl, (Ro.SliceIs.nil exRo φ)⟩
    have s22_ := St.unro (r := (Ro.int .i64)) (cs := [.int .i64 (0 : Int)]) (x := (0 : Int)) s21_ rfl
    have s23_ := St.unpair s22_
    have s24_ := St.unro (r := (Ro.int .i64)) (cs := [.int .i64 (0 : Int)]) (x := (0 : Int)) s23_ rfl
    have s25_ := St.unpair s24_
    have s26_ : St φ (⟨Rep.obj 25 (Rep.prod (Rep.ro (Ro.int .i64)) (Rep.prod (Rep.ro (Ro.int .i64)) (Rep.ro (Ro.list exRo)))), [.pointer (some ⟨r1, 0, none⟩)], ((0 : Int), (0 : Int), ([] : List Ex))⟩ :: ⟨Rep.raw 3, [.pointer (some ⟨r3, 0, none⟩)], [.int .i64 (0 : Int)]⟩ :: ⟨Rep.raw 26, [.pointer (some ⟨r2, 0, none⟩)], [.int .i64 (0 : Int)]⟩ :: F) _ := St.shut s25_.at3
    have s27_ := St.unro (r := (Ro.int .i64)) (cs := [.int .i64 (0 : Int)]) (x := (0 : Int)) s26_ rfl
    have s28_ : St φ (⟨Rep.obj 26 (Rep.ro (Ro.int .i64)), [.pointer (some ⟨r2, 0, none⟩)], (0 : Int)⟩ :: ⟨Rep.obj 25 (Rep.prod (Rep.ro (Ro.int .i64)) (Rep.prod (Rep.ro (Ro.int .i64)) (Rep.ro (Ro.list exRo)))), [.pointer (some ⟨r1, 0, none⟩)], ((0 : Int), (0 : Int), ([] : List Ex))⟩ :: ⟨Rep.raw 3, [.pointer (some ⟨r3, 0, none⟩)], [.int .i64 (0 : Int)]⟩ :: F) _ := St.shut s27_.at3
    have s29_ := St.unro (r := (Ro.int .i64)) (cs := [.int .i64 (0 : Int)]) (x := (0 : Int)) s28_ rfl
    have s30_ : St φ (⟨Rep.obj 3 (Rep.ro (Ro.int .i64)), [.pointer (some ⟨r3, 0, none⟩)], (0 : Int)⟩ :: ⟨Rep.obj 26 (Rep.ro (Ro.int .i64)), [.pointer (some ⟨r2, 0, none⟩)], (0 : Int)⟩ :: ⟨Rep.obj 25 (Rep.prod (Rep.ro (Ro.int .i64)) (Rep.prod (Rep.ro (Ro.int .i64)) (Rep.ro (Ro.list exRo)))), [.pointer (some ⟨r1, 0, none⟩)], ((0 : Int), (0 : Int), ([] : List Ex))⟩ :: F) _ := St.shut s29_.at3
    obtain ⟨g31_, hx32_, hd⟩ := Option.bind_eq_some_iff.1 hd
    refine s_later (fun w_ => ∃ ψ : Snap, ∃ l33_ : (Int × Int × List Ex), ∃ l34_ : Int, ∃ l35_ : Int, Sub φ ψ ∧ Step.next (l33_, l34_, l35_) = g31_ ∧ St ψ (⟨Rep.obj 25 (Rep.prod (Rep.ro (Ro.int .i64)) (Rep.prod (Rep.ro (Ro.int .i64)) (Rep.ro (Ro.list exRo)))), [.pointer (some ⟨r1, 0, none⟩)], l33_⟩ :: ⟨Rep.obj 26 (Rep.ro (Ro.int .i64)), [.pointer (some ⟨r2, 0, none⟩)], l34_⟩ :: ⟨Rep.obj 3 (Rep.ro (Ro.int .i64)), [.pointer (some ⟨r3, 0, none⟩)], l35_⟩ :: F) w_) (fun c w_ => ∃ ψ : Snap, ∃ code at_ : Int, ∃ l33_ : (Int × Int × List Ex), ∃ l34_ : Int, ∃ l35_ : Int, Sub φ ψ ∧ c = [{ v := .iface 41 (.agg #[.int .i64 code, .int .i64 at_]), recovered := false }] ∧ Step.done (code, at_) = g31_ ∧ St ψ (⟨Rep.obj 25 (Rep.prod (Rep.ro (Ro.int .i64)) (Rep.prod (Rep.ro (Ro.int .i64)) (Rep.ro (Ro.list exRo)))), [.pointer (some ⟨r1, 0, none⟩)], l33_⟩ :: ⟨Rep.obj 26 (Rep.ro (Ro.int .i64)), [.pointer (some ⟨r2, 0, none⟩)], l34_⟩ :: ⟨Rep.obj 3 (Rep.ro (Ro.int .i64)), [.pointer (some ⟨r3, 0, none⟩)], l35_⟩ :: F) w_) ?_ ?_ ?_
    · refine s_new (vs := [.string s_0, .int .i64 (0 : Int), .int .i64 (0 : Int)]) s30_ ?_
      intro r9 h37_ s36_
      have s38_ := St.unro (r := (Ro.int .i64)) (cs := [.int .i64 (0 : Int)]) (x := (0 : Int)) s36_ rfl
      have s39_ := St.unro (r := (Ro.int .i64)) (cs := [.int .i64 (0 : Int)]) (x := (0 : Int)) s38_ rfl
      have s40_ := St.unpair s39_
      have s41_ := St.unro (r := Ro.str) (cs := [.string s_0]) (x := s_0) s40_ rfl
      have s42_ := St.unpair s41_
      have s43_ : St φ (⟨Rep.obj 45 (Rep.prod (Rep.ro Ro.str) (Rep.prod (Rep.ro (Ro.int .i64)) (Rep.ro (Ro.int .i64)))), [.pointer (some ⟨r9, 0, none⟩)], (s_0, (0 : Int), (0 : Int))⟩ :: ⟨Rep.obj 3 (Rep.ro (Ro.int .i64)), [.pointer (some ⟨r3, 0, none⟩)], (0 : Int)⟩ :: ⟨Rep.obj 26 (Rep.ro (Ro.int .i64)), [.pointer (some ⟨r2, 0, none⟩)], (0 : Int)⟩ :: ⟨Rep.obj 25 (Rep.prod (Rep.ro (Ro.int .i64)) (Rep.prod (Rep.ro (Ro.int .i64)) (Rep.ro (Ro.list exRo)))), [.pointer (some ⟨r1, 0, none⟩)], ((0 : Int), (0 : Int), ([] : List Ex))⟩ :: F) _ := St.shut s42_.at1
      obtain ⟨g44_, hx45_, hx32_⟩ := Option.bind_eq_some_iff.1 hx32_
      refine s_join (fun (y : Bool × Unit) w_ g => ∃ ψ : Snap, ∃ l46_ : (ByteArray × Int × Int), Sub φ ψ ∧ (y.1, l46_) = g ∧ St ψ (⟨Rep.obj 45 (Rep.prod (Rep.ro Ro.str) (Rep.prod (Rep.ro (Ro.int .i64)) (Rep.ro (Ro.int .i64)))), [.pointer (some ⟨r9, 0, none⟩)], l46_⟩ :: ⟨Rep.obj 3 (Rep.ro (Ro.int .i64)), [.pointer (some ⟨r3, 0, none⟩)], (0 : Int)⟩ :: ⟨Rep.obj 26 (Rep.ro (Ro.int .i64)), [.pointer (some ⟨r2, 0, none⟩)], (0 : Int)⟩ :: ⟨Rep.obj 25 (Rep.prod (Rep.ro (Ro.int .i64)) (Rep.prod (Rep.ro (Ro.int .i64)) (Rep.ro (Ro.list exRo)))), [.pointer (some ⟨r1, 0, none⟩)], ((0 : Int), (0 : Int), ([] : List Ex))⟩ :: F) w_) (g := g44_) ?_ ?_
      · obtain ⟨r47_, hr48_, hx45_⟩ := Option.bind_eq_some_iff.1 hx45_
        refine s_call (expr_reader_now_sim  s43_ hr48_) ?_
        rintro _ h49_ ⟨f50_, t11, d53_, le52_, rfl, rfl, s51_⟩
        refine ⟨t11, rfl, ?_⟩
        try dsimp only at hx45_
        refine s_cond hx45_ rfl (fun hb92_ hx45_ => ?_) (fun hb92_ hx45_ => ?_)
        · obtain ⟨b54_, vs55_, e56_, hl57_, s58_⟩ := s51_.open
          obtain rfl : r9 = b54_ := by simpa using e56_
          clear e56_
          have s59_ := s58_.at1
          obtain ⟨v60_, w61_, rfl, hl63_, s62_⟩ := s59_.pair
          obtain ⟨g64_, s65_⟩ := s62_.ro
          subst g64_
          obtain ⟨v67_, w68_, rfl, hl70_, s69_⟩ := s65_.pair
          obtain ⟨g71_, s72_⟩ := s69_.ro
          subst g71_
          obtain ⟨g74_, s75_⟩ := s72_.ro
          subst g74_
          have s77_ : St f50_ (⟨Rep.raw 45, [.pointer (some ⟨r9, 0, none⟩)], [.string (d53_.1), .int .i64 (d53_.2.1), .int .i64 (d53_.2.2)]⟩ :: ⟨Rep.obj 3 (Rep.ro (Ro.int .i64)), [.pointer (some ⟨r3, 0, none⟩)], (0 : Int)⟩ :: ⟨Rep.obj 26 (Rep.ro (Ro.int .i64)), [.pointer (some ⟨r2, 0, none⟩)], (0 : Int)⟩ :: ⟨Rep.obj 25 (Rep.prod (Rep.ro (Ro.int .i64)) (Rep.prod (Rep.ro (Ro.int .i64)) (Rep.ro (Ro.list exRo)))), [.pointer (some ⟨r1, 0, none⟩)], ((0 : Int), (0 : Int), ([] : List Ex))⟩ :: F) _ := s75_
          refine s_loadR (b := r9) (j := 1) (x := (d53_.2.1)) s77_ rfl ?_
          have s78_ := St.unro (r := (Ro.int .i64)) (cs := [.int .i64 (d53_.2.2)]) (x := (d53_.2.2)) s77_ rfl
          have s79_ := St.unro (r := (Ro.int .i64)) (cs := [.int .i64 (d53_.2.1)]) (x := (d53_.2.1)) s78_ rfl
          have s80_ := St.unpair s79_
          have s81_ := St.unro (r := Ro.str) (cs := [.string (d53_.1)]) (x := (d53_.1)) s80_ rfl
          have s82_ := St.unpair s81_
          have s83_ : St f50_ (⟨Rep.obj 45 (Rep.prod (Rep.ro Ro.str) (Rep.prod (Rep.ro (Ro.int .i64)) (Rep.ro (Ro.int .i64)))), [.pointer (some ⟨r9, 0, none⟩)], ((d53_.1), (d53_.2.1), (d53_.2.2))⟩ :: ⟨Rep.obj 3 (Rep.ro (Ro.int .i64)), [.pointer (some ⟨r3, 0, none⟩)], (0 : Int)⟩ :: ⟨Rep.obj 26 (Rep.ro (Ro.int .i64)), [.pointer (some ⟨r2, 0, none⟩)], (0 : Int)⟩ :: ⟨Rep.obj 25 (Rep.prod (Rep.ro (Ro.int .i64)) (Rep.prod (Rep.ro (Ro.int .i64)) (Rep.ro (Ro.list exRo)))), [.pointer (some ⟨r1, 0, none⟩)], ((0 : Int), (0 : Int), ([] : List Ex))⟩ :: F) _ := St.shut s82_.at1
          have s84_ := s83_.at3
          have s85_ := s84_.at3
          have s86_ := s85_.at3
          have s87_ := s86_.at3
          obtain rfl := Option.some.inj hx45_
          exact s_out (((d53_.2.1) == ((ByteArray.size s_0 : Nat) : Int)), ()) rfl ⟨f50_, ((d53_.1), (d53_.2.1), (d53_.2.2)), le52_, rfl, s87_⟩
        · have s88_ := s51_.at3
          have s89_ := s88_.at3
          have s90_ := s89_.at3
          have s91_ := s90_.at3
          obtain rfl := Option.some.inj hx45_
          exact s_out (false, ()) rfl ⟨f50_, d53_, le52_, rfl, s91_⟩
      · rintro z10 h93_ ⟨f94_, d97_, le95_, rfl, s96_⟩
        try dsimp only at hx32_
        refine s_cond hx32_ rfl (fun hb340_ hx32_ => ?_) (fun hb340_ hx32_ => ?_)
        · obtain ⟨b98_, vs99_, e100_, hl101_, s102_⟩ := s96_.at3.open
          obtain rfl : r1 = b98_ := by simpa using e100_
          clear e100_
          have s103_ := s102_.at1
          obtain ⟨v104_, w105_, rfl, hl107_, s106_⟩ := s103_.pair
          obtain ⟨g108_, s109_⟩ := s106_.ro
          subst g108_
          obtain ⟨v111_, w112_, rfl, hl114_, s113_⟩ := s109_.pair
          obtain ⟨g115_, s116_⟩ := s113_.ro
          subst g115_
          obtain ⟨g118_, s119_⟩ := s116_.ro
          obtain ⟨t120_, e121_, k122_⟩ := g118_
          subst e121_
          have n123_ := k122_.length
          have s124_ : St f94_ (⟨Rep.raw 25, [.pointer (some ⟨r1, 0, none⟩)], [.int .i64 ((0 : Int)), .int .i64 ((0 : Int)), .slice t120_.1 t120_.2.1 t120_.2.2]⟩ :: ⟨Rep.obj 45 (Rep.prod (Rep.ro Ro.str) (Rep.prod (Rep.ro (Ro.int .i64)) (Rep.ro (Ro.int .i64)))), [.pointer (some ⟨r9, 0, none⟩)], d97_⟩ :: ⟨Rep.obj 3 (Rep.ro (Ro.int .i64)), [.pointer (some ⟨r3, 0, none⟩)], (0 : Int)⟩ :: ⟨Rep.obj 26 (Rep.ro (Ro.int .i64)), [.pointer (some ⟨r2, 0, none⟩)], (0 : Int)⟩ :: F) _ := s119_
          refine s_put (b := r1) (j := 0) (v := .int .i64 (0 : Int)) s124_ rfl (show (0 : Nat) < 3 by decide) ?_
          intro h126_ s125_
          refine s_put (b := r1) (j := 1) (v := .int .i64 (0 : Int)) s125_ rfl (show (1 : Nat) < 3 by decide) ?_
          intro h128_ s127_
          refine s_put (b := r1) (j := 2) (v := .slice none 0 0) s127_ rfl (show (2 : Nat) < 3 by decide) ?_
          intro h130_ s129_
          obtain ⟨b131_, vs132_, e133_, hl134_, s135_⟩ := s129_.at3.open
          obtain rfl : r2 = b131_ := by simpa using e133_
          clear e133_
          have s136_ := s135_.at1
          obtain ⟨g137_, s138_⟩ := s136_.ro
          subst g137_
          have s140_ : St f94_ (⟨Rep.raw 26, [.pointer (some ⟨r2, 0, none⟩)], [.int .i64 ((0 : Int))]⟩ :: ⟨Rep.raw 25, [.pointer (some ⟨r1, 0, none⟩)], [.int .i64 (0 : Int), .int .i64 (0 : Int), .slice none 0 0]⟩ :: ⟨Rep.obj 45 (Rep.prod (Rep.ro Ro.str) (Rep.prod (Rep.ro (Ro.int .i64)) (Rep.ro (Ro.int .i64)))), [.pointer (some ⟨r9, 0, none⟩)], d97_⟩ :: ⟨Rep.obj 3 (Rep.ro (Ro.int .i64)), [.pointer (some ⟨r3, 0, none⟩)], (0 : Int)⟩ :: F) _ := s138_
          refine s_put (b := r2) (j := 0) (v := .int .i64 (0 : Int)) s140_ rfl (show (0 : Nat) < 1 by decide) ?_
          intro h142_ s141_
          obtain ⟨b143_, vs144_, e145_, hl146_, s147_⟩ := s141_.at3.open
          obtain rfl : r3 = b143_ := by simpa using e145_
          clear e145_
          have s148_ := s147_.at1
          obtain ⟨g149_, s150_⟩ := s148_.ro
          subst g149_
          have s152_ : St f94_ (⟨Rep.raw 3, [.pointer (some ⟨r3, 0, none⟩)], [.int .i64 ((0 : Int))]⟩ :: ⟨Rep.raw 26, [.pointer (some ⟨r2, 0, none⟩)], [.int .i64 (0 : Int)]⟩ :: ⟨Rep.raw 25, [.pointer (some ⟨r1, 0, none⟩)], [.int .i64 (0 : Int), .int .i64 (0 : Int), .slice none 0 0]⟩ :: ⟨Rep.obj 45 (Rep.prod (Rep.ro Ro.str) (Rep.prod (Rep.ro (Ro.int .i64)) (Rep.ro (Ro.int .i64)))), [.pointer (some ⟨r9, 0, none⟩)], d97_⟩ :: F) _ := s150_
          refine s_put (b := r3) (j := 0) (v := .int .i64 (0 : Int)) s152_ rfl (show (0 : Nat) < 1 by decide) ?_
          intro h154_ s153_
          have s155_ := St.unro (r := (Ro.list exRo)) (cs := [.slice ((none, 0, 0) : Slc).1 ((none, 0, 0) : Slc).2.1 ((none, 0, 0) : Slc).2.2]) (x := ([] : List Ex)) s153_ ⟨((none, 0, 0) : Slc), rfl, (Ro.SliceIs.nil exRo f94_)⟩
          have s156_ := St.unro (r := (Ro.int .i64)) (cs := [.int .i64 (0 : Int)]) (x := (0 : Int)) s155_ rfl
          have s157_ := St.unpair s156_
          have s158_ := St.unro (r := (Ro.int .i64)) (cs := [.int .i64 (0 : Int)]) (x := (0 : Int)) s157_ rfl
          have s159_ := St.unpair s158_
          have s160_ : St f94_ (⟨Rep.obj 25 (Rep.prod (Rep.ro (Ro.int .i64)) (Rep.prod (Rep.ro (Ro.int .i64)) (Rep.ro (Ro.list exRo)))), [.pointer (some ⟨r1, 0, none⟩)], ((0 : Int), (0 : Int), ([] : List Ex))⟩ :: ⟨Rep.raw 3, [.pointer (some ⟨r3, 0, none⟩)], [.int .i64 (0 : Int)]⟩ :: ⟨Rep.raw 26, [.pointer (some ⟨r2, 0, none⟩)], [.int .i64 (0 : Int)]⟩ :: ⟨Rep.obj 45 (Rep.prod (Rep.ro Ro.str) (Rep.prod (Rep.ro (Ro.int .i64)) (Rep.ro (Ro.int .i64)))), [.pointer (some ⟨r9, 0, none⟩)], d97_⟩ :: F) _ := St.shut s159_.at3
          have s161_ := St.unro (r := (Ro.int .i64)) (cs := [.int .i64 (0 : Int)]) (x := (0 : Int)) s160_ rfl
          have s162_ : St f94_ (⟨Rep.obj 26 (Rep.ro (Ro.int .i64)), [.pointer (some ⟨r2, 0, none⟩)], (0 : Int)⟩ :: ⟨Rep.obj 25 (Rep.prod (Rep.ro (Ro.int .i64)) (Rep.prod (Rep.ro (Ro.int .i64)) (Rep.ro (Ro.list exRo)))), [.pointer (some ⟨r1, 0, none⟩)], ((0 : Int), (0 : Int), ([] : List Ex))⟩ :: ⟨Rep.raw 3, [.pointer (some ⟨r3, 0, none⟩)], [.int .i64 (0 : Int)]⟩ :: ⟨Rep.obj 45 (Rep.prod (Rep.ro Ro.str) (Rep.prod (Rep.ro (Ro.int .i64)) (Rep.ro (Ro.int .i64)))), [.pointer (some ⟨r9, 0, none⟩)], d97_⟩ :: F) _ := St.shut s161_.at3
          have s163_ := St.unro (r := (Ro.int .i64)) (cs := [.int .i64 (0 : Int)]) (x := (0 : Int)) s162_ rfl
          have s164_ : St f94_ (⟨Rep.obj 3 (Rep.ro (Ro.int .i64)), [.pointer (some ⟨r3, 0, none⟩)], (0 : Int)⟩ :: ⟨Rep.obj 26 (Rep.ro (Ro.int .i64)), [.pointer (some ⟨r2, 0, none⟩)], (0 : Int)⟩ :: ⟨Rep.obj 25 (Rep.prod (Rep.ro (Ro.int .i64)) (Rep.prod (Rep.ro (Ro.int .i64)) (Rep.ro (Ro.list exRo)))), [.pointer (some ⟨r1, 0, none⟩)], ((0 : Int), (0 : Int), ([] : List Ex))⟩ :: ⟨Rep.obj 45 (Rep.prod (Rep.ro Ro.str) (Rep.prod (Rep.ro (Ro.int .i64)) (Rep.ro (Ro.int .i64)))), [.pointer (some ⟨r9, 0, none⟩)], d97_⟩ :: F) _ := St.shut s163_.at3
          obtain rfl := Option.some.inj hx32_
          have s165_ := s164_.at3.tail
          have s166_ := s165_.at1
          have s167_ := s166_.at2
          exact aft_ret ⟨f94_, ((0 : Int), (0 : Int), ([] : List Ex)), (0 : Int), (0 : Int), le95_, rfl, s167_⟩
        · obtain ⟨r168_, hr169_, hx32_⟩ := Option.bind_eq_some_iff.1 hx32_
          refine s_callP (expr_reader_sum_sim (expr_reader_factor_sim fuel)  s96_ hr169_) ?_ ?_
          · rintro _ h170_ ⟨f171_, t13, d174_, d177_, le173_, rfl, rfl, k176_, s172_⟩
            refine ⟨t13, rfl, ?_⟩
            try dsimp only at hx32_
            have n175_ := k176_.length
            obtain ⟨b178_, vs179_, e180_, hl181_, s182_⟩ := s172_.at3.open
            obtain rfl : r1 = b178_ := by simpa using e180_
            clear e180_
            have s183_ := s182_.at1
            obtain ⟨v184_, w185_, rfl, hl187_, s186_⟩ := s183_.pair
            obtain ⟨g188_, s189_⟩ := s186_.ro
            subst g188_
            obtain ⟨v191_, w192_, rfl, hl194_, s193_⟩ := s189_.pair
            obtain ⟨g195_, s196_⟩ := s193_.ro
            subst g195_
            obtain ⟨g198_, s199_⟩ := s196_.ro
            obtain ⟨t200_, e201_, k202_⟩ := g198_
            subst e201_
            have n203_ := k202_.length
            have s204_ : St f171_ (⟨Rep.raw 25, [.pointer (some ⟨r1, 0, none⟩)], [.int .i64 ((0 : Int)), .int .i64 ((0 : Int)), .slice t200_.1 t200_.2.1 t200_.2.2]⟩ :: ⟨Rep.obj 45 (Rep.prod (Rep.ro Ro.str) (Rep.prod (Rep.ro (Ro.int .i64)) (Rep.ro (Ro.int .i64)))), [.pointer (some ⟨r9, 0, none⟩)], d177_⟩ :: ⟨Rep.obj 3 (Rep.ro (Ro.int .i64)), [.pointer (some ⟨r3, 0, none⟩)], (0 : Int)⟩ :: ⟨Rep.obj 26 (Rep.ro (Ro.int .i64)), [.pointer (some ⟨r2, 0, none⟩)], (0 : Int)⟩ :: F) _ := s199_
            refine s_put (b := r1) (j := 0) (v := .int .i64 t13.1) s204_ rfl (show (0 : Nat) < 3 by decide) ?_
            intro h206_ s205_
            refine s_put (b := r1) (j := 1) (v := .int .i64 t13.2.1) s205_ rfl (show (1 : Nat) < 3 by decide) ?_
            intro h208_ s207_
            refine s_put (b := r1) (j := 2) (v := .slice t13.2.2.1.1 t13.2.2.1.2.1 t13.2.2.1.2.2) s207_ rfl (show (2 : Nat) < 3 by decide) ?_
            intro h210_ s209_
            have s211_ := s209_.at1
            obtain ⟨r212_, hr213_, hx32_⟩ := Option.bind_eq_some_iff.1 hx32_
            refine s_call (expr_reader_now_sim  s211_ hr213_) ?_
            rintro _ h214_ ⟨f215_, t14, d218_, le217_, rfl, rfl, s216_⟩
            refine ⟨t14, rfl, ?_⟩
            try dsimp only at hx32_
            obtain ⟨b219_, vs220_, e221_, hl222_, s223_⟩ := s216_.open
            obtain rfl : r9 = b219_ := by simpa using e221_
            clear e221_
            have s224_ := s223_.at1
            obtain ⟨v225_, w226_, rfl, hl228_, s227_⟩ := s224_.pair
            obtain ⟨g229_, s230_⟩ := s227_.ro
            subst g229_
            obtain ⟨v232_, w233_, rfl, hl235_, s234_⟩ := s230_.pair
            obtain ⟨g236_, s237_⟩ := s234_.ro
            subst g236_
            obtain ⟨g239_, s240_⟩ := s237_.ro
            subst g239_
            have s242_ : St f215_ (⟨Rep.raw 45, [.pointer (some ⟨r9, 0, none⟩)], [.string (d218_.1), .int .i64 (d218_.2.1), .int .i64 (d218_.2.2)]⟩ :: ⟨Rep.raw 25, [.pointer (some ⟨r1, 0, none⟩)], [.int .i64 t13.1, .int .i64 t13.2.1, .slice t13.2.2.1.1 t13.2.2.1.2.1 t13.2.2.1.2.2]⟩ :: ⟨Rep.obj 3 (Rep.ro (Ro.int .i64)), [.pointer (some ⟨r3, 0, none⟩)], (0 : Int)⟩ :: ⟨Rep.obj 26 (Rep.ro (Ro.int .i64)), [.pointer (some ⟨r2, 0, none⟩)], (0 : Int)⟩ :: F) _ := s240_
            refine s_loadR (b := r9) (j := 1) (x := (d218_.2.1)) s242_ rfl ?_
            have s243_ := St.unro (r := (Ro.int .i64)) (cs := [.int .i64 (d218_.2.2)]) (x := (d218_.2.2)) s242_ rfl
            have s244_ := St.unro (r := (Ro.int .i64)) (cs := [.int .i64 (d218_.2.1)]) (x := (d218_.2.1)) s243_ rfl
            have s245_ := St.unpair s244_
            have s246_ := St.unro (r := Ro.str) (cs := [.string (d218_.1)]) (x := (d218_.1)) s245_ rfl
            have s247_ := St.unpair s246_
            have s248_ : St f215_ (⟨Rep.obj 45 (Rep.prod (Rep.ro Ro.str) (Rep.prod (Rep.ro (Ro.int .i64)) (Rep.ro (Ro.int .i64)))), [.pointer (some ⟨r9, 0, none⟩)], ((d218_.1), (d218_.2.1), (d218_.2.2))⟩ :: ⟨Rep.raw 25, [.pointer (some ⟨r1, 0, none⟩)], [.int .i64 t13.1, .int .i64 t13.2.1, .slice t13.2.2.1.1 t13.2.2.1.2.1 t13.2.2.1.2.2]⟩ :: ⟨Rep.obj 3 (Rep.ro (Ro.int .i64)), [.pointer (some ⟨r3, 0, none⟩)], (0 : Int)⟩ :: ⟨Rep.obj 26 (Rep.ro (Ro.int .i64)), [.pointer (some ⟨r2, 0, none⟩)], (0 : Int)⟩ :: F) _ := St.shut s247_.at1
            obtain ⟨g249_, hx250_, hx32_⟩ := Option.bind_eq_some_iff.1 hx32_
            refine s_join (fun (y : Unit) w_ g => ∃ ψ : Snap, Sub f215_ ψ ∧ Step.next () = g ∧ St ψ (⟨Rep.obj 45 (Rep.prod (Rep.ro Ro.str) (Rep.prod (Rep.ro (Ro.int .i64)) (Rep.ro (Ro.int .i64)))), [.pointer (some ⟨r9, 0, none⟩)], ((d218_.1), (d218_.2.1), (d218_.2.2))⟩ :: ⟨Rep.raw 25, [.pointer (some ⟨r1, 0, none⟩)], [.int .i64 t13.1, .int .i64 t13.2.1, .slice t13.2.2.1.1 t13.2.2.1.2.1 t13.2.2.1.2.2]⟩ :: ⟨Rep.obj 3 (Rep.ro (Ro.int .i64)), [.pointer (some ⟨r3, 0, none⟩)], (0 : Int)⟩ :: ⟨Rep.obj 26 (Rep.ro (Ro.int .i64)), [.pointer (some ⟨r2, 0, none⟩)], (0 : Int)⟩ :: F) w_) (g := g249_) ?_ ?_
            · refine s_cond hx250_ rfl (fun hb281_ hx250_ => ?_) (fun hb281_ hx250_ => ?_)
              · obtain ⟨r251_, hr252_, hx250_⟩ := Option.bind_eq_some_iff.1 hx250_
                refine s_callP (expr_reader_fail_sim  s248_ hr252_) ?_ ?_
                · rintro _ h253_ ⟨f254_, t17, le256_, rfl, rfl, s255_⟩
                  refine ⟨t17, rfl, ?_⟩
                  try dsimp only at hx250_
                  have s257_ := s255_.at3
                  have s258_ := s257_.at3
                  have s259_ := s258_.at3
                  have s260_ := s259_.at3
                  obtain rfl := Option.some.inj hx250_
                  exact s_out (()) rfl ⟨f254_, le256_, rfl, s260_⟩
                · rintro _ h261_ ⟨f262_, co265_, ca266_, le264_, rfl, rfl, s263_⟩
                  try dsimp only at hx250_
                  have s267_ := St.unro (r := (Ro.list exRo)) (cs := [.slice t13.2.2.1.1 t13.2.2.1.2.1 t13.2.2.1.2.2]) (x := d174_) s263_ ⟨t13.2.2.1, rfl, (k176_.mono (le217_.trans le264_))⟩
                  have s268_ := St.unro (r := (Ro.int .i64)) (cs := [.int .i64 t13.2.1]) (x := t13.2.1) s267_ rfl
                  have s269_ := St.unpair s268_
                  have s270_ := St.unro (r := (Ro.int .i64)) (cs := [.int .i64 t13.1]) (x := t13.1) s269_ rfl
                  have s271_ := St.unpair s270_
                  have s272_ : St f262_ (⟨Rep.obj 25 (Rep.prod (Rep.ro (Ro.int .i64)) (Rep.prod (Rep.ro (Ro.int .i64)) (Rep.ro (Ro.list exRo)))), [.pointer (some ⟨r1, 0, none⟩)], (t13.1, t13.2.1, d174_)⟩ :: ⟨Rep.obj 45 (Rep.prod (Rep.ro Ro.str) (Rep.prod (Rep.ro (Ro.int .i64)) (Rep.ro (Ro.int .i64)))), [.pointer (some ⟨r9, 0, none⟩)], ((d218_.1), (d218_.2.1), (d218_.2.2))⟩ :: ⟨Rep.obj 3 (Rep.ro (Ro.int .i64)), [.pointer (some ⟨r3, 0, none⟩)], (0 : Int)⟩ :: ⟨Rep.obj 26 (Rep.ro (Ro.int .i64)), [.pointer (some ⟨r2, 0, none⟩)], (0 : Int)⟩ :: F) _ := St.shut s271_.at2
                  obtain rfl := Option.some.inj hx250_
                  try dsimp only at hx32_
                  obtain rfl := Option.some.inj hx32_
                  have s273_ := s272_.at1.tail
                  have s274_ := s273_.at1
                  have s275_ := s274_.at2
                  have s276_ := s275_.at2
                  exact meet_pan (aft_pan ⟨f262_, co265_, ca266_, (t13.1, t13.2.1, d174_), (0 : Int), (0 : Int), (((le95_.trans le173_).trans le217_).trans le264_), rfl, rfl, s276_⟩)
              · have s277_ := s248_.at3
                have s278_ := s277_.at3
                have s279_ := s278_.at3
                have s280_ := s279_.at3
                obtain rfl := Option.some.inj hx250_
                exact s_out (()) rfl ⟨f215_, (Sub.refl _), rfl, s280_⟩
            · rintro z16 h282_ ⟨f283_, le284_, rfl, s285_⟩
              try dsimp only at hx32_
              refine s_loadR (b := r1) (j := 0) (x := t13.1) s285_.at1 rfl ?_
              refine s_loadR (b := r1) (j := 1) (x := t13.2.1) s285_.at1 rfl ?_
              refine s_loadR (b := r1) (j := 2) (x := t13.2.2.1) s285_.at1 rfl ?_
              refine s_put (b := r1) (j := 0) (v := .int .i64 t13.1) s285_.at1 rfl (show (0 : Nat) < 3 by decide) ?_
              intro h287_ s286_
              refine s_put (b := r1) (j := 1) (v := .int .i64 t13.2.1) s286_ rfl (show (1 : Nat) < 3 by decide) ?_
              intro h289_ s288_
              refine s_put (b := r1) (j := 2) (v := .slice t13.2.2.1.1 t13.2.2.1.2.1 t13.2.2.1.2.2) s288_ rfl (show (2 : Nat) < 3 by decide) ?_
              intro h291_ s290_
              obtain ⟨b292_, vs293_, e294_, hl295_, s296_⟩ := s290_.at3.open
              obtain rfl : r2 = b292_ := by simpa using e294_
              clear e294_
              have s297_ := s296_.at1
              obtain ⟨g298_, s299_⟩ := s297_.ro
              subst g298_
              have s301_ : St f283_ (⟨Rep.raw 26, [.pointer (some ⟨r2, 0, none⟩)], [.int .i64 ((0 : Int))]⟩ :: ⟨Rep.raw 25, [.pointer (some ⟨r1, 0, none⟩)], [.int .i64 t13.1, .int .i64 t13.2.1, .slice t13.2.2.1.1 t13.2.2.1.2.1 t13.2.2.1.2.2]⟩ :: ⟨Rep.obj 45 (Rep.prod (Rep.ro Ro.str) (Rep.prod (Rep.ro (Ro.int .i64)) (Rep.ro (Ro.int .i64)))), [.pointer (some ⟨r9, 0, none⟩)], ((d218_.1), (d218_.2.1), (d218_.2.2))⟩ :: ⟨Rep.obj 3 (Rep.ro (Ro.int .i64)), [.pointer (some ⟨r3, 0, none⟩)], (0 : Int)⟩ :: F) _ := s299_
              refine s_put (b := r2) (j := 0) (v := .int .i64 (0 : Int)) s301_ rfl (show (0 : Nat) < 1 by decide) ?_
              intro h303_ s302_
              obtain ⟨b304_, vs305_, e306_, hl307_, s308_⟩ := s302_.at3.open
              obtain rfl : r3 = b304_ := by simpa using e306_
              clear e306_
              have s309_ := s308_.at1
              obtain ⟨g310_, s311_⟩ := s309_.ro
              subst g310_
              have s313_ : St f283_ (⟨Rep.raw 3, [.pointer (some ⟨r3, 0, none⟩)], [.int .i64 ((0 : Int))]⟩ :: ⟨Rep.raw 26, [.pointer (some ⟨r2, 0, none⟩)], [.int .i64 (0 : Int)]⟩ :: ⟨Rep.raw 25, [.pointer (some ⟨r1, 0, none⟩)], [.int .i64 t13.1, .int .i64 t13.2.1, .slice t13.2.2.1.1 t13.2.2.1.2.1 t13.2.2.1.2.2]⟩ :: ⟨Rep.obj 45 (Rep.prod (Rep.ro Ro.str) (Rep.prod (Rep.ro (Ro.int .i64)) (Rep.ro (Ro.int .i64)))), [.pointer (some ⟨r9, 0, none⟩)], ((d218_.1), (d218_.2.1), (d218_.2.2))⟩ :: F) _ := s311_
              refine s_put (b := r3) (j := 0) (v := .int .i64 (0 : Int)) s313_ rfl (show (0 : Nat) < 1 by decide) ?_
              intro h315_ s314_
              have s316_ := St.unro (r := (Ro.list exRo)) (cs := [.slice t13.2.2.1.1 t13.2.2.1.2.1 t13.2.2.1.2.2]) (x := d174_) s314_ ⟨t13.2.2.1, rfl, (k176_.mono (le217_.trans le284_))⟩
              have s317_ := St.unro (r := (Ro.int .i64)) (cs := [.int .i64 t13.2.1]) (x := t13.2.1) s316_ rfl
              have s318_ := St.unpair s317_
              have s319_ := St.unro (r := (Ro.int .i64)) (cs := [.int .i64 t13.1]) (x := t13.1) s318_ rfl
              have s320_ := St.unpair s319_
              have s321_ : St f283_ (⟨Rep.obj 25 (Rep.prod (Rep.ro (Ro.int .i64)) (Rep.prod (Rep.ro (Ro.int .i64)) (Rep.ro (Ro.list exRo)))), [.pointer (some ⟨r1, 0, none⟩)], (t13.1, t13.2.1, d174_)⟩ :: ⟨Rep.raw 3, [.pointer (some ⟨r3, 0, none⟩)], [.int .i64 (0 : Int)]⟩ :: ⟨Rep.raw 26, [.pointer (some ⟨r2, 0, none⟩)], [.int .i64 (0 : Int)]⟩ :: ⟨Rep.obj 45 (Rep.prod (Rep.ro Ro.str) (Rep.prod (Rep.ro (Ro.int .i64)) (Rep.ro (Ro.int .i64)))), [.pointer (some ⟨r9, 0, none⟩)], ((d218_.1), (d218_.2.1), (d218_.2.2))⟩ :: F) _ := St.shut s320_.at3
              have s322_ := St.unro (r := (Ro.int .i64)) (cs := [.int .i64 (0 : Int)]) (x := (0 : Int)) s321_ rfl
              have s323_ : St f283_ (⟨Rep.obj 26 (Rep.ro (Ro.int .i64)), [.pointer (some ⟨r2, 0, none⟩)], (0 : Int)⟩ :: ⟨Rep.obj 25 (Rep.prod (Rep.ro (Ro.int .i64)) (Rep.prod (Rep.ro (Ro.int .i64)) (Rep.ro (Ro.list exRo)))), [.pointer (some ⟨r1, 0, none⟩)], (t13.1, t13.2.1, d174_)⟩ :: ⟨Rep.raw 3, [.pointer (some ⟨r3, 0, none⟩)], [.int .i64 (0 : Int)]⟩ :: ⟨Rep.obj 45 (Rep.prod (Rep.ro Ro.str) (Rep.prod (Rep.ro (Ro.int .i64)) (Rep.ro (Ro.int .i64)))), [.pointer (some ⟨r9, 0, none⟩)], ((d218_.1), (d218_.2.1), (d218_.2.2))⟩ :: F) _ := St.shut s322_.at3
              have s324_ := St.unro (r := (Ro.int .i64)) (cs := [.int .i64 (0 : Int)]) (x := (0 : Int)) s323_ rfl
              have s325_ : St f283_ (⟨Rep.obj 3 (Rep.ro (Ro.int .i64)), [.pointer (some ⟨r3, 0, none⟩)], (0 : Int)⟩ :: ⟨Rep.obj 26 (Rep.ro (Ro.int .i64)), [.pointer (some ⟨r2, 0, none⟩)], (0 : Int)⟩ :: ⟨Rep.obj 25 (Rep.prod (Rep.ro (Ro.int .i64)) (Rep.prod (Rep.ro (Ro.int .i64)) (Rep.ro (Ro.list exRo)))), [.pointer (some ⟨r1, 0, none⟩)], (t13.1, t13.2.1, d174_)⟩ :: ⟨Rep.obj 45 (Rep.prod (Rep.ro Ro.str) (Rep.prod (Rep.ro (Ro.int .i64)) (Rep.ro (Ro.int .i64)))), [.pointer (some ⟨r9, 0, none⟩)], ((d218_.1), (d218_.2.1), (d218_.2.2))⟩ :: F) _ := St.shut s324_.at3
              obtain rfl := Option.some.inj hx32_
              have s326_ := s325_.at3.tail
              have s327_ := s326_.at1
              have s328_ := s327_.at2
              exact aft_ret ⟨f283_, (t13.1, t13.2.1, d174_), (0 : Int), (0 : Int), (((le95_.trans le173_).trans le217_).trans le284_), rfl, s328_⟩
          · rintro _ h330_ ⟨f331_, co334_, ca335_, d336_, le333_, rfl, rfl, s332_⟩
            try dsimp only at hx32_
            obtain rfl := Option.some.inj hx32_
            have s337_ := s332_.tail
            have s338_ := s337_.at1
            have s339_ := s338_.at2
            exact aft_pan ⟨f331_, co334_, ca335_, ((0 : Int), (0 : Int), ([] : List Ex)), (0 : Int), (0 : Int), (le95_.trans le333_), rfl, rfl, s339_⟩
    · rintro h342_ ⟨f343_, d346_, d347_, d348_, le344_, rfl, s345_⟩
      try dsimp only at hd
      refine CallsDH.mono (read1_none s345_) ?_
      rintro _ _ h349_ ⟨rfl, rfl, s350_⟩
      refine ⟨⟨_, rfl⟩, rfl, ?_⟩
      obtain ⟨b351_, vs352_, e353_, hl354_, s355_⟩ := s350_.open
      obtain rfl : r1 = b351_ := by simpa using e353_
      clear e353_
      have s356_ := s355_.at1
      obtain ⟨v357_, w358_, rfl, hl360_, s359_⟩ := s356_.pair
      obtain ⟨g361_, s362_⟩ := s359_.ro
      subst g361_
      obtain ⟨v364_, w365_, rfl, hl367_, s366_⟩ := s362_.pair
      obtain ⟨g368_, s369_⟩ := s366_.ro
      subst g368_
      obtain ⟨g371_, s372_⟩ := s369_.ro
      obtain ⟨t373_, e374_, k375_⟩ := g371_
      subst e374_
      have n376_ := k375_.length
      have s377_ : St f343_ (⟨Rep.raw 25, [.pointer (some ⟨r1, 0, none⟩)], [.int .i64 (d346_.1), .int .i64 (d346_.2.1), .slice t373_.1 t373_.2.1 t373_.2.2]⟩ :: ⟨Rep.obj 26 (Rep.ro (Ro.int .i64)), [.pointer (some ⟨r2, 0, none⟩)], d347_⟩ :: ⟨Rep.obj 3 (Rep.ro (Ro.int .i64)), [.pointer (some ⟨r3, 0, none⟩)], d348_⟩ :: F) _ := s372_
      refine s_loadR (b := r1) (j := 0) (x := (d346_.1)) s377_ rfl ?_
      refine s_loadR (b := r1) (j := 1) (x := (d346_.2.1)) s377_ rfl ?_
      refine s_loadR (b := r1) (j := 2) (x := t373_) s377_ rfl ?_
      obtain ⟨b378_, vs379_, e380_, hl381_, s382_⟩ := s377_.at1.open
      obtain rfl : r2 = b378_ := by simpa using e380_
      clear e380_
      have s383_ := s382_.at1
      obtain ⟨g384_, s385_⟩ := s383_.ro
      subst g384_
      have s387_ : St f343_ (⟨Rep.raw 26, [.pointer (some ⟨r2, 0, none⟩)], [.int .i64 (d347_)]⟩ :: ⟨Rep.raw 25, [.pointer (some ⟨r1, 0, none⟩)], [.int .i64 (d346_.1), .int .i64 (d346_.2.1), .slice t373_.1 t373_.2.1 t373_.2.2]⟩ :: ⟨Rep.obj 3 (Rep.ro (Ro.int .i64)), [.pointer (some ⟨r3, 0, none⟩)], d348_⟩ :: F) _ := s385_
      refine s_loadR (b := r2) (j := 0) (x := (d347_)) s387_ rfl ?_
      obtain ⟨b388_, vs389_, e390_, hl391_, s392_⟩ := s387_.at2.open
      obtain rfl : r3 = b388_ := by simpa using e390_
      clear e390_
      have s393_ := s392_.at1
      obtain ⟨g394_, s395_⟩ := s393_.ro
      subst g394_
      have s397_ : St f343_ (⟨Rep.raw 3, [.pointer (some ⟨r3, 0, none⟩)], [.int .i64 (d348_)]⟩ :: ⟨Rep.raw 26, [.pointer (some ⟨r2, 0, none⟩)], [.int .i64 (d347_)]⟩ :: ⟨Rep.raw 25, [.pointer (some ⟨r1, 0, none⟩)], [.int .i64 (d346_.1), .int .i64 (d346_.2.1), .slice t373_.1 t373_.2.1 t373_.2.2]⟩ :: F) _ := s395_
      refine s_loadR (b := r3) (j := 0) (x := (d348_)) s397_ rfl ?_
      obtain rfl := Option.some.inj hd
      have s398_ := s397_.tail
      have s399_ := s398_.tail
      have s400_ := s399_.tail
      exact finOf_back ⟨f343_, (((d346_.1), (d346_.2.1), t373_, ()), (d347_), (d348_), ()), d346_.2.2, le344_, rfl, rfl, k375_, s400_⟩
    · rintro _ h401_ ⟨f402_, co408_, ca409_, d405_, d406_, d407_, le403_, rfl, rfl, s404_⟩
      try dsimp only at hd
      obtain ⟨b412_, vs413_, e414_, hl415_, s416_⟩ := s404_.open
      obtain rfl : r1 = b412_ := by simpa using e414_
      clear e414_
      have s417_ := s416_.at1
      obtain ⟨v418_, w419_, rfl, hl421_, s420_⟩ := s417_.pair
      obtain ⟨g422_, s423_⟩ := s420_.ro
      subst g422_
      obtain ⟨v425_, w426_, rfl, hl428_, s427_⟩ := s423_.pair
      obtain ⟨g429_, s430_⟩ := s427_.ro
      subst g429_
      obtain ⟨g432_, s433_⟩ := s430_.ro
      obtain ⟨t434_, e435_, k436_⟩ := g432_
      subst e435_
      have n437_ := k436_.length
      have s438_ : St f402_ (⟨Rep.raw 25, [.pointer (some ⟨r1, 0, none⟩)], [.int .i64 (d405_.1), .int .i64 (d405_.2.1), .slice t434_.1 t434_.2.1 t434_.2.2]⟩ :: ⟨Rep.obj 26 (Rep.ro (Ro.int .i64)), [.pointer (some ⟨r2, 0, none⟩)], d406_⟩ :: ⟨Rep.obj 3 (Rep.ro (Ro.int .i64)), [.pointer (some ⟨r3, 0, none⟩)], d407_⟩ :: F) _ := s433_
      obtain ⟨b439_, vs440_, e441_, hl442_, s443_⟩ := s438_.at1.open
      obtain rfl : r2 = b439_ := by simpa using e441_
      clear e441_
      have s444_ := s443_.at1
      obtain ⟨g445_, s446_⟩ := s444_.ro
      subst g445_
      have s448_ : St f402_ (⟨Rep.raw 26, [.pointer (some ⟨r2, 0, none⟩)], [.int .i64 (d406_)]⟩ :: ⟨Rep.raw 25, [.pointer (some ⟨r1, 0, none⟩)], [.int .i64 (d405_.1), .int .i64 (d405_.2.1), .slice t434_.1 t434_.2.1 t434_.2.2]⟩ :: ⟨Rep.obj 3 (Rep.ro (Ro.int .i64)), [.pointer (some ⟨r3, 0, none⟩)], d407_⟩ :: F) _ := s446_
      obtain ⟨b449_, vs450_, e451_, hl452_, s453_⟩ := s448_.at2.open
      obtain rfl : r3 = b449_ := by simpa using e451_
      clear e451_
      have s454_ := s453_.at1
      obtain ⟨g455_, s456_⟩ := s454_.ro
      subst g455_
      have s458_ : St f402_ (⟨Rep.raw 3, [.pointer (some ⟨r3, 0, none⟩)], [.int .i64 (d407_)]⟩ :: ⟨Rep.raw 26, [.pointer (some ⟨r2, 0, none⟩)], [.int .i64 (d406_)]⟩ :: ⟨Rep.raw 25, [.pointer (some ⟨r1, 0, none⟩)], [.int .i64 (d405_.1), .int .i64 (d405_.2.1), .slice t434_.1 t434_.2.1 t434_.2.2]⟩ :: F) _ := s456_
      have s459_ := s458_.at1
      have s460_ := s459_.at2
      refine CallsDH.mono (read1_some (code := co408_) (at_ := ca409_) s460_) ?_
      rintro _ _ h410_ ⟨rfl, rfl, s411_⟩
      refine ⟨⟨_, rfl⟩, .inl ⟨rfl, ?_⟩⟩
      refine s_loadR (b := r1) (j := 0) (x := 0) s411_ rfl ?_
      refine s_loadR (b := r1) (j := 1) (x := 0) s411_ rfl ?_
      refine s_loadR (b := r1) (j := 2) (x := ((none, 0, 0) : Slc)) s411_ rfl ?_
      refine s_loadR (b := r2) (j := 0) (x := co408_) s411_.at1 rfl ?_
      refine s_loadR (b := r3) (j := 0) (x := ca409_) s411_.at2 rfl ?_
      obtain rfl := Option.some.inj hd
      have s461_ := s411_.tail
      have s462_ := s461_.tail
      have s463_ := s462_.tail
      exact finOf_back ⟨f402_, ((0, 0, ((none, 0, 0) : Slc), ()), co408_, ca409_, ()), ([] : List Ex), le403_, rfl, rfl, (Ro.SliceIs.nil exRo f402_), s463_⟩

noncomputable def tronageref20_Read_D (fuel : Nat) (s_0 : ByteArray) : Option (Int × Int × List Ex × Int × Int) :=
  cond (decide (((ByteArray.size s_0 : Nat) : Int) > (200 : Int)))
  (some ((0 : Int), (0 : Int), ([] : List Ex), (12 : Int), (0 : Int)))
  ((tronageref20_Reader_now_D (s_0, (0 : Int), (0 : Int), (0 : Int), (0 : Int))).bind fun t6 =>
    cond (decide (t6.1 < (0 : Int)))
    (some ((0 : Int), (0 : Int), ([] : List Ex), (0 : Int), (0 : Int)))
    ((tronageref20_Reader_sum_D (tronageref20_Reader_factor_D fuel) t6.2).bind fun t10 =>
      (tronageref20_Reader_now_D t10.2.2.2).bind fun t12 =>
      (cond (decide (t12.1 ≥ (0 : Int)))
      ((tronageref20_Reader_fail_D t12.2 (30 : Int)).bind fun t14 =>
        some t14)
      (some t12.2)).bind fun z13 =>
      cond ((z13.2.2.2.1) != (0 : Int))
      (some ((0 : Int), (0 : Int), ([] : List Ex), (z13.2.2.2.1), (z13.2.2.2.2)))
      (some (t10.1, t10.2.1, t10.2.2.1, (0 : Int), (0 : Int)))))
theorem tronageref20_Read_sim (fuel : Nat) {φ : Snap} {h : Heap} {F : List Chk} {s_0 : ByteArray}  (s0 : St φ (F) h) {r : (Int × Int × List Ex × Int × Int)} (hd : tronageref20_Read_D fuel s_0 = some r) :
    CallsH Tryd.prog 12 [(.string s_0)] h (Back fun v h' => ∃ ψ : Snap, ∃ y : (Int × Int × (Option Addr × Nat × Nat) × Unit) × Int × Int × Unit, ∃ l1_ : List Ex, Sub φ ψ ∧ v = ((.tuple [(.agg [(.int .i64), (.int .i64), .slice]), (.atom (.int .i64)), (.atom (.int .i64))]) : Sh).val y ∧ (y.1.1, y.1.2.1, l1_, y.2.1, y.2.2.1) = r ∧ Ro.SliceIs exRo ψ y.1.2.2.1 l1_ ∧ St ψ (F) h') := by
  refine calls_of mixed Tryd.func12 ?_
  rw [tronageref20_Read_den]
  unfold tronageref20_Read_T
  unfold tronageref20_Read_D at hd
  try dsimp only [Ex.kind_mk, Ex.n_mk, Ex.kids_mk] at hd
  refine s_new (vs := [.int .i64 (0 : Int), .int .i64 (0 : Int), .slice none 0 0]) s0 ?_
  intro r1 h3_ s2_
  refine s_cond hd rfl (fun hb144_ hd => ?_) (fun hb144_ hd => ?_)
  · refine s_put (b := r1) (j := 0) (v := .int .i64 (0 : Int)) s2_ rfl (show (0 : Nat) < 3 by decide) ?_
    intro h5_ s4_
    refine s_put (b := r1) (j := 1) (v := .int .i64 (0 : Int)) s4_ rfl (show (1 : Nat) < 3 by decide) ?_
    intro h7_ s6_
    refine s_put (b := r1) (j := 2) (v := .slice none 0 0) s6_ rfl (show (2 : Nat) < 3 by decide) ?_
    intro h9_ s8_
    refine s_loadR (b := r1) (j := 0) (x := (0 : Int)) s8_ rfl ?_
    refine s_loadR (b := r1) (j := 1) (x := (0 : Int)) s8_ rfl ?_
    refine s_loadR (b := r1) (j := 2) (x := ((none, 0, 0) : Slc)) s8_ rfl ?_
    obtain rfl := Option.some.inj hd
    have s10_ := s8_.tail
    exact finOf_back ⟨φ, (((0 : Int), (0 : Int), ((none, 0, 0) : Slc), ()), (12 : Int), (0 : Int), ()), ([] : List Ex), (Sub.refl _), rfl, rfl, (Ro.SliceIs.nil exRo φ), s10_⟩
  · refine s_new (vs := [.string s_0, .int .i64 (0 : Int), .int .i64 (0 : Int), .int .i64 (0 : Int), .int .i64 (0 : Int)]) s2_ ?_
    intro r5 h12_ s11_
    have s13_ := St.unro (r := (Ro.int .i64)) (cs := [.int .i64 (0 : Int)]) (x := (0 : Int)) s11_ rfl
    have s14_ := St.unro (r := (Ro.int .i64)) (cs := [.int .i64 (0 : Int)]) (x := (0 : Int)) s13_ rfl
    have s15_ := St.unpair s14_
    have s16_ := St.unro (r := (Ro.int .i64)) (cs := [.int .i64 (0 : Int)]) (x := (0 : Int)) s15_ rfl
    have s17_ := St.unpair s16_
    have s18_ := St.unro (r := (Ro.int .i64)) (cs := [.int .i64 (0 : Int)]) (x := (0 : Int)) s17_ rfl
    have s19_ := St.unpair s18_
    have s20_ := St.unro (r := Ro.str) (cs := [.string s_0]) (x := s_0) s19_ rfl
    have s21_ := St.unpair s20_
    have s22_ : St φ (⟨Rep.obj 51 (Rep.prod (Rep.ro Ro.str) (Rep.prod (Rep.ro (Ro.int .i64)) (Rep.prod (Rep.ro (Ro.int .i64)) (Rep.prod (Rep.ro (Ro.int .i64)) (Rep.ro (Ro.int .i64)))))), [.pointer (some ⟨r5, 0, none⟩)], (s_0, (0 : Int), (0 : Int), (0 : Int), (0 : Int))⟩ :: ⟨Rep.raw 25, [.pointer (some ⟨r1, 0, none⟩)], [.int .i64 (0 : Int), .int .i64 (0 : Int), .slice none 0 0]⟩ :: F) _ := St.shut s21_.at1
    obtain ⟨r23_, hr24_, hd⟩ := Option.bind_eq_some_iff.1 hd
    refine s_call (tronageref20_Reader_now_sim  s22_ hr24_) ?_
    rintro _ h25_ ⟨f26_, t6, d29_, le28_, rfl, rfl, s27_⟩
    refine ⟨t6, rfl, ?_⟩
    try dsimp only at hd
    refine s_cond hd rfl (fun hb143_ hd => ?_) (fun hb143_ hd => ?_)
    · refine s_put (b := r1) (j := 0) (v := .int .i64 (0 : Int)) s27_.at1 rfl (show (0 : Nat) < 3 by decide) ?_
      intro h31_ s30_
      refine s_put (b := r1) (j := 1) (v := .int .i64 (0 : Int)) s30_ rfl (show (1 : Nat) < 3 by decide) ?_
      intro h33_ s32_
      refine s_put (b := r1) (j := 2) (v := .slice none 0 0) s32_ rfl (show (2 : Nat) < 3 by decide) ?_
      intro h35_ s34_
      refine s_loadR (b := r1) (j := 0) (x := (0 : Int)) s34_ rfl ?_
      refine s_loadR (b := r1) (j := 1) (x := (0 : Int)) s34_ rfl ?_
      refine s_loadR (b := r1) (j := 2) (x := ((none, 0, 0) : Slc)) s34_ rfl ?_
      obtain rfl := Option.some.inj hd
      have s36_ := s34_.tail
      have s37_ := s36_.tail
      exact finOf_back ⟨f26_, (((0 : Int), (0 : Int), ((none, 0, 0) : Slc), ()), (0 : Int), (0 : Int), ()), ([] : List Ex), le28_, rfl, rfl, (Ro.SliceIs.nil exRo f26_), s37_⟩
    · obtain ⟨r38_, hr39_, hd⟩ := Option.bind_eq_some_iff.1 hd
      refine s_call (tronageref20_Reader_sum_sim (tronageref20_Reader_factor_sim fuel)  s27_ hr39_) ?_
      rintro _ h40_ ⟨f41_, t10, d44_, d47_, le43_, rfl, rfl, k46_, s42_⟩
      refine ⟨t10, rfl, ?_⟩
      try dsimp only at hd
      have n45_ := k46_.length
      refine s_new (vs := [.int .i64 (0 : Int), .int .i64 (0 : Int), .slice none 0 0]) s42_ ?_
      intro r11 h49_ s48_
      refine s_put (b := r11) (j := 0) (v := .int .i64 t10.1) s48_ rfl (show (0 : Nat) < 3 by decide) ?_
      intro h51_ s50_
      refine s_put (b := r11) (j := 1) (v := .int .i64 t10.2.1) s50_ rfl (show (1 : Nat) < 3 by decide) ?_
      intro h53_ s52_
      refine s_put (b := r11) (j := 2) (v := .slice t10.2.2.1.1 t10.2.2.1.2.1 t10.2.2.1.2.2) s52_ rfl (show (2 : Nat) < 3 by decide) ?_
      intro h55_ s54_
      have s56_ := s54_.at1
      obtain ⟨r57_, hr58_, hd⟩ := Option.bind_eq_some_iff.1 hd
      refine s_call (tronageref20_Reader_now_sim  s56_ hr58_) ?_
      rintro _ h59_ ⟨f60_, t12, d63_, le62_, rfl, rfl, s61_⟩
      refine ⟨t12, rfl, ?_⟩
      try dsimp only at hd
      obtain ⟨g64_, hx65_, hd⟩ := Option.bind_eq_some_iff.1 hd
      refine s_join (fun (y : Unit) w_ g => ∃ ψ : Snap, ∃ l66_ : (ByteArray × Int × Int × Int × Int), Sub f60_ ψ ∧ l66_ = g ∧ St ψ (⟨Rep.obj 51 (Rep.prod (Rep.ro Ro.str) (Rep.prod (Rep.ro (Ro.int .i64)) (Rep.prod (Rep.ro (Ro.int .i64)) (Rep.prod (Rep.ro (Ro.int .i64)) (Rep.ro (Ro.int .i64)))))), [.pointer (some ⟨r5, 0, none⟩)], l66_⟩ :: ⟨Rep.raw 25, [.pointer (some ⟨r11, 0, none⟩)], [.int .i64 t10.1, .int .i64 t10.2.1, .slice t10.2.2.1.1 t10.2.2.1.2.1 t10.2.2.1.2.2]⟩ :: ⟨Rep.raw 25, [.pointer (some ⟨r1, 0, none⟩)], [.int .i64 (0 : Int), .int .i64 (0 : Int), .slice none 0 0]⟩ :: F) w_) (g := g64_) ?_ ?_
      · refine s_cond hx65_ rfl (fun hb80_ hx65_ => ?_) (fun hb80_ hx65_ => ?_)
        · obtain ⟨r67_, hr68_, hx65_⟩ := Option.bind_eq_some_iff.1 hx65_
          refine s_call (tronageref20_Reader_fail_sim  s61_ hr68_) ?_
          rintro _ h69_ ⟨f70_, t14, d73_, le72_, rfl, rfl, s71_⟩
          refine ⟨t14, rfl, ?_⟩
          have s74_ := s71_.at2
          have s75_ := s74_.at2
          have s76_ := s75_.at2
          obtain rfl := Option.some.inj hx65_
          exact s_out (()) rfl ⟨f70_, d73_, le72_, rfl, s76_⟩
        · have s77_ := s61_.at2
          have s78_ := s77_.at2
          have s79_ := s78_.at2
          obtain rfl := Option.some.inj hx65_
          exact s_out (()) rfl ⟨f60_, d63_, (Sub.refl _), rfl, s79_⟩
      · rintro z13 h81_ ⟨f82_, d85_, le83_, rfl, s84_⟩
        try dsimp only at hd
        obtain ⟨b86_, vs87_, e88_, hl89_, s90_⟩ := s84_.open
        obtain rfl : r5 = b86_ := by simpa using e88_
        clear e88_
        have s91_ := s90_.at1
        obtain ⟨v92_, w93_, rfl, hl95_, s94_⟩ := s91_.pair
        obtain ⟨g96_, s97_⟩ := s94_.ro
        subst g96_
        obtain ⟨v99_, w100_, rfl, hl102_, s101_⟩ := s97_.pair
        obtain ⟨g103_, s104_⟩ := s101_.ro
        subst g103_
        obtain ⟨v106_, w107_, rfl, hl109_, s108_⟩ := s104_.pair
        obtain ⟨g110_, s111_⟩ := s108_.ro
        subst g110_
        obtain ⟨v113_, w114_, rfl, hl116_, s115_⟩ := s111_.pair
        obtain ⟨g117_, s118_⟩ := s115_.ro
        subst g117_
        obtain ⟨g120_, s121_⟩ := s118_.ro
        subst g120_
        have s123_ : St f82_ (⟨Rep.raw 51, [.pointer (some ⟨r5, 0, none⟩)], [.string (d85_.1), .int .i64 (d85_.2.1), .int .i64 (d85_.2.2.1), .int .i64 (d85_.2.2.2.1), .int .i64 (d85_.2.2.2.2)]⟩ :: ⟨Rep.raw 25, [.pointer (some ⟨r11, 0, none⟩)], [.int .i64 t10.1, .int .i64 t10.2.1, .slice t10.2.2.1.1 t10.2.2.1.2.1 t10.2.2.1.2.2]⟩ :: ⟨Rep.raw 25, [.pointer (some ⟨r1, 0, none⟩)], [.int .i64 (0 : Int), .int .i64 (0 : Int), .slice none 0 0]⟩ :: F) _ := s121_
        refine s_loadR (b := r5) (j := 3) (x := (d85_.2.2.2.1)) s123_ rfl ?_
        refine s_cond hd rfl (fun hb142_ hd => ?_) (fun hb142_ hd => ?_)
        · refine s_loadR (b := r5) (j := 3) (x := (d85_.2.2.2.1)) s123_ rfl ?_
          refine s_loadR (b := r5) (j := 4) (x := (d85_.2.2.2.2)) s123_ rfl ?_
          refine s_put (b := r1) (j := 0) (v := .int .i64 (0 : Int)) s123_.at2 rfl (show (0 : Nat) < 3 by decide) ?_
          intro h125_ s124_
          refine s_put (b := r1) (j := 1) (v := .int .i64 (0 : Int)) s124_ rfl (show (1 : Nat) < 3 by decide) ?_
          intro h127_ s126_
          refine s_put (b := r1) (j := 2) (v := .slice none 0 0) s126_ rfl (show (2 : Nat) < 3 by decide) ?_
          intro h129_ s128_
          refine t_still (St.cell (b := r5) (j := 4) s128_.at1 rfl) ?_
          refine t_still (St.cell (b := r5) (j := 3) s128_.at1 rfl) ?_
          refine s_loadR (b := r1) (j := 0) (x := (0 : Int)) s128_ rfl ?_
          refine s_loadR (b := r1) (j := 1) (x := (0 : Int)) s128_ rfl ?_
          refine s_loadR (b := r1) (j := 2) (x := ((none, 0, 0) : Slc)) s128_ rfl ?_
          obtain rfl := Option.some.inj hd
          have s130_ := s128_.tail
          have s131_ := s130_.tail
          have s132_ := s131_.tail
          exact finOf_back ⟨f82_, (((0 : Int), (0 : Int), ((none, 0, 0) : Slc), ()), (d85_.2.2.2.1), (d85_.2.2.2.2), ()), ([] : List Ex), (((le28_.trans le43_).trans le62_).trans le83_), rfl, rfl, (Ro.SliceIs.nil exRo f82_), s132_⟩
        · refine s_loadR (b := r11) (j := 0) (x := t10.1) s123_.at1 rfl ?_
          refine s_loadR (b := r11) (j := 1) (x := t10.2.1) s123_.at1 rfl ?_
          refine s_loadR (b := r11) (j := 2) (x := t10.2.2.1) s123_.at1 rfl ?_
          refine s_put (b := r1) (j := 0) (v := .int .i64 t10.1) s123_.at2 rfl (show (0 : Nat) < 3 by decide) ?_
          intro h134_ s133_
          refine s_put (b := r1) (j := 1) (v := .int .i64 t10.2.1) s133_ rfl (show (1 : Nat) < 3 by decide) ?_
          intro h136_ s135_
          refine s_put (b := r1) (j := 2) (v := .slice t10.2.2.1.1 t10.2.2.1.2.1 t10.2.2.1.2.2) s135_ rfl (show (2 : Nat) < 3 by decide) ?_
          intro h138_ s137_
          refine s_loadR (b := r1) (j := 0) (x := t10.1) s137_ rfl ?_
          refine s_loadR (b := r1) (j := 1) (x := t10.2.1) s137_ rfl ?_
          refine s_loadR (b := r1) (j := 2) (x := t10.2.2.1) s137_ rfl ?_
          obtain rfl := Option.some.inj hd
          have s139_ := s137_.tail
          have s140_ := s139_.tail
          have s141_ := s140_.tail
          exact finOf_back ⟨f82_, ((t10.1, t10.2.1, t10.2.2.1, ()), (0 : Int), (0 : Int), ()), d44_, (((le28_.trans le43_).trans le62_).trans le83_), rfl, rfl, (k46_.mono (le62_.trans le83_)), s141_⟩

end Go.Proofs.YtkhfdckieocciaaDoor
