import Derived.Test.YtkhfdckieocciaaDoorBase
import Derived.Test.YtkhfdckieocciaaDoorSim0
import Derived.KernelRfl
namespace Go.Proofs.YtkhfdckieocciaaDoor
open Go Go.Eng
set_option linter.unusedVariables false
set_option maxRecDepth 100000


@[reducible] def expr_Size_C (rec : Ex → Option Int) : Prop := ∀ {φ : Snap} {h : Heap} {F : List Chk} {x_0 : Int × Int × (Option Addr × Nat × Nat) × Unit} {d_x_0_2 : List Ex} (k1_ : Ro.SliceIs exRo φ x_0.2.2.1 d_x_0_2) (s0 : St φ (F) h) {r : Int} (hd : rec (Ex.mk x_0.1 x_0.2.1 d_x_0_2) = some r), CallsH Tryd.prog 16 [(.agg #[(.int .i64 x_0.1), (.int .i64 x_0.2.1), (.slice x_0.2.2.1.1 x_0.2.2.1.2.1 x_0.2.2.1.2.2)])] h (Back fun v h' => ∃ ψ : Snap, ∃ y : Int, Sub φ ψ ∧ v = ((.one (.atom (.int .i64))) : Sh).val y ∧ y = r ∧ St ψ (F) h')
noncomputable def expr_Size_B (rec : Ex → Option Int) (x_0 : Ex) : Option Int :=
  cond (x_0.kind == (0 : Int))
  (some (0 : Int))
  ((forS (σ := Int) (0 : Int) (((List.length x_0.kids) : Nat) : Int) (1 : Int) fun i_z5 z5 =>
      (idx x_0.kids i_z5).bind fun e26 =>
      (rec (Ex.mk e26.kind e26.n e26.kids)).bind fun t14 =>
      some (IntKind.wrap .i64 (z5 + t14))).bind fun z4 =>
    some z4)
theorem expr_Size_step {rec : Ex → Option Int} (Hrec : expr_Size_C rec) {φ : Snap} {h : Heap} {F : List Chk} {x_0 : Int × Int × (Option Addr × Nat × Nat) × Unit} {d_x_0_2 : List Ex} (k1_ : Ro.SliceIs exRo φ x_0.2.2.1 d_x_0_2) (s0 : St φ (F) h) {r : Int} (hd : expr_Size_B rec (Ex.mk x_0.1 x_0.2.1 d_x_0_2) = some r) :
    CallsH Tryd.prog 16 [(.agg #[(.int .i64 x_0.1), (.int .i64 x_0.2.1), (.slice x_0.2.2.1.1 x_0.2.2.1.2.1 x_0.2.2.1.2.2)])] h (Back fun v h' => ∃ ψ : Snap, ∃ y : Int, Sub φ ψ ∧ v = ((.one (.atom (.int .i64))) : Sh).val y ∧ y = r ∧ St ψ (F) h') := by
  refine calls_of mixed Tryd.func16 ?_
  rw [expr_Size_den]
  unfold expr_Size_T
  unfold expr_Size_B at hd
  try dsimp only [Ex.kind_mk, Ex.n_mk, Ex.kids_mk] at hd
  have n2_ : x_0.2.2.1.2.1 = List.length d_x_0_2 := k1_.length
  refine s_new (vs := [.int .i64 x_0.1, .int .i64 x_0.2.1, .slice x_0.2.2.1.1 x_0.2.2.1.2.1 x_0.2.2.1.2.2]) s0 ?_
  intro r1 h4_ s3_
  refine s_loadR (b := r1) (j := 0) (x := x_0.1) s3_ rfl ?_
  refine s_cond hd rfl (fun hb62_ hd => ?_) (fun hb62_ hd => ?_)
  · obtain rfl := Option.some.inj hd
    have s5_ := s3_.tail
    exact finOf_back ⟨φ, (0 : Int), (Sub.refl _), rfl, rfl, s5_⟩
  · refine s_loadR (b := r1) (j := 2) (x := x_0.2.2.1) s3_ rfl ?_
    obtain ⟨g6_, hx7_, hd⟩ := Option.bind_eq_some_iff.1 hd
    refine s_block (fun (y : Int × Int × Unit) w_ g => ∃ ψ : Snap, Sub φ ψ ∧ y.2.1 = g ∧ St ψ (⟨Rep.raw 25, [.pointer (some ⟨r1, 0, none⟩)], [.int .i64 x_0.1, .int .i64 x_0.2.1, .slice x_0.2.2.1.1 x_0.2.2.1.2.1 x_0.2.2.1.2.2]⟩ :: F) w_) (g := g6_) ?_ ?_
    · refine s_forS hx7_ (fun i8_ (y : Int × Int × Unit) w_ g => ∃ ψ : Snap, Sub φ ψ ∧ y.1 = i8_ ∧ y.2.1 = g ∧ St ψ (⟨Rep.raw 25, [.pointer (some ⟨r1, 0, none⟩)], [.int .i64 x_0.1, .int .i64 x_0.2.1, .slice x_0.2.2.1.1 x_0.2.2.1.2.1 x_0.2.2.1.2.2]⟩ :: F) w_) ((0 : Int), (1 : Int), ()) rfl ⟨φ, (Sub.refl _), rfl, rfl, s3_⟩ ?_ ?_
      · rintro _ z5 h14_ _ _ ⟨f11_, le12_, rfl, rfl, s13_⟩ he9_ h116_ h217_ hw15_
        try dsimp only at he9_ h116_ h217_ hw15_
        refine t_true (by rw [n2_]; exact decide_eq_true h217_) ?_
        obtain ⟨x18_, hx19_, he9_⟩ := Option.bind_eq_some_iff.1 he9_
        obtain ⟨a20_, cs21_, ea22_, hi23_, q24_, cl25_⟩ := (k1_.mono le12_).get hx19_
        refine t_deref _ ea22_ (t_chk hi23_ ?_)
        have q27_ := exRo_open q24_
        obtain ⟨_, _, rfl, q28_, q29_⟩ := q27_
        obtain rfl := q28_
        obtain ⟨_, _, rfl, q30_, q31_⟩ := q29_
        obtain rfl := q30_
        obtain ⟨t32_, rfl, k33_⟩ := q31_
        have n34_ := k33_.length
        refine s_load (x := x18_.kind) (cellS_heap (Sub.trans (Sub.refl _) s13_.sub) (cl25_ 0 _ rfl)) rfl ?_
        refine s_load (x := x18_.n) (by rw [add_add]; exact (cellS_heap (Sub.trans (Sub.refl _) s13_.sub) (cl25_ 1 _ rfl))) rfl ?_
        refine s_load (x := t32_) (by rw [add_add]; exact (cellS_heap (Sub.trans (Sub.refl _) s13_.sub) (cl25_ 2 _ rfl))) rfl ?_
        refine s_new (vs := [.int .i64 (0 : Int), .int .i64 (0 : Int), .slice none 0 0]) s13_ ?_
        intro r10 h36_ s35_
        refine s_put (b := r10) (j := 0) (v := .int .i64 x18_.kind) s35_ rfl (show (0 : Nat) < 3 by decide) ?_
        intro h38_ s37_
        refine s_put (b := r10) (j := 1) (v := .int .i64 x18_.n) s37_ rfl (show (1 : Nat) < 3 by decide) ?_
        intro h40_ s39_
        refine s_put (b := r10) (j := 2) (v := .slice t32_.1 t32_.2.1 t32_.2.2) s39_ rfl (show (2 : Nat) < 3 by decide) ?_
        intro h42_ s41_
        refine s_loadR (b := r10) (j := 0) (x := x18_.kind) s41_ rfl ?_
        refine s_loadR (b := r10) (j := 1) (x := x18_.n) s41_ rfl ?_
        refine s_loadR (b := r10) (j := 2) (x := t32_) s41_ rfl ?_
        obtain ⟨r43_, hr44_, he9_⟩ := Option.bind_eq_some_iff.1 he9_
        refine s_call (Hrec (x_0 := (x18_.kind, x18_.n, t32_, ())) k33_ s41_ hr44_) ?_
        rintro _ h45_ ⟨f46_, t14, le48_, rfl, rfl, s47_⟩
        refine ⟨t14, rfl, ?_⟩
        have s49_ := s47_.tail
        obtain rfl := Option.some.inj he9_
        exact s_next ((IntKind.wrap .i64 (z5.1 + (1 : Int))), (IntKind.wrap .i64 (z5.2.1 + t14)), ()) _ rfl rfl ⟨f46_, (le12_.trans le48_), hw15_, rfl, s49_⟩
      · rintro _ z5 h53_ ⟨f50_, le51_, rfl, rfl, s52_⟩ hge54_
        refine t_false (by rw [n2_]; exact decide_eq_false (Int.not_lt.2 hge54_)) ?_
        exact around_brk (meetB_brk (z5.1, z5.2.1, ()) rfl ⟨f50_, le51_, rfl, s52_⟩)
    · rintro z4 h56_ ⟨f57_, le58_, rfl, s59_⟩
      try dsimp only at hd
      obtain rfl := Option.some.inj hd
      have s61_ := s59_.tail
      exact finOf_back ⟨f57_, z4.2.1, le58_, rfl, rfl, s61_⟩
noncomputable def expr_Size_D : Nat → Ex → Option Int
  | 0 => fun _ => none
  | n + 1 => expr_Size_B (expr_Size_D n)
theorem expr_Size_sim : ∀ n, expr_Size_C (expr_Size_D n)
  | 0 => by intro k0 s0 r hd; cases hd
  | n + 1 => by intro k0 s0 r hd; exact expr_Size_step (expr_Size_sim n) k0 s0 hd

@[reducible] def expr_Most_C (rec : Ex → Option Int) : Prop := ∀ {φ : Snap} {h : Heap} {F : List Chk} {x_0 : Int × Int × (Option Addr × Nat × Nat) × Unit} {d_x_0_2 : List Ex} (k1_ : Ro.SliceIs exRo φ x_0.2.2.1 d_x_0_2) (s0 : St φ (F) h) {r : Int} (hd : rec (Ex.mk x_0.1 x_0.2.1 d_x_0_2) = some r), CallsH Tryd.prog 22 [(.agg #[(.int .i64 x_0.1), (.int .i64 x_0.2.1), (.slice x_0.2.2.1.1 x_0.2.2.1.2.1 x_0.2.2.1.2.2)])] h (Back fun v h' => ∃ ψ : Snap, ∃ y : Int, Sub φ ψ ∧ v = ((.one (.atom (.int .i64))) : Sh).val y ∧ y = r ∧ St ψ (F) h')
noncomputable def expr_Most_B (rec : Ex → Option Int) (x_0 : Ex) : Option Int :=
  (cond (x_0.kind == (2 : Int))
  (some true)
  (some (x_0.kind == (3 : Int)))).bind fun z2 =>
  (cond z2
  (some (if x_0.n > (0 : Int) then x_0.n else (0 : Int)))
  (some (0 : Int))).bind fun z5 =>
  (forS (σ := Int) (0 : Int) (((List.length x_0.kids) : Nat) : Int) z5 fun i_z9 z9 =>
    (idx x_0.kids i_z9).bind fun e39 =>
    (rec (Ex.mk e39.kind e39.n e39.kids)).bind fun t18 =>
    some (if t18 > z9 then t18 else z9)).bind fun z8 =>
  some z8
theorem expr_Most_step {rec : Ex → Option Int} (Hrec : expr_Most_C rec) {φ : Snap} {h : Heap} {F : List Chk} {x_0 : Int × Int × (Option Addr × Nat × Nat) × Unit} {d_x_0_2 : List Ex} (k1_ : Ro.SliceIs exRo φ x_0.2.2.1 d_x_0_2) (s0 : St φ (F) h) {r : Int} (hd : expr_Most_B rec (Ex.mk x_0.1 x_0.2.1 d_x_0_2) = some r) :
    CallsH Tryd.prog 22 [(.agg #[(.int .i64 x_0.1), (.int .i64 x_0.2.1), (.slice x_0.2.2.1.1 x_0.2.2.1.2.1 x_0.2.2.1.2.2)])] h (Back fun v h' => ∃ ψ : Snap, ∃ y : Int, Sub φ ψ ∧ v = ((.one (.atom (.int .i64))) : Sh).val y ∧ y = r ∧ St ψ (F) h') := by
  refine calls_of mixed Tryd.func22 ?_
  rw [expr_Most_den]
  unfold expr_Most_T
  unfold expr_Most_B at hd
  try dsimp only [Ex.kind_mk, Ex.n_mk, Ex.kids_mk] at hd
  have n2_ : x_0.2.2.1.2.1 = List.length d_x_0_2 := k1_.length
  refine s_new (vs := [.int .i64 x_0.1, .int .i64 x_0.2.1, .slice x_0.2.2.1.1 x_0.2.2.1.2.1 x_0.2.2.1.2.2]) s0 ?_
  intro r1 h4_ s3_
  obtain ⟨g5_, hx6_, hd⟩ := Option.bind_eq_some_iff.1 hd
  refine s_join (fun (y : Bool × Unit) w_ g => ∃ ψ : Snap, Sub φ ψ ∧ y.1 = g ∧ St ψ (⟨Rep.raw 25, [.pointer (some ⟨r1, 0, none⟩)], [.int .i64 x_0.1, .int .i64 x_0.2.1, .slice x_0.2.2.1.1 x_0.2.2.1.2.1 x_0.2.2.1.2.2]⟩ :: F) w_) (g := g5_) ?_ ?_
  · refine s_loadR (b := r1) (j := 0) (x := x_0.1) s3_ rfl ?_
    refine s_cond hx6_ rfl (fun hb7_ hx6_ => ?_) (fun hb7_ hx6_ => ?_)
    · obtain rfl := Option.some.inj hx6_
      exact s_out (true, ()) rfl ⟨φ, (Sub.refl _), rfl, s3_⟩
    · refine s_loadR (b := r1) (j := 0) (x := x_0.1) s3_ rfl ?_
      obtain rfl := Option.some.inj hx6_
      exact s_out ((x_0.1 == (3 : Int)), ()) rfl ⟨φ, (Sub.refl _), rfl, s3_⟩
  · rintro z2 h8_ ⟨f9_, le10_, rfl, s11_⟩
    try dsimp only at hd
    obtain ⟨g12_, hx13_, hd⟩ := Option.bind_eq_some_iff.1 hd
    refine s_join (fun (y : Int × Unit) w_ g => ∃ ψ : Snap, Sub f9_ ψ ∧ y.1 = g ∧ St ψ (⟨Rep.raw 25, [.pointer (some ⟨r1, 0, none⟩)], [.int .i64 x_0.1, .int .i64 x_0.2.1, .slice x_0.2.2.1.1 x_0.2.2.1.2.1 x_0.2.2.1.2.2]⟩ :: F) w_) (g := g12_) ?_ ?_
    · refine s_cond hx13_ rfl (fun hb14_ hx13_ => ?_) (fun hb14_ hx13_ => ?_)
      · refine s_loadR (b := r1) (j := 1) (x := x_0.2.1) s11_ rfl ?_
        obtain rfl := Option.some.inj hx13_
        exact s_out ((if x_0.2.1 > (0 : Int) then x_0.2.1 else (0 : Int)), ()) rfl ⟨f9_, (Sub.refl _), rfl, s11_⟩
      · obtain rfl := Option.some.inj hx13_
        exact s_out ((0 : Int), ()) rfl ⟨f9_, (Sub.refl _), rfl, s11_⟩
    · rintro z5 h15_ ⟨f16_, le17_, rfl, s18_⟩
      try dsimp only at hd
      refine s_loadR (b := r1) (j := 2) (x := x_0.2.2.1) s18_ rfl ?_
      obtain ⟨g19_, hx20_, hd⟩ := Option.bind_eq_some_iff.1 hd
      refine s_block (fun (y : Int × Int × Unit) w_ g => ∃ ψ : Snap, Sub f16_ ψ ∧ y.2.1 = g ∧ St ψ (⟨Rep.raw 25, [.pointer (some ⟨r1, 0, none⟩)], [.int .i64 x_0.1, .int .i64 x_0.2.1, .slice x_0.2.2.1.1 x_0.2.2.1.2.1 x_0.2.2.1.2.2]⟩ :: F) w_) (g := g19_) ?_ ?_
      · refine s_forS hx20_ (fun i21_ (y : Int × Int × Unit) w_ g => ∃ ψ : Snap, Sub f16_ ψ ∧ y.1 = i21_ ∧ y.2.1 = g ∧ St ψ (⟨Rep.raw 25, [.pointer (some ⟨r1, 0, none⟩)], [.int .i64 x_0.1, .int .i64 x_0.2.1, .slice x_0.2.2.1.1 x_0.2.2.1.2.1 x_0.2.2.1.2.2]⟩ :: F) w_) ((0 : Int), z5.1, ()) rfl ⟨f16_, (Sub.refl _), rfl, rfl, s18_⟩ ?_ ?_
        · rintro _ z9 h27_ _ _ ⟨f24_, le25_, rfl, rfl, s26_⟩ he22_ h129_ h230_ hw28_
          try dsimp only at he22_ h129_ h230_ hw28_
          refine t_true (by rw [n2_]; exact decide_eq_true h230_) ?_
          obtain ⟨x31_, hx32_, he22_⟩ := Option.bind_eq_some_iff.1 he22_
          obtain ⟨a33_, cs34_, ea35_, hi36_, q37_, cl38_⟩ := (k1_.mono ((le10_.trans le17_).trans le25_)).get hx32_
          refine t_deref _ ea35_ (t_chk hi36_ ?_)
          have q40_ := exRo_open q37_
          obtain ⟨_, _, rfl, q41_, q42_⟩ := q40_
          obtain rfl := q41_
          obtain ⟨_, _, rfl, q43_, q44_⟩ := q42_
          obtain rfl := q43_
          obtain ⟨t45_, rfl, k46_⟩ := q44_
          have n47_ := k46_.length
          refine s_load (x := x31_.kind) (cellS_heap (Sub.trans (Sub.refl _) s26_.sub) (cl38_ 0 _ rfl)) rfl ?_
          refine s_load (x := x31_.n) (by rw [add_add]; exact (cellS_heap (Sub.trans (Sub.refl _) s26_.sub) (cl38_ 1 _ rfl))) rfl ?_
          refine s_load (x := t45_) (by rw [add_add]; exact (cellS_heap (Sub.trans (Sub.refl _) s26_.sub) (cl38_ 2 _ rfl))) rfl ?_
          refine s_new (vs := [.int .i64 (0 : Int), .int .i64 (0 : Int), .slice none 0 0]) s26_ ?_
          intro r14 h49_ s48_
          refine s_put (b := r14) (j := 0) (v := .int .i64 x31_.kind) s48_ rfl (show (0 : Nat) < 3 by decide) ?_
          intro h51_ s50_
          refine s_put (b := r14) (j := 1) (v := .int .i64 x31_.n) s50_ rfl (show (1 : Nat) < 3 by decide) ?_
          intro h53_ s52_
          refine s_put (b := r14) (j := 2) (v := .slice t45_.1 t45_.2.1 t45_.2.2) s52_ rfl (show (2 : Nat) < 3 by decide) ?_
          intro h55_ s54_
          refine s_loadR (b := r14) (j := 0) (x := x31_.kind) s54_ rfl ?_
          refine s_loadR (b := r14) (j := 1) (x := x31_.n) s54_ rfl ?_
          refine s_loadR (b := r14) (j := 2) (x := t45_) s54_ rfl ?_
          obtain ⟨r56_, hr57_, he22_⟩ := Option.bind_eq_some_iff.1 he22_
          refine s_call (Hrec (x_0 := (x31_.kind, x31_.n, t45_, ())) k46_ s54_ hr57_) ?_
          rintro _ h58_ ⟨f59_, t18, le61_, rfl, rfl, s60_⟩
          refine ⟨t18, rfl, ?_⟩
          have s62_ := s60_.tail
          obtain rfl := Option.some.inj he22_
          exact s_next ((IntKind.wrap .i64 (z9.1 + (1 : Int))), (if t18 > z9.2.1 then t18 else z9.2.1), ()) _ rfl rfl ⟨f59_, (le25_.trans le61_), hw28_, rfl, s62_⟩
        · rintro _ z9 h66_ ⟨f63_, le64_, rfl, rfl, s65_⟩ hge67_
          refine t_false (by rw [n2_]; exact decide_eq_false (Int.not_lt.2 hge67_)) ?_
          exact around_brk (meetB_brk (z9.1, z9.2.1, ()) rfl ⟨f63_, le64_, rfl, s65_⟩)
      · rintro z8 h69_ ⟨f70_, le71_, rfl, s72_⟩
        try dsimp only at hd
        obtain rfl := Option.some.inj hd
        have s74_ := s72_.tail
        exact finOf_back ⟨f70_, z8.2.1, ((le10_.trans le17_).trans le71_), rfl, rfl, s74_⟩
noncomputable def expr_Most_D : Nat → Ex → Option Int
  | 0 => fun _ => none
  | n + 1 => expr_Most_B (expr_Most_D n)
theorem expr_Most_sim : ∀ n, expr_Most_C (expr_Most_D n)
  | 0 => by intro k0 s0 r hd; cases hd
  | n + 1 => by intro k0 s0 r hd; exact expr_Most_step (expr_Most_sim n) k0 s0 hd

@[reducible] def tronageref20_Same_C (rec : Ex → Ex → Option Bool) : Prop := ∀ {φ : Snap} {h : Heap} {F : List Chk} {a_0 : Int × Int × (Option Addr × Nat × Nat) × Unit} {d_a_0_2 : List Ex} {b_1 : Int × Int × (Option Addr × Nat × Nat) × Unit} {d_b_1_2 : List Ex} (k1_ : Ro.SliceIs exRo φ a_0.2.2.1 d_a_0_2) (k3_ : Ro.SliceIs exRo φ b_1.2.2.1 d_b_1_2) (s0 : St φ (F) h) {r : Bool} (hd : rec (Ex.mk a_0.1 a_0.2.1 d_a_0_2) (Ex.mk b_1.1 b_1.2.1 d_b_1_2) = some r), CallsH Tryd.prog 13 [(.agg #[(.int .i64 a_0.1), (.int .i64 a_0.2.1), (.slice a_0.2.2.1.1 a_0.2.2.1.2.1 a_0.2.2.1.2.2)]), (.agg #[(.int .i64 b_1.1), (.int .i64 b_1.2.1), (.slice b_1.2.2.1.1 b_1.2.2.1.2.1 b_1.2.2.1.2.2)])] h (Back fun v h' => ∃ ψ : Snap, ∃ y : Bool, Sub φ ψ ∧ v = ((.one (.atom .bool)) : Sh).val y ∧ y = r ∧ St ψ (F) h')
noncomputable def tronageref20_Same_B (rec : Ex → Ex → Option Bool) (a_0 : Ex) (b_1 : Ex) : Option Bool :=
  (cond (a_0.kind != b_1.kind)
  (some true)
  (cond (a_0.n != b_1.n)
    (some true)
    (some ((((List.length a_0.kids) : Nat) : Int) != (((List.length b_1.kids) : Nat) : Int))))).bind fun z3 =>
  cond z3
  (some false)
  ((forN (σ := Unit) (β := Bool) (0 : Int) (((List.length a_0.kids) : Nat) : Int) () fun i_z11 z11 =>
      (idx a_0.kids i_z11).bind fun e47 =>
      (idx b_1.kids i_z11).bind fun e64 =>
      (rec (Ex.mk e47.kind e47.n e47.kids) (Ex.mk e64.kind e64.n e64.kids)).bind fun t23 =>
      cond (!t23)
      (some (Step.done false))
      (some (Step.next ()))).bind fun e_z10 => match e_z10 with
    | .next z10 =>
      some true
    | .done q99 => some q99)
theorem tronageref20_Same_step {rec : Ex → Ex → Option Bool} (Hrec : tronageref20_Same_C rec) {φ : Snap} {h : Heap} {F : List Chk} {a_0 : Int × Int × (Option Addr × Nat × Nat) × Unit} {d_a_0_2 : List Ex} {b_1 : Int × Int × (Option Addr × Nat × Nat) × Unit} {d_b_1_2 : List Ex} (k1_ : Ro.SliceIs exRo φ a_0.2.2.1 d_a_0_2) (k3_ : Ro.SliceIs exRo φ b_1.2.2.1 d_b_1_2) (s0 : St φ (F) h) {r : Bool} (hd : tronageref20_Same_B rec (Ex.mk a_0.1 a_0.2.1 d_a_0_2) (Ex.mk b_1.1 b_1.2.1 d_b_1_2) = some r) :
    CallsH Tryd.prog 13 [(.agg #[(.int .i64 a_0.1), (.int .i64 a_0.2.1), (.slice a_0.2.2.1.1 a_0.2.2.1.2.1 a_0.2.2.1.2.2)]), (.agg #[(.int .i64 b_1.1), (.int .i64 b_1.2.1), (.slice b_1.2.2.1.1 b_1.2.2.1.2.1 b_1.2.2.1.2.2)])] h (Back fun v h' => ∃ ψ : Snap, ∃ y : Bool, Sub φ ψ ∧ v = ((.one (.atom .bool)) : Sh).val y ∧ y = r ∧ St ψ (F) h') := by
  refine calls_of mixed Tryd.func13 ?_
  rw [tronageref20_Same_den]
  unfold tronageref20_Same_T
  unfold tronageref20_Same_B at hd
  try dsimp only [Ex.kind_mk, Ex.n_mk, Ex.kids_mk] at hd
  have n2_ : a_0.2.2.1.2.1 = List.length d_a_0_2 := k1_.length
  have n4_ : b_1.2.2.1.2.1 = List.length d_b_1_2 := k3_.length
  refine s_new (vs := [.int .i64 a_0.1, .int .i64 a_0.2.1, .slice a_0.2.2.1.1 a_0.2.2.1.2.1 a_0.2.2.1.2.2]) s0 ?_
  intro r1 h6_ s5_
  refine s_new (vs := [.int .i64 b_1.1, .int .i64 b_1.2.1, .slice b_1.2.2.1.1 b_1.2.2.1.2.1 b_1.2.2.1.2.2]) s5_ ?_
  intro r2 h8_ s7_
  obtain ⟨g9_, hx10_, hd⟩ := Option.bind_eq_some_iff.1 hd
  refine s_join (fun (y : Bool × Unit) w_ g => ∃ ψ : Snap, Sub φ ψ ∧ y.1 = g ∧ St ψ (⟨Rep.raw 25, [.pointer (some ⟨r2, 0, none⟩)], [.int .i64 b_1.1, .int .i64 b_1.2.1, .slice b_1.2.2.1.1 b_1.2.2.1.2.1 b_1.2.2.1.2.2]⟩ :: ⟨Rep.raw 25, [.pointer (some ⟨r1, 0, none⟩)], [.int .i64 a_0.1, .int .i64 a_0.2.1, .slice a_0.2.2.1.1 a_0.2.2.1.2.1 a_0.2.2.1.2.2]⟩ :: F) w_) (g := g9_) ?_ ?_
  · refine s_loadR (b := r1) (j := 0) (x := a_0.1) s7_.at1 rfl ?_
    refine s_loadR (b := r2) (j := 0) (x := b_1.1) s7_ rfl ?_
    refine s_cond hx10_ rfl (fun hb18_ hx10_ => ?_) (fun hb18_ hx10_ => ?_)
    · have s11_ := s7_.at1
      have s12_ := s11_.at1
      obtain rfl := Option.some.inj hx10_
      exact s_out (true, ()) rfl ⟨φ, (Sub.refl _), rfl, s12_⟩
    · refine s_loadR (b := r1) (j := 1) (x := a_0.2.1) s7_.at1 rfl ?_
      refine s_loadR (b := r2) (j := 1) (x := b_1.2.1) s7_ rfl ?_
      refine s_cond hx10_ rfl (fun hb17_ hx10_ => ?_) (fun hb17_ hx10_ => ?_)
      · have s13_ := s7_.at1
        have s14_ := s13_.at1
        obtain rfl := Option.some.inj hx10_
        exact s_out (true, ()) rfl ⟨φ, (Sub.refl _), rfl, s14_⟩
      · refine s_loadR (b := r1) (j := 2) (x := a_0.2.2.1) s7_.at1 rfl ?_
        refine s_loadR (b := r2) (j := 2) (x := b_1.2.2.1) s7_ rfl ?_
        have s15_ := s7_.at1
        have s16_ := s15_.at1
        obtain rfl := Option.some.inj hx10_
        exact s_out ((((a_0.2.2.1.2.1 : Nat) : Int) != ((b_1.2.2.1.2.1 : Nat) : Int)), ()) rfl ⟨φ, (Sub.refl _), (by rw [n2_, n4_]), s16_⟩
  · rintro z3 h19_ ⟨f20_, le21_, rfl, s22_⟩
    try dsimp only at hd
    refine s_cond hd rfl (fun hb100_ hd => ?_) (fun hb100_ hd => ?_)
    · obtain rfl := Option.some.inj hd
      have s23_ := s22_.tail
      have s24_ := s23_.tail
      exact finOf_back ⟨f20_, false, le21_, rfl, rfl, s24_⟩
    · have s27_ := s22_.at1
      have s28_ := s27_.at1
      obtain ⟨g25_, hx26_, hd⟩ := Option.bind_eq_some_iff.1 hd
      refine s_block (fun (y : Int × Bool × Unit) w_ g => ∃ ψ : Snap, Sub f20_ ψ ∧ Step.next () = g ∧ St ψ (⟨Rep.raw 25, [.pointer (some ⟨r2, 0, none⟩)], [.int .i64 b_1.1, .int .i64 b_1.2.1, .slice b_1.2.2.1.1 b_1.2.2.1.2.1 b_1.2.2.1.2.2]⟩ :: ⟨Rep.raw 25, [.pointer (some ⟨r1, 0, none⟩)], [.int .i64 a_0.1, .int .i64 a_0.2.1, .slice a_0.2.2.1.1 a_0.2.2.1.2.1 a_0.2.2.1.2.2]⟩ :: F) w_) (g := g25_) ?_ ?_
      · refine s_forN hx26_ (fun i29_ (y : Int × Bool × Unit) w_ g => ∃ ψ : Snap, Sub f20_ ψ ∧ y.1 = i29_ ∧ () = g ∧ St ψ (⟨Rep.raw 25, [.pointer (some ⟨r2, 0, none⟩)], [.int .i64 b_1.1, .int .i64 b_1.2.1, .slice b_1.2.2.1.1 b_1.2.2.1.2.1 b_1.2.2.1.2.2]⟩ :: ⟨Rep.raw 25, [.pointer (some ⟨r1, 0, none⟩)], [.int .i64 a_0.1, .int .i64 a_0.2.1, .slice a_0.2.2.1.1 a_0.2.2.1.2.1 a_0.2.2.1.2.2]⟩ :: F) w_) ((0 : Int), false, ()) rfl ⟨f20_, (Sub.refl _), rfl, rfl, s28_⟩ ?_ ?_
        · rintro _ z11 h35_ _ _ ⟨f32_, le33_, rfl, rfl, s34_⟩ he30_ h137_ h238_ hw36_ hb31_
          try dsimp only at he30_ h137_ h238_ hw36_
          refine s_loadR (b := r1) (j := 2) (x := a_0.2.2.1) s34_.at1 rfl ?_
          refine t_true (by rw [n2_]; exact decide_eq_true h238_) ?_
          refine s_loadR (b := r1) (j := 2) (x := a_0.2.2.1) s34_.at1 rfl ?_
          obtain ⟨x39_, hx40_, he30_⟩ := Option.bind_eq_some_iff.1 he30_
          obtain ⟨a41_, cs42_, ea43_, hi44_, q45_, cl46_⟩ := (k1_.mono (le21_.trans le33_)).get hx40_
          refine t_deref _ ea43_ (t_chk hi44_ ?_)
          have q48_ := exRo_open q45_
          obtain ⟨_, _, rfl, q49_, q50_⟩ := q48_
          obtain rfl := q49_
          obtain ⟨_, _, rfl, q51_, q52_⟩ := q50_
          obtain rfl := q51_
          obtain ⟨t53_, rfl, k54_⟩ := q52_
          have n55_ := k54_.length
          refine s_load (x := x39_.kind) (cellS_heap (Sub.trans (Sub.refl _) s34_.sub) (cl46_ 0 _ rfl)) rfl ?_
          refine s_load (x := x39_.n) (by rw [add_add]; exact (cellS_heap (Sub.trans (Sub.refl _) s34_.sub) (cl46_ 1 _ rfl))) rfl ?_
          refine s_load (x := t53_) (by rw [add_add]; exact (cellS_heap (Sub.trans (Sub.refl _) s34_.sub) (cl46_ 2 _ rfl))) rfl ?_
          refine s_loadR (b := r2) (j := 2) (x := b_1.2.2.1) s34_ rfl ?_
          obtain ⟨x56_, hx57_, he30_⟩ := Option.bind_eq_some_iff.1 he30_
          obtain ⟨a58_, cs59_, ea60_, hi61_, q62_, cl63_⟩ := (k3_.mono (le21_.trans le33_)).get hx57_
          refine t_deref _ ea60_ (t_chk hi61_ ?_)
          have q65_ := exRo_open q62_
          obtain ⟨_, _, rfl, q66_, q67_⟩ := q65_
          obtain rfl := q66_
          obtain ⟨_, _, rfl, q68_, q69_⟩ := q67_
          obtain rfl := q68_
          obtain ⟨t70_, rfl, k71_⟩ := q69_
          have n72_ := k71_.length
          refine s_load (x := x56_.kind) (cellS_heap (Sub.trans (Sub.refl _) s34_.sub) (cl63_ 0 _ rfl)) rfl ?_
          refine s_load (x := x56_.n) (by rw [add_add]; exact (cellS_heap (Sub.trans (Sub.refl _) s34_.sub) (cl63_ 1 _ rfl))) rfl ?_
          refine s_load (x := t70_) (by rw [add_add]; exact (cellS_heap (Sub.trans (Sub.refl _) s34_.sub) (cl63_ 2 _ rfl))) rfl ?_
          obtain ⟨r73_, hr74_, he30_⟩ := Option.bind_eq_some_iff.1 he30_
          refine s_call (Hrec (a_0 := (x39_.kind, x39_.n, t53_, ())) (b_1 := (x56_.kind, x56_.n, t70_, ())) k54_ k71_ s34_ hr74_) ?_
          rintro _ h75_ ⟨f76_, t23, le78_, rfl, rfl, s77_⟩
          refine ⟨t23, rfl, ?_⟩
          refine s_cond he30_ rfl (fun hb83_ he30_ => ?_) (fun hb83_ he30_ => ?_)
          · obtain rfl := Option.some.inj he30_
            obtain rfl := hb31_ _ rfl
            try dsimp only at hd
            obtain rfl := Option.some.inj hd
            have s79_ := s77_.tail
            have s80_ := s79_.tail
            exact around_ret (meetB_ret (finOf_back ⟨f76_, false, ((le21_.trans le33_).trans le78_), rfl, rfl, s80_⟩))
          · have s81_ := s77_.at1
            have s82_ := s81_.at1
            obtain rfl := Option.some.inj he30_
            exact s_next ((IntKind.wrap .i64 (z11.1 + (1 : Int))), z11.2.1, ()) _ rfl rfl ⟨f76_, (le33_.trans le78_), hw36_, rfl, s82_⟩
        · rintro _ z11 h87_ _ ⟨f84_, le85_, rfl, rfl, s86_⟩ hge88_ hr89_
          subst hr89_
          refine s_loadR (b := r1) (j := 2) (x := a_0.2.2.1) s86_.at1 rfl ?_
          refine t_false (by rw [n2_]; exact decide_eq_false (Int.not_lt.2 hge88_)) ?_
          have s90_ := s86_.at1
          have s91_ := s90_.at1
          exact around_brk (meetB_brk (z11.1, z11.2.1, ()) rfl ⟨f84_, le85_, rfl, s91_⟩)
      · rintro z10 h92_ ⟨f93_, le94_, rfl, s95_⟩
        try dsimp only at hd
        obtain rfl := Option.some.inj hd
        have s97_ := s95_.tail
        have s98_ := s97_.tail
        exact finOf_back ⟨f93_, true, (le21_.trans le94_), rfl, rfl, s98_⟩
noncomputable def tronageref20_Same_D : Nat → Ex → Ex → Option Bool
  | 0 => fun _ _ => none
  | n + 1 => tronageref20_Same_B (tronageref20_Same_D n)
theorem tronageref20_Same_sim : ∀ n, tronageref20_Same_C (tronageref20_Same_D n)
  | 0 => by intro k0 k1 s0 r hd; cases hd
  | n + 1 => by intro k0 k1 s0 r hd; exact tronageref20_Same_step (tronageref20_Same_sim n) k0 k1 s0 hd

@[reducible] def tronageref20_Few_C (rec : Ex → Int → Int → Option Int) : Prop := ∀ {φ : Snap} {h : Heap} {F : List Chk} {x_0 : Int × Int × (Option Addr × Nat × Nat) × Unit} {d_x_0_2 : List Ex} {left_1 : Int} {deep_2 : Int} (k1_ : Ro.SliceIs exRo φ x_0.2.2.1 d_x_0_2) (s0 : St φ (F) h) {r : Int} (hd : rec (Ex.mk x_0.1 x_0.2.1 d_x_0_2) left_1 deep_2 = some r), CallsH Tryd.prog 17 [(.agg #[(.int .i64 x_0.1), (.int .i64 x_0.2.1), (.slice x_0.2.2.1.1 x_0.2.2.1.2.1 x_0.2.2.1.2.2)]), (.int .i64 left_1), (.int .i64 deep_2)] h (Back fun v h' => ∃ ψ : Snap, ∃ y : Int, Sub φ ψ ∧ v = ((.one (.atom (.int .i64))) : Sh).val y ∧ y = r ∧ St ψ (F) h')
noncomputable def tronageref20_Few_B (rec : Ex → Int → Int → Option Int) (x_0 : Ex) (left_1 : Int) (deep_2 : Int) : Option Int :=
  (cond (decide (left_1 ≤ (0 : Int)))
  (some true)
  (some (decide (deep_2 ≤ (0 : Int))))).bind fun z2 =>
  cond z2
  (some (-1 : Int))
  ((forN (σ := Int) (β := Int) (0 : Int) (((List.length x_0.kids) : Nat) : Int) (IntKind.wrap .i64 (left_1 - (1 : Int))) fun i_z4 z4 =>
      (idx x_0.kids i_z4).bind fun e33 =>
      (rec (Ex.mk e33.kind e33.n e33.kids) z4 (IntKind.wrap .i64 (deep_2 - (1 : Int)))).bind fun t11 =>
      cond (decide (t11 < (0 : Int)))
      (some (Step.done (-1 : Int)))
      (some (Step.next t11))).bind fun e_z3 => match e_z3 with
    | .next z3 =>
      some z3
    | .done q62 => some q62)
theorem tronageref20_Few_step {rec : Ex → Int → Int → Option Int} (Hrec : tronageref20_Few_C rec) {φ : Snap} {h : Heap} {F : List Chk} {x_0 : Int × Int × (Option Addr × Nat × Nat) × Unit} {d_x_0_2 : List Ex} {left_1 : Int} {deep_2 : Int} (k1_ : Ro.SliceIs exRo φ x_0.2.2.1 d_x_0_2) (s0 : St φ (F) h) {r : Int} (hd : tronageref20_Few_B rec (Ex.mk x_0.1 x_0.2.1 d_x_0_2) left_1 deep_2 = some r) :
    CallsH Tryd.prog 17 [(.agg #[(.int .i64 x_0.1), (.int .i64 x_0.2.1), (.slice x_0.2.2.1.1 x_0.2.2.1.2.1 x_0.2.2.1.2.2)]), (.int .i64 left_1), (.int .i64 deep_2)] h (Back fun v h' => ∃ ψ : Snap, ∃ y : Int, Sub φ ψ ∧ v = ((.one (.atom (.int .i64))) : Sh).val y ∧ y = r ∧ St ψ (F) h') := by
  refine calls_of mixed Tryd.func17 ?_
  rw [tronageref20_Few_den]
  unfold tronageref20_Few_T
  unfold tronageref20_Few_B at hd
  try dsimp only [Ex.kind_mk, Ex.n_mk, Ex.kids_mk] at hd
  have n2_ : x_0.2.2.1.2.1 = List.length d_x_0_2 := k1_.length
  refine s_new (vs := [.int .i64 x_0.1, .int .i64 x_0.2.1, .slice x_0.2.2.1.1 x_0.2.2.1.2.1 x_0.2.2.1.2.2]) s0 ?_
  intro r1 h4_ s3_
  obtain ⟨g5_, hx6_, hd⟩ := Option.bind_eq_some_iff.1 hd
  refine s_join (fun (y : Bool × Unit) w_ g => ∃ ψ : Snap, Sub φ ψ ∧ y.1 = g ∧ St ψ (⟨Rep.raw 25, [.pointer (some ⟨r1, 0, none⟩)], [.int .i64 x_0.1, .int .i64 x_0.2.1, .slice x_0.2.2.1.1 x_0.2.2.1.2.1 x_0.2.2.1.2.2]⟩ :: F) w_) (g := g5_) ?_ ?_
  · refine s_cond hx6_ rfl (fun hb7_ hx6_ => ?_) (fun hb7_ hx6_ => ?_)
    · obtain rfl := Option.some.inj hx6_
      exact s_out (true, ()) rfl ⟨φ, (Sub.refl _), rfl, s3_⟩
    · obtain rfl := Option.some.inj hx6_
      exact s_out ((decide (deep_2 ≤ (0 : Int))), ()) rfl ⟨φ, (Sub.refl _), rfl, s3_⟩
  · rintro z2 h8_ ⟨f9_, le10_, rfl, s11_⟩
    try dsimp only at hd
    refine s_cond hd rfl (fun hb63_ hd => ?_) (fun hb63_ hd => ?_)
    · obtain rfl := Option.some.inj hd
      have s12_ := s11_.tail
      exact finOf_back ⟨f9_, (-1 : Int), le10_, rfl, rfl, s12_⟩
    · obtain ⟨g13_, hx14_, hd⟩ := Option.bind_eq_some_iff.1 hd
      refine s_block (fun (y : Int × Int × Int × Unit) w_ g => ∃ ψ : Snap, Sub f9_ ψ ∧ Step.next y.2.1 = g ∧ St ψ (⟨Rep.raw 25, [.pointer (some ⟨r1, 0, none⟩)], [.int .i64 x_0.1, .int .i64 x_0.2.1, .slice x_0.2.2.1.1 x_0.2.2.1.2.1 x_0.2.2.1.2.2]⟩ :: F) w_) (g := g13_) ?_ ?_
      · refine s_forN hx14_ (fun i15_ (y : Int × Int × Int × Unit) w_ g => ∃ ψ : Snap, Sub f9_ ψ ∧ y.1 = i15_ ∧ y.2.1 = g ∧ St ψ (⟨Rep.raw 25, [.pointer (some ⟨r1, 0, none⟩)], [.int .i64 x_0.1, .int .i64 x_0.2.1, .slice x_0.2.2.1.1 x_0.2.2.1.2.1 x_0.2.2.1.2.2]⟩ :: F) w_) ((0 : Int), (IntKind.wrap .i64 (left_1 - (1 : Int))), (0 : Int), ()) rfl ⟨f9_, (Sub.refl _), rfl, rfl, s11_⟩ ?_ ?_
        · rintro _ z4 h21_ _ _ ⟨f18_, le19_, rfl, rfl, s20_⟩ he16_ h123_ h224_ hw22_ hb17_
          try dsimp only at he16_ h123_ h224_ hw22_
          refine s_loadR (b := r1) (j := 2) (x := x_0.2.2.1) s20_ rfl ?_
          refine t_true (by rw [n2_]; exact decide_eq_true h224_) ?_
          refine s_loadR (b := r1) (j := 2) (x := x_0.2.2.1) s20_ rfl ?_
          obtain ⟨x25_, hx26_, he16_⟩ := Option.bind_eq_some_iff.1 he16_
          obtain ⟨a27_, cs28_, ea29_, hi30_, q31_, cl32_⟩ := (k1_.mono (le10_.trans le19_)).get hx26_
          refine t_deref _ ea29_ (t_chk hi30_ ?_)
          have q34_ := exRo_open q31_
          obtain ⟨_, _, rfl, q35_, q36_⟩ := q34_
          obtain rfl := q35_
          obtain ⟨_, _, rfl, q37_, q38_⟩ := q36_
          obtain rfl := q37_
          obtain ⟨t39_, rfl, k40_⟩ := q38_
          have n41_ := k40_.length
          refine s_load (x := x25_.kind) (cellS_heap (Sub.trans (Sub.refl _) s20_.sub) (cl32_ 0 _ rfl)) rfl ?_
          refine s_load (x := x25_.n) (by rw [add_add]; exact (cellS_heap (Sub.trans (Sub.refl _) s20_.sub) (cl32_ 1 _ rfl))) rfl ?_
          refine s_load (x := t39_) (by rw [add_add]; exact (cellS_heap (Sub.trans (Sub.refl _) s20_.sub) (cl32_ 2 _ rfl))) rfl ?_
          obtain ⟨r42_, hr43_, he16_⟩ := Option.bind_eq_some_iff.1 he16_
          refine s_call (Hrec (x_0 := (x25_.kind, x25_.n, t39_, ())) k40_ s20_ hr43_) ?_
          rintro _ h44_ ⟨f45_, t11, le47_, rfl, rfl, s46_⟩
          refine ⟨t11, rfl, ?_⟩
          refine s_cond he16_ rfl (fun hb49_ he16_ => ?_) (fun hb49_ he16_ => ?_)
          · obtain rfl := Option.some.inj he16_
            obtain rfl := hb17_ _ rfl
            try dsimp only at hd
            obtain rfl := Option.some.inj hd
            have s48_ := s46_.tail
            exact around_ret (meetB_ret (finOf_back ⟨f45_, (-1 : Int), ((le10_.trans le19_).trans le47_), rfl, rfl, s48_⟩))
          · obtain rfl := Option.some.inj he16_
            exact s_next ((IntKind.wrap .i64 (z4.1 + (1 : Int))), t11, z4.2.2.1, ()) _ rfl rfl ⟨f45_, (le19_.trans le47_), hw22_, rfl, s46_⟩
        · rintro _ z4 h53_ _ ⟨f50_, le51_, rfl, rfl, s52_⟩ hge54_ hr55_
          subst hr55_
          refine s_loadR (b := r1) (j := 2) (x := x_0.2.2.1) s52_ rfl ?_
          refine t_false (by rw [n2_]; exact decide_eq_false (Int.not_lt.2 hge54_)) ?_
          exact around_brk (meetB_brk (z4.1, z4.2.1, z4.2.2.1, ()) rfl ⟨f50_, le51_, rfl, s52_⟩)
      · rintro z3 h56_ ⟨f57_, le58_, rfl, s59_⟩
        try dsimp only at hd
        obtain rfl := Option.some.inj hd
        have s61_ := s59_.tail
        exact finOf_back ⟨f57_, z3.2.1, (le10_.trans le58_), rfl, rfl, s61_⟩
noncomputable def tronageref20_Few_D : Nat → Ex → Int → Int → Option Int
  | 0 => fun _ _ _ => none
  | n + 1 => tronageref20_Few_B (tronageref20_Few_D n)
theorem tronageref20_Few_sim : ∀ n, tronageref20_Few_C (tronageref20_Few_D n)
  | 0 => by intro k0 s0 r hd; cases hd
  | n + 1 => by intro k0 s0 r hd; exact tronageref20_Few_step (tronageref20_Few_sim n) k0 s0 hd

@[reducible] def tronageref20_Size_C (rec : Ex → Option Int) : Prop := ∀ {φ : Snap} {h : Heap} {F : List Chk} {x_0 : Int × Int × (Option Addr × Nat × Nat) × Unit} {d_x_0_2 : List Ex} (k1_ : Ro.SliceIs exRo φ x_0.2.2.1 d_x_0_2) (s0 : St φ (F) h) {r : Int} (hd : rec (Ex.mk x_0.1 x_0.2.1 d_x_0_2) = some r), CallsH Tryd.prog 21 [(.agg #[(.int .i64 x_0.1), (.int .i64 x_0.2.1), (.slice x_0.2.2.1.1 x_0.2.2.1.2.1 x_0.2.2.1.2.2)])] h (Back fun v h' => ∃ ψ : Snap, ∃ y : Int, Sub φ ψ ∧ v = ((.one (.atom (.int .i64))) : Sh).val y ∧ y = r ∧ St ψ (F) h')
noncomputable def tronageref20_Size_B (rec : Ex → Option Int) (x_0 : Ex) : Option Int :=
  cond (x_0.kind == (0 : Int))
  (some (0 : Int))
  ((forS (σ := Int) (0 : Int) (((List.length x_0.kids) : Nat) : Int) (1 : Int) fun i_z4 z4 =>
      (idx x_0.kids i_z4).bind fun e26 =>
      (rec (Ex.mk e26.kind e26.n e26.kids)).bind fun t11 =>
      some (IntKind.wrap .i64 (z4 + t11))).bind fun z3 =>
    some z3)
theorem tronageref20_Size_step {rec : Ex → Option Int} (Hrec : tronageref20_Size_C rec) {φ : Snap} {h : Heap} {F : List Chk} {x_0 : Int × Int × (Option Addr × Nat × Nat) × Unit} {d_x_0_2 : List Ex} (k1_ : Ro.SliceIs exRo φ x_0.2.2.1 d_x_0_2) (s0 : St φ (F) h) {r : Int} (hd : tronageref20_Size_B rec (Ex.mk x_0.1 x_0.2.1 d_x_0_2) = some r) :
    CallsH Tryd.prog 21 [(.agg #[(.int .i64 x_0.1), (.int .i64 x_0.2.1), (.slice x_0.2.2.1.1 x_0.2.2.1.2.1 x_0.2.2.1.2.2)])] h (Back fun v h' => ∃ ψ : Snap, ∃ y : Int, Sub φ ψ ∧ v = ((.one (.atom (.int .i64))) : Sh).val y ∧ y = r ∧ St ψ (F) h') := by
  refine calls_of mixed Tryd.func21 ?_
  rw [tronageref20_Size_den]
  unfold tronageref20_Size_T
  unfold tronageref20_Size_B at hd
  try dsimp only [Ex.kind_mk, Ex.n_mk, Ex.kids_mk] at hd
  have n2_ : x_0.2.2.1.2.1 = List.length d_x_0_2 := k1_.length
  refine s_new (vs := [.int .i64 x_0.1, .int .i64 x_0.2.1, .slice x_0.2.2.1.1 x_0.2.2.1.2.1 x_0.2.2.1.2.2]) s0 ?_
  intro r1 h4_ s3_
  refine s_loadR (b := r1) (j := 0) (x := x_0.1) s3_ rfl ?_
  refine s_cond hd rfl (fun hb53_ hd => ?_) (fun hb53_ hd => ?_)
  · obtain rfl := Option.some.inj hd
    have s5_ := s3_.tail
    exact finOf_back ⟨φ, (0 : Int), (Sub.refl _), rfl, rfl, s5_⟩
  · obtain ⟨g6_, hx7_, hd⟩ := Option.bind_eq_some_iff.1 hd
    refine s_block (fun (y : Int × Int × Unit) w_ g => ∃ ψ : Snap, Sub φ ψ ∧ y.2.1 = g ∧ St ψ (⟨Rep.raw 25, [.pointer (some ⟨r1, 0, none⟩)], [.int .i64 x_0.1, .int .i64 x_0.2.1, .slice x_0.2.2.1.1 x_0.2.2.1.2.1 x_0.2.2.1.2.2]⟩ :: F) w_) (g := g6_) ?_ ?_
    · refine s_forS hx7_ (fun i8_ (y : Int × Int × Unit) w_ g => ∃ ψ : Snap, Sub φ ψ ∧ y.1 = i8_ ∧ y.2.1 = g ∧ St ψ (⟨Rep.raw 25, [.pointer (some ⟨r1, 0, none⟩)], [.int .i64 x_0.1, .int .i64 x_0.2.1, .slice x_0.2.2.1.1 x_0.2.2.1.2.1 x_0.2.2.1.2.2]⟩ :: F) w_) ((0 : Int), (1 : Int), ()) rfl ⟨φ, (Sub.refl _), rfl, rfl, s3_⟩ ?_ ?_
      · rintro _ z4 h14_ _ _ ⟨f11_, le12_, rfl, rfl, s13_⟩ he9_ h116_ h217_ hw15_
        try dsimp only at he9_ h116_ h217_ hw15_
        refine s_loadR (b := r1) (j := 2) (x := x_0.2.2.1) s13_ rfl ?_
        refine t_true (by rw [n2_]; exact decide_eq_true h217_) ?_
        refine s_loadR (b := r1) (j := 2) (x := x_0.2.2.1) s13_ rfl ?_
        obtain ⟨x18_, hx19_, he9_⟩ := Option.bind_eq_some_iff.1 he9_
        obtain ⟨a20_, cs21_, ea22_, hi23_, q24_, cl25_⟩ := (k1_.mono le12_).get hx19_
        refine t_deref _ ea22_ (t_chk hi23_ ?_)
        have q27_ := exRo_open q24_
        obtain ⟨_, _, rfl, q28_, q29_⟩ := q27_
        obtain rfl := q28_
        obtain ⟨_, _, rfl, q30_, q31_⟩ := q29_
        obtain rfl := q30_
        obtain ⟨t32_, rfl, k33_⟩ := q31_
        have n34_ := k33_.length
        refine s_load (x := x18_.kind) (cellS_heap (Sub.trans (Sub.refl _) s13_.sub) (cl25_ 0 _ rfl)) rfl ?_
        refine s_load (x := x18_.n) (by rw [add_add]; exact (cellS_heap (Sub.trans (Sub.refl _) s13_.sub) (cl25_ 1 _ rfl))) rfl ?_
        refine s_load (x := t32_) (by rw [add_add]; exact (cellS_heap (Sub.trans (Sub.refl _) s13_.sub) (cl25_ 2 _ rfl))) rfl ?_
        obtain ⟨r35_, hr36_, he9_⟩ := Option.bind_eq_some_iff.1 he9_
        refine s_call (Hrec (x_0 := (x18_.kind, x18_.n, t32_, ())) k33_ s13_ hr36_) ?_
        rintro _ h37_ ⟨f38_, t11, le40_, rfl, rfl, s39_⟩
        refine ⟨t11, rfl, ?_⟩
        obtain rfl := Option.some.inj he9_
        exact s_next ((IntKind.wrap .i64 (z4.1 + (1 : Int))), (IntKind.wrap .i64 (z4.2.1 + t11)), ()) _ rfl rfl ⟨f38_, (le12_.trans le40_), hw15_, rfl, s39_⟩
      · rintro _ z4 h44_ ⟨f41_, le42_, rfl, rfl, s43_⟩ hge45_
        refine s_loadR (b := r1) (j := 2) (x := x_0.2.2.1) s43_ rfl ?_
        refine t_false (by rw [n2_]; exact decide_eq_false (Int.not_lt.2 hge45_)) ?_
        exact around_brk (meetB_brk (z4.1, z4.2.1, ()) rfl ⟨f41_, le42_, rfl, s43_⟩)
    · rintro z3 h47_ ⟨f48_, le49_, rfl, s50_⟩
      try dsimp only at hd
      obtain rfl := Option.some.inj hd
      have s52_ := s50_.tail
      exact finOf_back ⟨f48_, z3.2.1, le49_, rfl, rfl, s52_⟩
noncomputable def tronageref20_Size_D : Nat → Ex → Option Int
  | 0 => fun _ => none
  | n + 1 => tronageref20_Size_B (tronageref20_Size_D n)
theorem tronageref20_Size_sim : ∀ n, tronageref20_Size_C (tronageref20_Size_D n)
  | 0 => by intro k0 s0 r hd; cases hd
  | n + 1 => by intro k0 s0 r hd; exact tronageref20_Size_step (tronageref20_Size_sim n) k0 s0 hd

@[reducible] def tronageref20_Most_C (rec : Ex → Option Int) : Prop := ∀ {φ : Snap} {h : Heap} {F : List Chk} {x_0 : Int × Int × (Option Addr × Nat × Nat) × Unit} {d_x_0_2 : List Ex} (k1_ : Ro.SliceIs exRo φ x_0.2.2.1 d_x_0_2) (s0 : St φ (F) h) {r : Int} (hd : rec (Ex.mk x_0.1 x_0.2.1 d_x_0_2) = some r), CallsH Tryd.prog 23 [(.agg #[(.int .i64 x_0.1), (.int .i64 x_0.2.1), (.slice x_0.2.2.1.1 x_0.2.2.1.2.1 x_0.2.2.1.2.2)])] h (Back fun v h' => ∃ ψ : Snap, ∃ y : Int, Sub φ ψ ∧ v = ((.one (.atom (.int .i64))) : Sh).val y ∧ y = r ∧ St ψ (F) h')
noncomputable def tronageref20_Most_B (rec : Ex → Option Int) (x_0 : Ex) : Option Int :=
  (cond (x_0.kind == (2 : Int))
  (some true)
  (some (x_0.kind == (3 : Int)))).bind fun z2 =>
  (cond z2
  (some (if x_0.n > (0 : Int) then x_0.n else (0 : Int)))
  (some (0 : Int))).bind fun z5 =>
  (forS (σ := Int) (0 : Int) (((List.length x_0.kids) : Nat) : Int) z5 fun i_z8 z8 =>
    (idx x_0.kids i_z8).bind fun e39 =>
    (rec (Ex.mk e39.kind e39.n e39.kids)).bind fun t15 =>
    some (if t15 > z8 then t15 else z8)).bind fun z7 =>
  some z7
theorem tronageref20_Most_step {rec : Ex → Option Int} (Hrec : tronageref20_Most_C rec) {φ : Snap} {h : Heap} {F : List Chk} {x_0 : Int × Int × (Option Addr × Nat × Nat) × Unit} {d_x_0_2 : List Ex} (k1_ : Ro.SliceIs exRo φ x_0.2.2.1 d_x_0_2) (s0 : St φ (F) h) {r : Int} (hd : tronageref20_Most_B rec (Ex.mk x_0.1 x_0.2.1 d_x_0_2) = some r) :
    CallsH Tryd.prog 23 [(.agg #[(.int .i64 x_0.1), (.int .i64 x_0.2.1), (.slice x_0.2.2.1.1 x_0.2.2.1.2.1 x_0.2.2.1.2.2)])] h (Back fun v h' => ∃ ψ : Snap, ∃ y : Int, Sub φ ψ ∧ v = ((.one (.atom (.int .i64))) : Sh).val y ∧ y = r ∧ St ψ (F) h') := by
  refine calls_of mixed Tryd.func23 ?_
  rw [tronageref20_Most_den]
  unfold tronageref20_Most_T
  unfold tronageref20_Most_B at hd
  try dsimp only [Ex.kind_mk, Ex.n_mk, Ex.kids_mk] at hd
  have n2_ : x_0.2.2.1.2.1 = List.length d_x_0_2 := k1_.length
  refine s_new (vs := [.int .i64 x_0.1, .int .i64 x_0.2.1, .slice x_0.2.2.1.1 x_0.2.2.1.2.1 x_0.2.2.1.2.2]) s0 ?_
  intro r1 h4_ s3_
  obtain ⟨g5_, hx6_, hd⟩ := Option.bind_eq_some_iff.1 hd
  refine s_join (fun (y : Bool × Unit) w_ g => ∃ ψ : Snap, Sub φ ψ ∧ y.1 = g ∧ St ψ (⟨Rep.raw 25, [.pointer (some ⟨r1, 0, none⟩)], [.int .i64 x_0.1, .int .i64 x_0.2.1, .slice x_0.2.2.1.1 x_0.2.2.1.2.1 x_0.2.2.1.2.2]⟩ :: F) w_) (g := g5_) ?_ ?_
  · refine s_loadR (b := r1) (j := 0) (x := x_0.1) s3_ rfl ?_
    refine s_cond hx6_ rfl (fun hb7_ hx6_ => ?_) (fun hb7_ hx6_ => ?_)
    · obtain rfl := Option.some.inj hx6_
      exact s_out (true, ()) rfl ⟨φ, (Sub.refl _), rfl, s3_⟩
    · refine s_loadR (b := r1) (j := 0) (x := x_0.1) s3_ rfl ?_
      obtain rfl := Option.some.inj hx6_
      exact s_out ((x_0.1 == (3 : Int)), ()) rfl ⟨φ, (Sub.refl _), rfl, s3_⟩
  · rintro z2 h8_ ⟨f9_, le10_, rfl, s11_⟩
    try dsimp only at hd
    obtain ⟨g12_, hx13_, hd⟩ := Option.bind_eq_some_iff.1 hd
    refine s_join (fun (y : Int × Unit) w_ g => ∃ ψ : Snap, Sub f9_ ψ ∧ y.1 = g ∧ St ψ (⟨Rep.raw 25, [.pointer (some ⟨r1, 0, none⟩)], [.int .i64 x_0.1, .int .i64 x_0.2.1, .slice x_0.2.2.1.1 x_0.2.2.1.2.1 x_0.2.2.1.2.2]⟩ :: F) w_) (g := g12_) ?_ ?_
    · refine s_cond hx13_ rfl (fun hb14_ hx13_ => ?_) (fun hb14_ hx13_ => ?_)
      · refine s_loadR (b := r1) (j := 1) (x := x_0.2.1) s11_ rfl ?_
        obtain rfl := Option.some.inj hx13_
        exact s_out ((if x_0.2.1 > (0 : Int) then x_0.2.1 else (0 : Int)), ()) rfl ⟨f9_, (Sub.refl _), rfl, s11_⟩
      · obtain rfl := Option.some.inj hx13_
        exact s_out ((0 : Int), ()) rfl ⟨f9_, (Sub.refl _), rfl, s11_⟩
    · rintro z5 h15_ ⟨f16_, le17_, rfl, s18_⟩
      try dsimp only at hd
      obtain ⟨g19_, hx20_, hd⟩ := Option.bind_eq_some_iff.1 hd
      refine s_block (fun (y : Int × Int × Unit) w_ g => ∃ ψ : Snap, Sub f16_ ψ ∧ y.2.1 = g ∧ St ψ (⟨Rep.raw 25, [.pointer (some ⟨r1, 0, none⟩)], [.int .i64 x_0.1, .int .i64 x_0.2.1, .slice x_0.2.2.1.1 x_0.2.2.1.2.1 x_0.2.2.1.2.2]⟩ :: F) w_) (g := g19_) ?_ ?_
      · refine s_forS hx20_ (fun i21_ (y : Int × Int × Unit) w_ g => ∃ ψ : Snap, Sub f16_ ψ ∧ y.1 = i21_ ∧ y.2.1 = g ∧ St ψ (⟨Rep.raw 25, [.pointer (some ⟨r1, 0, none⟩)], [.int .i64 x_0.1, .int .i64 x_0.2.1, .slice x_0.2.2.1.1 x_0.2.2.1.2.1 x_0.2.2.1.2.2]⟩ :: F) w_) ((0 : Int), z5.1, ()) rfl ⟨f16_, (Sub.refl _), rfl, rfl, s18_⟩ ?_ ?_
        · rintro _ z8 h27_ _ _ ⟨f24_, le25_, rfl, rfl, s26_⟩ he22_ h129_ h230_ hw28_
          try dsimp only at he22_ h129_ h230_ hw28_
          refine s_loadR (b := r1) (j := 2) (x := x_0.2.2.1) s26_ rfl ?_
          refine t_true (by rw [n2_]; exact decide_eq_true h230_) ?_
          refine s_loadR (b := r1) (j := 2) (x := x_0.2.2.1) s26_ rfl ?_
          obtain ⟨x31_, hx32_, he22_⟩ := Option.bind_eq_some_iff.1 he22_
          obtain ⟨a33_, cs34_, ea35_, hi36_, q37_, cl38_⟩ := (k1_.mono ((le10_.trans le17_).trans le25_)).get hx32_
          refine t_deref _ ea35_ (t_chk hi36_ ?_)
          have q40_ := exRo_open q37_
          obtain ⟨_, _, rfl, q41_, q42_⟩ := q40_
          obtain rfl := q41_
          obtain ⟨_, _, rfl, q43_, q44_⟩ := q42_
          obtain rfl := q43_
          obtain ⟨t45_, rfl, k46_⟩ := q44_
          have n47_ := k46_.length
          refine s_load (x := x31_.kind) (cellS_heap (Sub.trans (Sub.refl _) s26_.sub) (cl38_ 0 _ rfl)) rfl ?_
          refine s_load (x := x31_.n) (by rw [add_add]; exact (cellS_heap (Sub.trans (Sub.refl _) s26_.sub) (cl38_ 1 _ rfl))) rfl ?_
          refine s_load (x := t45_) (by rw [add_add]; exact (cellS_heap (Sub.trans (Sub.refl _) s26_.sub) (cl38_ 2 _ rfl))) rfl ?_
          obtain ⟨r48_, hr49_, he22_⟩ := Option.bind_eq_some_iff.1 he22_
          refine s_call (Hrec (x_0 := (x31_.kind, x31_.n, t45_, ())) k46_ s26_ hr49_) ?_
          rintro _ h50_ ⟨f51_, t15, le53_, rfl, rfl, s52_⟩
          refine ⟨t15, rfl, ?_⟩
          obtain rfl := Option.some.inj he22_
          exact s_next ((IntKind.wrap .i64 (z8.1 + (1 : Int))), (if t15 > z8.2.1 then t15 else z8.2.1), ()) _ rfl rfl ⟨f51_, (le25_.trans le53_), hw28_, rfl, s52_⟩
        · rintro _ z8 h57_ ⟨f54_, le55_, rfl, rfl, s56_⟩ hge58_
          refine s_loadR (b := r1) (j := 2) (x := x_0.2.2.1) s56_ rfl ?_
          refine t_false (by rw [n2_]; exact decide_eq_false (Int.not_lt.2 hge58_)) ?_
          exact around_brk (meetB_brk (z8.1, z8.2.1, ()) rfl ⟨f54_, le55_, rfl, s56_⟩)
      · rintro z7 h60_ ⟨f61_, le62_, rfl, s63_⟩
        try dsimp only at hd
        obtain rfl := Option.some.inj hd
        have s65_ := s63_.tail
        exact finOf_back ⟨f61_, z7.2.1, ((le10_.trans le17_).trans le62_), rfl, rfl, s65_⟩
noncomputable def tronageref20_Most_D : Nat → Ex → Option Int
  | 0 => fun _ => none
  | n + 1 => tronageref20_Most_B (tronageref20_Most_D n)
theorem tronageref20_Most_sim : ∀ n, tronageref20_Most_C (tronageref20_Most_D n)
  | 0 => by intro k0 s0 r hd; cases hd
  | n + 1 => by intro k0 s0 r hd; exact tronageref20_Most_step (tronageref20_Most_sim n) k0 s0 hd

@[reducible] def tronageref20_sure_C (rec : Ex → Option Bool) : Prop := ∀ {φ : Snap} {h : Heap} {F : List Chk} {x_0 : Int × Int × (Option Addr × Nat × Nat) × Unit} {d_x_0_2 : List Ex} (k1_ : Ro.SliceIs exRo φ x_0.2.2.1 d_x_0_2) (s0 : St φ (F) h) {r : Bool} (hd : rec (Ex.mk x_0.1 x_0.2.1 d_x_0_2) = some r), CallsH Tryd.prog 32 [(.agg #[(.int .i64 x_0.1), (.int .i64 x_0.2.1), (.slice x_0.2.2.1.1 x_0.2.2.1.2.1 x_0.2.2.1.2.2)])] h (Back fun v h' => ∃ ψ : Snap, ∃ y : Bool, Sub φ ψ ∧ v = ((.one (.atom .bool)) : Sh).val y ∧ y = r ∧ St ψ (F) h')
noncomputable def tronageref20_sure_B (rec : Ex → Option Bool) (x_0 : Ex) : Option Bool :=
  (cond (decide (x_0.kind < (1 : Int)))
  (some true)
  (cond (decide (x_0.kind > (9 : Int)))
    (some true)
    (cond (decide (x_0.n < (0 : Int)))
      (some true)
      (some (decide (x_0.n > (999999999999999999 : Int))))))).bind fun z2 =>
  cond z2
  (some false)
  ((cond (x_0.kind == (4 : Int))
    (some (1 : Int))
    (some (0 : Int))).bind fun z8 =>
    (cond (decide (x_0.kind > (4 : Int)))
    (some (2 : Int))
    (some z8)).bind fun z10 =>
    (cond ((((List.length x_0.kids) : Nat) : Int) != z10)
    (some true)
    (cond (decide (z10 > (0 : Int)))
      (some (x_0.n != (0 : Int)))
      (some false))).bind fun z11 =>
    cond z11
    (some false)
    ((forN (σ := Unit) (β := Bool) (0 : Int) z10 () fun i_z15 z15 =>
        (idx x_0.kids i_z15).bind fun e58 =>
        (rec (Ex.mk e58.kind e58.n e58.kids)).bind fun t21 =>
        cond (!t21)
        (some (Step.done false))
        (some (Step.next ()))).bind fun e_z14 => match e_z14 with
      | .next z14 =>
        some true
      | .done q87 => some q87))
theorem tronageref20_sure_step {rec : Ex → Option Bool} (Hrec : tronageref20_sure_C rec) {φ : Snap} {h : Heap} {F : List Chk} {x_0 : Int × Int × (Option Addr × Nat × Nat) × Unit} {d_x_0_2 : List Ex} (k1_ : Ro.SliceIs exRo φ x_0.2.2.1 d_x_0_2) (s0 : St φ (F) h) {r : Bool} (hd : tronageref20_sure_B rec (Ex.mk x_0.1 x_0.2.1 d_x_0_2) = some r) :
    CallsH Tryd.prog 32 [(.agg #[(.int .i64 x_0.1), (.int .i64 x_0.2.1), (.slice x_0.2.2.1.1 x_0.2.2.1.2.1 x_0.2.2.1.2.2)])] h (Back fun v h' => ∃ ψ : Snap, ∃ y : Bool, Sub φ ψ ∧ v = ((.one (.atom .bool)) : Sh).val y ∧ y = r ∧ St ψ (F) h') := by
  refine calls_of mixed Tryd.func32 ?_
  rw [tronageref20_sure_den]
  unfold tronageref20_sure_T
  unfold tronageref20_sure_B at hd
  try dsimp only [Ex.kind_mk, Ex.n_mk, Ex.kids_mk] at hd
  have n2_ : x_0.2.2.1.2.1 = List.length d_x_0_2 := k1_.length
  refine s_new (vs := [.int .i64 x_0.1, .int .i64 x_0.2.1, .slice x_0.2.2.1.1 x_0.2.2.1.2.1 x_0.2.2.1.2.2]) s0 ?_
  intro r1 h4_ s3_
  obtain ⟨g5_, hx6_, hd⟩ := Option.bind_eq_some_iff.1 hd
  refine s_join (fun (y : Bool × Unit) w_ g => ∃ ψ : Snap, Sub φ ψ ∧ y.1 = g ∧ St ψ (⟨Rep.raw 25, [.pointer (some ⟨r1, 0, none⟩)], [.int .i64 x_0.1, .int .i64 x_0.2.1, .slice x_0.2.2.1.1 x_0.2.2.1.2.1 x_0.2.2.1.2.2]⟩ :: F) w_) (g := g5_) ?_ ?_
  · refine s_loadR (b := r1) (j := 0) (x := x_0.1) s3_ rfl ?_
    refine s_cond hx6_ rfl (fun hb9_ hx6_ => ?_) (fun hb9_ hx6_ => ?_)
    · obtain rfl := Option.some.inj hx6_
      exact s_out (true, ()) rfl ⟨φ, (Sub.refl _), rfl, s3_⟩
    · refine s_loadR (b := r1) (j := 0) (x := x_0.1) s3_ rfl ?_
      refine s_cond hx6_ rfl (fun hb8_ hx6_ => ?_) (fun hb8_ hx6_ => ?_)
      · obtain rfl := Option.some.inj hx6_
        exact s_out (true, ()) rfl ⟨φ, (Sub.refl _), rfl, s3_⟩
      · refine s_loadR (b := r1) (j := 1) (x := x_0.2.1) s3_ rfl ?_
        refine s_cond hx6_ rfl (fun hb7_ hx6_ => ?_) (fun hb7_ hx6_ => ?_)
        · obtain rfl := Option.some.inj hx6_
          exact s_out (true, ()) rfl ⟨φ, (Sub.refl _), rfl, s3_⟩
        · refine s_loadR (b := r1) (j := 1) (x := x_0.2.1) s3_ rfl ?_
          obtain rfl := Option.some.inj hx6_
          exact s_out ((decide (x_0.2.1 > (999999999999999999 : Int))), ()) rfl ⟨φ, (Sub.refl _), rfl, s3_⟩
  · rintro z2 h10_ ⟨f11_, le12_, rfl, s13_⟩
    try dsimp only at hd
    refine s_cond hd rfl (fun hb89_ hd => ?_) (fun hb89_ hd => ?_)
    · obtain rfl := Option.some.inj hd
      have s14_ := s13_.tail
      exact finOf_back ⟨f11_, false, le12_, rfl, rfl, s14_⟩
    · refine s_loadR (b := r1) (j := 0) (x := x_0.1) s13_ rfl ?_
      obtain ⟨g15_, hx16_, hd⟩ := Option.bind_eq_some_iff.1 hd
      refine s_join (fun (y : Int × Unit) w_ g => ∃ ψ : Snap, Sub f11_ ψ ∧ y.1 = g ∧ St ψ (⟨Rep.raw 25, [.pointer (some ⟨r1, 0, none⟩)], [.int .i64 x_0.1, .int .i64 x_0.2.1, .slice x_0.2.2.1.1 x_0.2.2.1.2.1 x_0.2.2.1.2.2]⟩ :: F) w_) (g := g15_) ?_ ?_
      · refine s_cond hx16_ rfl (fun hb17_ hx16_ => ?_) (fun hb17_ hx16_ => ?_)
        · obtain rfl := Option.some.inj hx16_
          exact s_out ((1 : Int), ()) rfl ⟨f11_, (Sub.refl _), rfl, s13_⟩
        · obtain rfl := Option.some.inj hx16_
          exact s_out ((0 : Int), ()) rfl ⟨f11_, (Sub.refl _), rfl, s13_⟩
      · rintro z8 h18_ ⟨f19_, le20_, rfl, s21_⟩
        try dsimp only at hd
        refine s_loadR (b := r1) (j := 0) (x := x_0.1) s21_ rfl ?_
        obtain ⟨g22_, hx23_, hd⟩ := Option.bind_eq_some_iff.1 hd
        refine s_join (fun (y : Int × Unit) w_ g => ∃ ψ : Snap, Sub f19_ ψ ∧ y.1 = g ∧ St ψ (⟨Rep.raw 25, [.pointer (some ⟨r1, 0, none⟩)], [.int .i64 x_0.1, .int .i64 x_0.2.1, .slice x_0.2.2.1.1 x_0.2.2.1.2.1 x_0.2.2.1.2.2]⟩ :: F) w_) (g := g22_) ?_ ?_
        · refine s_cond hx23_ rfl (fun hb24_ hx23_ => ?_) (fun hb24_ hx23_ => ?_)
          · obtain rfl := Option.some.inj hx23_
            exact s_out ((2 : Int), ()) rfl ⟨f19_, (Sub.refl _), rfl, s21_⟩
          · obtain rfl := Option.some.inj hx23_
            exact s_out (z8.1, ()) rfl ⟨f19_, (Sub.refl _), rfl, s21_⟩
        · rintro z10 h25_ ⟨f26_, le27_, rfl, s28_⟩
          try dsimp only at hd
          obtain ⟨g29_, hx30_, hd⟩ := Option.bind_eq_some_iff.1 hd
          refine s_join (fun (y : Bool × Unit) w_ g => ∃ ψ : Snap, Sub f26_ ψ ∧ y.1 = g ∧ St ψ (⟨Rep.raw 25, [.pointer (some ⟨r1, 0, none⟩)], [.int .i64 x_0.1, .int .i64 x_0.2.1, .slice x_0.2.2.1.1 x_0.2.2.1.2.1 x_0.2.2.1.2.2]⟩ :: F) w_) (g := g29_) ?_ ?_
          · refine s_loadR (b := r1) (j := 2) (x := x_0.2.2.1) s28_ rfl ?_
            refine s_cond hx30_ (by rw [n2_] <;> rfl) (fun hb32_ hx30_ => ?_) (fun hb32_ hx30_ => ?_)
            · obtain rfl := Option.some.inj hx30_
              exact s_out (true, ()) rfl ⟨f26_, (Sub.refl _), rfl, s28_⟩
            · refine s_cond hx30_ rfl (fun hb31_ hx30_ => ?_) (fun hb31_ hx30_ => ?_)
              · refine s_loadR (b := r1) (j := 1) (x := x_0.2.1) s28_ rfl ?_
                obtain rfl := Option.some.inj hx30_
                exact s_out ((x_0.2.1 != (0 : Int)), ()) rfl ⟨f26_, (Sub.refl _), rfl, s28_⟩
              · obtain rfl := Option.some.inj hx30_
                exact s_out (false, ()) rfl ⟨f26_, (Sub.refl _), rfl, s28_⟩
          · rintro z11 h33_ ⟨f34_, le35_, rfl, s36_⟩
            try dsimp only at hd
            refine s_cond hd rfl (fun hb88_ hd => ?_) (fun hb88_ hd => ?_)
            · obtain rfl := Option.some.inj hd
              have s37_ := s36_.tail
              exact finOf_back ⟨f34_, false, (((le12_.trans le20_).trans le27_).trans le35_), rfl, rfl, s37_⟩
            · obtain ⟨g38_, hx39_, hd⟩ := Option.bind_eq_some_iff.1 hd
              refine s_block (fun (y : Int × Bool × Unit) w_ g => ∃ ψ : Snap, Sub f34_ ψ ∧ Step.next () = g ∧ St ψ (⟨Rep.raw 25, [.pointer (some ⟨r1, 0, none⟩)], [.int .i64 x_0.1, .int .i64 x_0.2.1, .slice x_0.2.2.1.1 x_0.2.2.1.2.1 x_0.2.2.1.2.2]⟩ :: F) w_) (g := g38_) ?_ ?_
              · refine s_forN hx39_ (fun i40_ (y : Int × Bool × Unit) w_ g => ∃ ψ : Snap, Sub f34_ ψ ∧ y.1 = i40_ ∧ () = g ∧ St ψ (⟨Rep.raw 25, [.pointer (some ⟨r1, 0, none⟩)], [.int .i64 x_0.1, .int .i64 x_0.2.1, .slice x_0.2.2.1.1 x_0.2.2.1.2.1 x_0.2.2.1.2.2]⟩ :: F) w_) ((0 : Int), false, ()) rfl ⟨f34_, (Sub.refl _), rfl, rfl, s36_⟩ ?_ ?_
                · rintro _ z15 h46_ _ _ ⟨f43_, le44_, rfl, rfl, s45_⟩ he41_ h148_ h249_ hw47_ hb42_
                  try dsimp only at he41_ h148_ h249_ hw47_
                  refine t_true (by exact decide_eq_true h249_) ?_
                  refine s_loadR (b := r1) (j := 2) (x := x_0.2.2.1) s45_ rfl ?_
                  obtain ⟨x50_, hx51_, he41_⟩ := Option.bind_eq_some_iff.1 he41_
                  obtain ⟨a52_, cs53_, ea54_, hi55_, q56_, cl57_⟩ := (k1_.mono ((((le12_.trans le20_).trans le27_).trans le35_).trans le44_)).get hx51_
                  refine t_deref _ ea54_ (t_chk hi55_ ?_)
                  have q59_ := exRo_open q56_
                  obtain ⟨_, _, rfl, q60_, q61_⟩ := q59_
                  obtain rfl := q60_
                  obtain ⟨_, _, rfl, q62_, q63_⟩ := q61_
                  obtain rfl := q62_
                  obtain ⟨t64_, rfl, k65_⟩ := q63_
                  have n66_ := k65_.length
                  refine s_load (x := x50_.kind) (cellS_heap (Sub.trans (Sub.refl _) s45_.sub) (cl57_ 0 _ rfl)) rfl ?_
                  refine s_load (x := x50_.n) (by rw [add_add]; exact (cellS_heap (Sub.trans (Sub.refl _) s45_.sub) (cl57_ 1 _ rfl))) rfl ?_
                  refine s_load (x := t64_) (by rw [add_add]; exact (cellS_heap (Sub.trans (Sub.refl _) s45_.sub) (cl57_ 2 _ rfl))) rfl ?_
                  obtain ⟨r67_, hr68_, he41_⟩ := Option.bind_eq_some_iff.1 he41_
                  refine s_call (Hrec (x_0 := (x50_.kind, x50_.n, t64_, ())) k65_ s45_ hr68_) ?_
                  rintro _ h69_ ⟨f70_, t21, le72_, rfl, rfl, s71_⟩
                  refine ⟨t21, rfl, ?_⟩
                  refine s_cond he41_ rfl (fun hb74_ he41_ => ?_) (fun hb74_ he41_ => ?_)
                  · obtain rfl := Option.some.inj he41_
                    obtain rfl := hb42_ _ rfl
                    try dsimp only at hd
                    obtain rfl := Option.some.inj hd
                    have s73_ := s71_.tail
                    exact around_ret (meetB_ret (finOf_back ⟨f70_, false, (((((le12_.trans le20_).trans le27_).trans le35_).trans le44_).trans le72_), rfl, rfl, s73_⟩))
                  · obtain rfl := Option.some.inj he41_
                    exact s_next ((IntKind.wrap .i64 (z15.1 + (1 : Int))), z15.2.1, ()) _ rfl rfl ⟨f70_, (le44_.trans le72_), hw47_, rfl, s71_⟩
                · rintro _ z15 h78_ _ ⟨f75_, le76_, rfl, rfl, s77_⟩ hge79_ hr80_
                  subst hr80_
                  refine t_false (by exact decide_eq_false (Int.not_lt.2 hge79_)) ?_
                  exact around_brk (meetB_brk (z15.1, z15.2.1, ()) rfl ⟨f75_, le76_, rfl, s77_⟩)
              · rintro z14 h81_ ⟨f82_, le83_, rfl, s84_⟩
                try dsimp only at hd
                obtain rfl := Option.some.inj hd
                have s86_ := s84_.tail
                exact finOf_back ⟨f82_, true, ((((le12_.trans le20_).trans le27_).trans le35_).trans le83_), rfl, rfl, s86_⟩
noncomputable def tronageref20_sure_D : Nat → Ex → Option Bool
  | 0 => fun _ => none
  | n + 1 => tronageref20_sure_B (tronageref20_sure_D n)
theorem tronageref20_sure_sim : ∀ n, tronageref20_sure_C (tronageref20_sure_D n)
  | 0 => by intro k0 s0 r hd; cases hd
  | n + 1 => by intro k0 s0 r hd; exact tronageref20_sure_step (tronageref20_sure_sim n) k0 s0 hd

noncomputable def tronageref20_Right_D (fuel : Nat) (x_0 : Ex) : Option Bool :=
  (cond (x_0.kind == (0 : Int))
  (cond (x_0.n == (0 : Int))
    (cond ((((List.length x_0.kids) : Nat) : Int) == (0 : Int))
      (some true)
      ((tronageref20_sure_D fuel (Ex.mk x_0.kind x_0.n x_0.kids)).bind fun t9 =>
        some t9))
    ((tronageref20_sure_D fuel (Ex.mk x_0.kind x_0.n x_0.kids)).bind fun t13 =>
      some t13))
  ((tronageref20_sure_D fuel (Ex.mk x_0.kind x_0.n x_0.kids)).bind fun t17 =>
    some t17)).bind fun z2 =>
  some z2
theorem tronageref20_Right_sim (fuel : Nat) {φ : Snap} {h : Heap} {F : List Chk} {x_0 : Int × Int × (Option Addr × Nat × Nat) × Unit} {d_x_0_2 : List Ex} (k1_ : Ro.SliceIs exRo φ x_0.2.2.1 d_x_0_2) (s0 : St φ (F) h) {r : Bool} (hd : tronageref20_Right_D fuel (Ex.mk x_0.1 x_0.2.1 d_x_0_2) = some r) :
    CallsH Tryd.prog 18 [(.agg #[(.int .i64 x_0.1), (.int .i64 x_0.2.1), (.slice x_0.2.2.1.1 x_0.2.2.1.2.1 x_0.2.2.1.2.2)])] h (Back fun v h' => ∃ ψ : Snap, ∃ y : Bool, Sub φ ψ ∧ v = ((.one (.atom .bool)) : Sh).val y ∧ y = r ∧ St ψ (F) h') := by
  refine calls_of mixed Tryd.func18 ?_
  rw [tronageref20_Right_den]
  unfold tronageref20_Right_T
  unfold tronageref20_Right_D at hd
  try dsimp only [Ex.kind_mk, Ex.n_mk, Ex.kids_mk] at hd
  have n2_ : x_0.2.2.1.2.1 = List.length d_x_0_2 := k1_.length
  refine s_new (vs := [.int .i64 x_0.1, .int .i64 x_0.2.1, .slice x_0.2.2.1.1 x_0.2.2.1.2.1 x_0.2.2.1.2.2]) s0 ?_
  intro r1 h4_ s3_
  obtain ⟨g5_, hx6_, hd⟩ := Option.bind_eq_some_iff.1 hd
  refine s_join (fun (y : Bool × Unit) w_ g => ∃ ψ : Snap, Sub φ ψ ∧ y.1 = g ∧ St ψ (⟨Rep.raw 25, [.pointer (some ⟨r1, 0, none⟩)], [.int .i64 x_0.1, .int .i64 x_0.2.1, .slice x_0.2.2.1.1 x_0.2.2.1.2.1 x_0.2.2.1.2.2]⟩ :: F) w_) (g := g5_) ?_ ?_
  · refine s_loadR (b := r1) (j := 0) (x := x_0.1) s3_ rfl ?_
    refine s_cond hx6_ rfl (fun hb27_ hx6_ => ?_) (fun hb27_ hx6_ => ?_)
    · refine s_loadR (b := r1) (j := 1) (x := x_0.2.1) s3_ rfl ?_
      refine s_cond hx6_ rfl (fun hb20_ hx6_ => ?_) (fun hb20_ hx6_ => ?_)
      · refine s_loadR (b := r1) (j := 2) (x := x_0.2.2.1) s3_ rfl ?_
        refine s_cond hx6_ (by rw [n2_] <;> rfl) (fun hb13_ hx6_ => ?_) (fun hb13_ hx6_ => ?_)
        · obtain rfl := Option.some.inj hx6_
          exact s_out (true, ()) rfl ⟨φ, (Sub.refl _), rfl, s3_⟩
        · refine s_loadR (b := r1) (j := 0) (x := x_0.1) s3_ rfl ?_
          refine s_loadR (b := r1) (j := 1) (x := x_0.2.1) s3_ rfl ?_
          refine s_loadR (b := r1) (j := 2) (x := x_0.2.2.1) s3_ rfl ?_
          obtain ⟨r7_, hr8_, hx6_⟩ := Option.bind_eq_some_iff.1 hx6_
          refine s_call (tronageref20_sure_sim fuel (x_0 := (x_0.1, x_0.2.1, x_0.2.2.1, ())) k1_ s3_ hr8_) ?_
          rintro _ h9_ ⟨f10_, t9, le12_, rfl, rfl, s11_⟩
          refine ⟨t9, rfl, ?_⟩
          obtain rfl := Option.some.inj hx6_
          exact s_out (t9, ()) rfl ⟨f10_, le12_, rfl, s11_⟩
      · refine s_loadR (b := r1) (j := 0) (x := x_0.1) s3_ rfl ?_
        refine s_loadR (b := r1) (j := 1) (x := x_0.2.1) s3_ rfl ?_
        refine s_loadR (b := r1) (j := 2) (x := x_0.2.2.1) s3_ rfl ?_
        obtain ⟨r14_, hr15_, hx6_⟩ := Option.bind_eq_some_iff.1 hx6_
        refine s_call (tronageref20_sure_sim fuel (x_0 := (x_0.1, x_0.2.1, x_0.2.2.1, ())) k1_ s3_ hr15_) ?_
        rintro _ h16_ ⟨f17_, t13, le19_, rfl, rfl, s18_⟩
        refine ⟨t13, rfl, ?_⟩
        obtain rfl := Option.some.inj hx6_
        exact s_out (t13, ()) rfl ⟨f17_, le19_, rfl, s18_⟩
    · refine s_loadR (b := r1) (j := 0) (x := x_0.1) s3_ rfl ?_
      refine s_loadR (b := r1) (j := 1) (x := x_0.2.1) s3_ rfl ?_
      refine s_loadR (b := r1) (j := 2) (x := x_0.2.2.1) s3_ rfl ?_
      obtain ⟨r21_, hr22_, hx6_⟩ := Option.bind_eq_some_iff.1 hx6_
      refine s_call (tronageref20_sure_sim fuel (x_0 := (x_0.1, x_0.2.1, x_0.2.2.1, ())) k1_ s3_ hr22_) ?_
      rintro _ h23_ ⟨f24_, t17, le26_, rfl, rfl, s25_⟩
      refine ⟨t17, rfl, ?_⟩
      obtain rfl := Option.some.inj hx6_
      exact s_out (t17, ()) rfl ⟨f24_, le26_, rfl, s25_⟩
  · rintro z2 h28_ ⟨f29_, le30_, rfl, s31_⟩
    try dsimp only at hd
    obtain rfl := Option.some.inj hd
    have s32_ := s31_.tail
    exact finOf_back ⟨f29_, z2.1, le30_, rfl, rfl, s32_⟩

@[reducible] def expr_sure_C (rec : Ex → Option Bool) : Prop := ∀ {φ : Snap} {h : Heap} {F : List Chk} {x_0 : Int × Int × (Option Addr × Nat × Nat) × Unit} {d_x_0_2 : List Ex} (k1_ : Ro.SliceIs exRo φ x_0.2.2.1 d_x_0_2) (s0 : St φ (F) h) {r : Bool} (hd : rec (Ex.mk x_0.1 x_0.2.1 d_x_0_2) = some r), CallsH Tryd.prog 35 [(.agg #[(.int .i64 x_0.1), (.int .i64 x_0.2.1), (.slice x_0.2.2.1.1 x_0.2.2.1.2.1 x_0.2.2.1.2.2)])] h (Back fun v h' => ∃ ψ : Snap, ∃ y : Bool, Sub φ ψ ∧ v = ((.one (.atom .bool)) : Sh).val y ∧ y = r ∧ St ψ (F) h')
noncomputable def expr_sure_1_D (rec : Ex → Option Bool) (k_0 : Ex) : Option Bool :=
  (rec (Ex.mk k_0.kind k_0.n k_0.kids)).bind fun t5 =>
  some (!t5)
theorem expr_sure_1_sim {rec : Ex → Option Bool} (Hrec : expr_sure_C rec) {φ : Snap} {h : Heap} {F : List Chk} {k_0 : Int × Int × (Option Addr × Nat × Nat) × Unit} {d_k_0_2 : List Ex} (k1_ : Ro.SliceIs exRo φ k_0.2.2.1 d_k_0_2) (s0 : St φ (F) h) {r : Bool} (hd : expr_sure_1_D rec (Ex.mk k_0.1 k_0.2.1 d_k_0_2) = some r) :
    CallsH Tryd.prog 43 [(.agg #[(.int .i64 k_0.1), (.int .i64 k_0.2.1), (.slice k_0.2.2.1.1 k_0.2.2.1.2.1 k_0.2.2.1.2.2)])] h (Back fun v h' => ∃ ψ : Snap, ∃ y : Bool, Sub φ ψ ∧ v = ((.one (.atom .bool)) : Sh).val y ∧ y = r ∧ St ψ (F) h') := by
  refine calls_of mixed Tryd.func43 ?_
  rw [expr_sure_1_den]
  unfold expr_sure_1_T
  unfold expr_sure_1_D at hd
  try dsimp only [Ex.kind_mk, Ex.n_mk, Ex.kids_mk] at hd
  have n2_ : k_0.2.2.1.2.1 = List.length d_k_0_2 := k1_.length
  refine s_new (vs := [.int .i64 k_0.1, .int .i64 k_0.2.1, .slice k_0.2.2.1.1 k_0.2.2.1.2.1 k_0.2.2.1.2.2]) s0 ?_
  intro r1 h4_ s3_
  refine s_loadR (b := r1) (j := 0) (x := k_0.1) s3_ rfl ?_
  refine s_loadR (b := r1) (j := 1) (x := k_0.2.1) s3_ rfl ?_
  refine s_loadR (b := r1) (j := 2) (x := k_0.2.2.1) s3_ rfl ?_
  obtain ⟨r5_, hr6_, hd⟩ := Option.bind_eq_some_iff.1 hd
  refine s_call (Hrec (x_0 := (k_0.1, k_0.2.1, k_0.2.2.1, ())) k1_ s3_ hr6_) ?_
  rintro _ h7_ ⟨f8_, t5, le10_, rfl, rfl, s9_⟩
  refine ⟨t5, rfl, ?_⟩
  obtain rfl := Option.some.inj hd
  have s11_ := s9_.tail
  exact finOf_back ⟨f8_, (!t5), le10_, rfl, rfl, s11_⟩

noncomputable def slices_IndexFunc_api_Expr_api_Expr_43_D (rec : Ex → Option Bool) (s_0 : List Ex) : Option Int :=
  (forN (σ := Unit) (β := Int) (0 : Int) (((List.length s_0) : Nat) : Int) () fun i_z2 z2 =>
    (idx s_0 i_z2).bind fun e23 =>
    (expr_sure_1_D rec (Ex.mk e23.kind e23.n e23.kids)).bind fun t7 =>
    cond t7
    (some (Step.done i_z2))
    (some (Step.next ()))).bind fun e_z1 => match e_z1 with
  | .next z1 =>
    some (-1 : Int)
  | .done q50 => some q50
theorem slices_IndexFunc_api_Expr_api_Expr_43_sim {rec : Ex → Option Bool} (Hrec : expr_sure_C rec) {φ : Snap} {h : Heap} {F : List Chk} {s_0 : Slc} {d_s_0 : List Ex} (k1_ : Ro.SliceIs exRo φ s_0 d_s_0) (s0 : St φ (F) h) {r : Int} (hd : slices_IndexFunc_api_Expr_api_Expr_43_D rec d_s_0 = some r) :
    CallsH Tryd.prog 49 [(.slice s_0.1 s_0.2.1 s_0.2.2), (.func (.func 43) #[] #[])] h (Back fun v h' => ∃ ψ : Snap, ∃ y : Int, Sub φ ψ ∧ v = ((.one (.atom (.int .i64))) : Sh).val y ∧ y = r ∧ St ψ (F) h') := by
  refine calls_of mixed Tryd.func49 ?_
  rw [slices_IndexFunc_api_Expr_api_Expr_43_den]
  unfold slices_IndexFunc_api_Expr_api_Expr_43_T
  unfold slices_IndexFunc_api_Expr_api_Expr_43_D at hd
  try dsimp only [Ex.kind_mk, Ex.n_mk, Ex.kids_mk] at hd
  have n2_ : s_0.2.1 = List.length d_s_0 := k1_.length
  obtain ⟨g3_, hx4_, hd⟩ := Option.bind_eq_some_iff.1 hd
  refine s_block (fun (y : Int × Int × Unit) w_ g => ∃ ψ : Snap, Sub φ ψ ∧ Step.next () = g ∧ St ψ (F) w_) (g := g3_) ?_ ?_
  · refine s_forN hx4_ (fun i5_ (y : Int × Int × Unit) w_ g => ∃ ψ : Snap, Sub φ ψ ∧ y.1 = i5_ ∧ () = g ∧ St ψ (F) w_) ((0 : Int), (0 : Int), ()) rfl ⟨φ, (Sub.refl _), rfl, rfl, s0⟩ ?_ ?_
    · rintro _ z2 h11_ _ _ ⟨f8_, le9_, rfl, rfl, s10_⟩ he6_ h113_ h214_ hw12_ hb7_
      try dsimp only at he6_ h113_ h214_ hw12_
      refine t_true (by rw [n2_]; exact decide_eq_true h214_) ?_
      obtain ⟨x15_, hx16_, he6_⟩ := Option.bind_eq_some_iff.1 he6_
      obtain ⟨a17_, cs18_, ea19_, hi20_, q21_, cl22_⟩ := (k1_.mono le9_).get hx16_
      refine t_deref _ ea19_ (t_chk hi20_ ?_)
      have q24_ := exRo_open q21_
      obtain ⟨_, _, rfl, q25_, q26_⟩ := q24_
      obtain rfl := q25_
      obtain ⟨_, _, rfl, q27_, q28_⟩ := q26_
      obtain rfl := q27_
      obtain ⟨t29_, rfl, k30_⟩ := q28_
      have n31_ := k30_.length
      refine s_load (x := x15_.kind) (cellS_heap (Sub.trans (Sub.refl _) s10_.sub) (cl22_ 0 _ rfl)) rfl ?_
      refine s_load (x := x15_.n) (by rw [add_add]; exact (cellS_heap (Sub.trans (Sub.refl _) s10_.sub) (cl22_ 1 _ rfl))) rfl ?_
      refine s_load (x := t29_) (by rw [add_add]; exact (cellS_heap (Sub.trans (Sub.refl _) s10_.sub) (cl22_ 2 _ rfl))) rfl ?_
      obtain ⟨r32_, hr33_, he6_⟩ := Option.bind_eq_some_iff.1 he6_
      refine s_call (expr_sure_1_sim Hrec (k_0 := (x15_.kind, x15_.n, t29_, ())) k30_ s10_ hr33_) ?_
      rintro _ h34_ ⟨f35_, t7, le37_, rfl, rfl, s36_⟩
      refine ⟨t7, rfl, ?_⟩
      refine s_cond he6_ rfl (fun hb38_ he6_ => ?_) (fun hb38_ he6_ => ?_)
      · obtain rfl := Option.some.inj he6_
        obtain rfl := hb7_ _ rfl
        try dsimp only at hd
        obtain rfl := Option.some.inj hd
        exact around_ret (meetB_ret (finOf_back ⟨f35_, z2.1, (le9_.trans le37_), rfl, rfl, s36_⟩))
      · obtain rfl := Option.some.inj he6_
        exact s_next ((IntKind.wrap .i64 (z2.1 + (1 : Int))), z2.2.1, ()) _ rfl rfl ⟨f35_, (le9_.trans le37_), hw12_, rfl, s36_⟩
    · rintro _ z2 h42_ _ ⟨f39_, le40_, rfl, rfl, s41_⟩ hge43_ hr44_
      subst hr44_
      refine t_false (by rw [n2_]; exact decide_eq_false (Int.not_lt.2 hge43_)) ?_
      exact around_brk (meetB_brk (z2.1, z2.2.1, ()) rfl ⟨f39_, le40_, rfl, s41_⟩)
  · rintro z1 h45_ ⟨f46_, le47_, rfl, s48_⟩
    try dsimp only at hd
    obtain rfl := Option.some.inj hd
    exact finOf_back ⟨f46_, (-1 : Int), le47_, rfl, rfl, s48_⟩

noncomputable def slices_ContainsFunc_api_Expr_api_Expr_43_D (rec : Ex → Option Bool) (s_0 : List Ex) : Option Bool :=
  (slices_IndexFunc_api_Expr_api_Expr_43_D rec s_0).bind fun t1 =>
  some (decide (t1 ≥ (0 : Int)))
theorem slices_ContainsFunc_api_Expr_api_Expr_43_sim {rec : Ex → Option Bool} (Hrec : expr_sure_C rec) {φ : Snap} {h : Heap} {F : List Chk} {s_0 : Slc} {d_s_0 : List Ex} (k1_ : Ro.SliceIs exRo φ s_0 d_s_0) (s0 : St φ (F) h) {r : Bool} (hd : slices_ContainsFunc_api_Expr_api_Expr_43_D rec d_s_0 = some r) :
    CallsH Tryd.prog 42 [(.slice s_0.1 s_0.2.1 s_0.2.2), (.func (.func 43) #[] #[])] h (Back fun v h' => ∃ ψ : Snap, ∃ y : Bool, Sub φ ψ ∧ v = ((.one (.atom .bool)) : Sh).val y ∧ y = r ∧ St ψ (F) h') := by
  refine calls_of mixed Tryd.func42 ?_
  rw [slices_ContainsFunc_api_Expr_api_Expr_43_den]
  unfold slices_ContainsFunc_api_Expr_api_Expr_43_T
  unfold slices_ContainsFunc_api_Expr_api_Expr_43_D at hd
  try dsimp only [Ex.kind_mk, Ex.n_mk, Ex.kids_mk] at hd
  have n2_ : s_0.2.1 = List.length d_s_0 := k1_.length
  obtain ⟨r3_, hr4_, hd⟩ := Option.bind_eq_some_iff.1 hd
  refine s_call (slices_IndexFunc_api_Expr_api_Expr_43_sim Hrec k1_ s0 hr4_) ?_
  rintro _ h5_ ⟨f6_, t1, le8_, rfl, rfl, s7_⟩
  refine ⟨t1, rfl, ?_⟩
  obtain rfl := Option.some.inj hd
  exact finOf_back ⟨f6_, (decide (t1 ≥ (0 : Int))), le8_, rfl, rfl, s7_⟩

noncomputable def expr_sure_B (rec : Ex → Option Bool) (x_0 : Ex) : Option Bool :=
  (cond (decide (x_0.kind < (1 : Int)))
  (some true)
  (cond (decide (x_0.kind > (9 : Int)))
    (some true)
    ((expr_many_D x_0.kind).bind fun t7 =>
      some ((((List.length x_0.kids) : Nat) : Int) != t7)))).bind fun z2 =>
  cond z2
  (some false)
  ((cond (decide (x_0.n < (0 : Int)))
    (some true)
    (cond (decide (x_0.n > (999999999999999999 : Int)))
      (some true)
      (cond (decide (x_0.kind ≥ (4 : Int)))
        (some (x_0.n != (0 : Int)))
        (some false)))).bind fun z8 =>
    cond z8
    (some false)
    ((slices_ContainsFunc_api_Expr_api_Expr_43_D rec x_0.kids).bind fun t14 =>
      some (!t14)))
theorem expr_sure_step {rec : Ex → Option Bool} (Hrec : expr_sure_C rec) {φ : Snap} {h : Heap} {F : List Chk} {x_0 : Int × Int × (Option Addr × Nat × Nat) × Unit} {d_x_0_2 : List Ex} (k1_ : Ro.SliceIs exRo φ x_0.2.2.1 d_x_0_2) (s0 : St φ (F) h) {r : Bool} (hd : expr_sure_B rec (Ex.mk x_0.1 x_0.2.1 d_x_0_2) = some r) :
    CallsH Tryd.prog 35 [(.agg #[(.int .i64 x_0.1), (.int .i64 x_0.2.1), (.slice x_0.2.2.1.1 x_0.2.2.1.2.1 x_0.2.2.1.2.2)])] h (Back fun v h' => ∃ ψ : Snap, ∃ y : Bool, Sub φ ψ ∧ v = ((.one (.atom .bool)) : Sh).val y ∧ y = r ∧ St ψ (F) h') := by
  refine calls_of mixed Tryd.func35 ?_
  rw [expr_sure_den]
  unfold expr_sure_T
  unfold expr_sure_B at hd
  try dsimp only [Ex.kind_mk, Ex.n_mk, Ex.kids_mk] at hd
  have n2_ : x_0.2.2.1.2.1 = List.length d_x_0_2 := k1_.length
  refine s_new (vs := [.int .i64 x_0.1, .int .i64 x_0.2.1, .slice x_0.2.2.1.1 x_0.2.2.1.2.1 x_0.2.2.1.2.2]) s0 ?_
  intro r1 h4_ s3_
  obtain ⟨g5_, hx6_, hd⟩ := Option.bind_eq_some_iff.1 hd
  refine s_join (fun (y : Bool × Unit) w_ g => ∃ ψ : Snap, Sub φ ψ ∧ y.1 = g ∧ St ψ (⟨Rep.raw 25, [.pointer (some ⟨r1, 0, none⟩)], [.int .i64 x_0.1, .int .i64 x_0.2.1, .slice x_0.2.2.1.1 x_0.2.2.1.2.1 x_0.2.2.1.2.2]⟩ :: F) w_) (g := g5_) ?_ ?_
  · refine s_loadR (b := r1) (j := 0) (x := x_0.1) s3_ rfl ?_
    refine s_cond hx6_ rfl (fun hb14_ hx6_ => ?_) (fun hb14_ hx6_ => ?_)
    · obtain rfl := Option.some.inj hx6_
      exact s_out (true, ()) rfl ⟨φ, (Sub.refl _), rfl, s3_⟩
    · refine s_loadR (b := r1) (j := 0) (x := x_0.1) s3_ rfl ?_
      refine s_cond hx6_ rfl (fun hb13_ hx6_ => ?_) (fun hb13_ hx6_ => ?_)
      · obtain rfl := Option.some.inj hx6_
        exact s_out (true, ()) rfl ⟨φ, (Sub.refl _), rfl, s3_⟩
      · refine s_loadR (b := r1) (j := 2) (x := x_0.2.2.1) s3_ rfl ?_
        refine s_loadR (b := r1) (j := 0) (x := x_0.1) s3_ rfl ?_
        obtain ⟨r7_, hr8_, hx6_⟩ := Option.bind_eq_some_iff.1 hx6_
        refine s_call (expr_many_sim  s3_ hr8_) ?_
        rintro _ h9_ ⟨f10_, t7, le12_, rfl, rfl, s11_⟩
        refine ⟨t7, rfl, ?_⟩
        refine t_still (St.cell (b := r1) (j := 2) s11_ rfl) ?_
        obtain rfl := Option.some.inj hx6_
        exact s_out ((((x_0.2.2.1.2.1 : Nat) : Int) != t7), ()) rfl ⟨f10_, le12_, (by rw [n2_]), s11_⟩
  · rintro z2 h15_ ⟨f16_, le17_, rfl, s18_⟩
    try dsimp only at hd
    refine s_cond hd rfl (fun hb38_ hd => ?_) (fun hb38_ hd => ?_)
    · obtain rfl := Option.some.inj hd
      have s19_ := s18_.tail
      exact finOf_back ⟨f16_, false, le17_, rfl, rfl, s19_⟩
    · obtain ⟨g20_, hx21_, hd⟩ := Option.bind_eq_some_iff.1 hd
      refine s_join (fun (y : Bool × Unit) w_ g => ∃ ψ : Snap, Sub f16_ ψ ∧ y.1 = g ∧ St ψ (⟨Rep.raw 25, [.pointer (some ⟨r1, 0, none⟩)], [.int .i64 x_0.1, .int .i64 x_0.2.1, .slice x_0.2.2.1.1 x_0.2.2.1.2.1 x_0.2.2.1.2.2]⟩ :: F) w_) (g := g20_) ?_ ?_
      · refine s_loadR (b := r1) (j := 1) (x := x_0.2.1) s18_ rfl ?_
        refine s_cond hx21_ rfl (fun hb24_ hx21_ => ?_) (fun hb24_ hx21_ => ?_)
        · obtain rfl := Option.some.inj hx21_
          exact s_out (true, ()) rfl ⟨f16_, (Sub.refl _), rfl, s18_⟩
        · refine s_loadR (b := r1) (j := 1) (x := x_0.2.1) s18_ rfl ?_
          refine s_cond hx21_ rfl (fun hb23_ hx21_ => ?_) (fun hb23_ hx21_ => ?_)
          · obtain rfl := Option.some.inj hx21_
            exact s_out (true, ()) rfl ⟨f16_, (Sub.refl _), rfl, s18_⟩
          · refine s_loadR (b := r1) (j := 0) (x := x_0.1) s18_ rfl ?_
            refine s_cond hx21_ rfl (fun hb22_ hx21_ => ?_) (fun hb22_ hx21_ => ?_)
            · refine s_loadR (b := r1) (j := 1) (x := x_0.2.1) s18_ rfl ?_
              obtain rfl := Option.some.inj hx21_
              exact s_out ((x_0.2.1 != (0 : Int)), ()) rfl ⟨f16_, (Sub.refl _), rfl, s18_⟩
            · obtain rfl := Option.some.inj hx21_
              exact s_out (false, ()) rfl ⟨f16_, (Sub.refl _), rfl, s18_⟩
      · rintro z8 h25_ ⟨f26_, le27_, rfl, s28_⟩
        try dsimp only at hd
        refine s_cond hd rfl (fun hb37_ hd => ?_) (fun hb37_ hd => ?_)
        · obtain rfl := Option.some.inj hd
          have s29_ := s28_.tail
          exact finOf_back ⟨f26_, false, (le17_.trans le27_), rfl, rfl, s29_⟩
        · refine s_loadR (b := r1) (j := 2) (x := x_0.2.2.1) s28_ rfl ?_
          obtain ⟨r30_, hr31_, hd⟩ := Option.bind_eq_some_iff.1 hd
          refine s_call (slices_ContainsFunc_api_Expr_api_Expr_43_sim Hrec (k1_.mono (le17_.trans le27_)) s28_ hr31_) ?_
          rintro _ h32_ ⟨f33_, t14, le35_, rfl, rfl, s34_⟩
          refine ⟨t14, rfl, ?_⟩
          obtain rfl := Option.some.inj hd
          have s36_ := s34_.tail
          exact finOf_back ⟨f33_, (!t14), ((le17_.trans le27_).trans le35_), rfl, rfl, s36_⟩
noncomputable def expr_sure_D : Nat → Ex → Option Bool
  | 0 => fun _ => none
  | n + 1 => expr_sure_B (expr_sure_D n)
theorem expr_sure_sim : ∀ n, expr_sure_C (expr_sure_D n)
  | 0 => by intro k0 s0 r hd; cases hd
  | n + 1 => by intro k0 s0 r hd; exact expr_sure_step (expr_sure_sim n) k0 s0 hd

noncomputable def expr_Right_D (fuel : Nat) (x_0 : Ex) : Option Bool :=
  (cond (x_0.kind == (0 : Int))
  (cond (x_0.n == (0 : Int))
    (cond ((((List.length x_0.kids) : Nat) : Int) == (0 : Int))
      (some true)
      ((expr_sure_D fuel (Ex.mk x_0.kind x_0.n x_0.kids)).bind fun t9 =>
        some t9))
    ((expr_sure_D fuel (Ex.mk x_0.kind x_0.n x_0.kids)).bind fun t13 =>
      some t13))
  ((expr_sure_D fuel (Ex.mk x_0.kind x_0.n x_0.kids)).bind fun t17 =>
    some t17)).bind fun z2 =>
  some z2
theorem expr_Right_sim (fuel : Nat) {φ : Snap} {h : Heap} {F : List Chk} {x_0 : Int × Int × (Option Addr × Nat × Nat) × Unit} {d_x_0_2 : List Ex} (k1_ : Ro.SliceIs exRo φ x_0.2.2.1 d_x_0_2) (s0 : St φ (F) h) {r : Bool} (hd : expr_Right_D fuel (Ex.mk x_0.1 x_0.2.1 d_x_0_2) = some r) :
    CallsH Tryd.prog 20 [(.agg #[(.int .i64 x_0.1), (.int .i64 x_0.2.1), (.slice x_0.2.2.1.1 x_0.2.2.1.2.1 x_0.2.2.1.2.2)])] h (Back fun v h' => ∃ ψ : Snap, ∃ y : Bool, Sub φ ψ ∧ v = ((.one (.atom .bool)) : Sh).val y ∧ y = r ∧ St ψ (F) h') := by
  refine calls_of mixed Tryd.func20 ?_
  rw [expr_Right_den]
  unfold expr_Right_T
  unfold expr_Right_D at hd
  try dsimp only [Ex.kind_mk, Ex.n_mk, Ex.kids_mk] at hd
  have n2_ : x_0.2.2.1.2.1 = List.length d_x_0_2 := k1_.length
  refine s_new (vs := [.int .i64 x_0.1, .int .i64 x_0.2.1, .slice x_0.2.2.1.1 x_0.2.2.1.2.1 x_0.2.2.1.2.2]) s0 ?_
  intro r1 h4_ s3_
  obtain ⟨g5_, hx6_, hd⟩ := Option.bind_eq_some_iff.1 hd
  refine s_join (fun (y : Bool × Unit) w_ g => ∃ ψ : Snap, Sub φ ψ ∧ y.1 = g ∧ St ψ (⟨Rep.raw 25, [.pointer (some ⟨r1, 0, none⟩)], [.int .i64 x_0.1, .int .i64 x_0.2.1, .slice x_0.2.2.1.1 x_0.2.2.1.2.1 x_0.2.2.1.2.2]⟩ :: F) w_) (g := g5_) ?_ ?_
  · refine s_loadR (b := r1) (j := 0) (x := x_0.1) s3_ rfl ?_
    refine s_cond hx6_ rfl (fun hb27_ hx6_ => ?_) (fun hb27_ hx6_ => ?_)
    · refine s_loadR (b := r1) (j := 1) (x := x_0.2.1) s3_ rfl ?_
      refine s_cond hx6_ rfl (fun hb20_ hx6_ => ?_) (fun hb20_ hx6_ => ?_)
      · refine s_loadR (b := r1) (j := 2) (x := x_0.2.2.1) s3_ rfl ?_
        refine s_cond hx6_ (by rw [n2_] <;> rfl) (fun hb13_ hx6_ => ?_) (fun hb13_ hx6_ => ?_)
        · obtain rfl := Option.some.inj hx6_
          exact s_out (true, ()) rfl ⟨φ, (Sub.refl _), rfl, s3_⟩
        · refine s_loadR (b := r1) (j := 0) (x := x_0.1) s3_ rfl ?_
          refine s_loadR (b := r1) (j := 1) (x := x_0.2.1) s3_ rfl ?_
          refine s_loadR (b := r1) (j := 2) (x := x_0.2.2.1) s3_ rfl ?_
          obtain ⟨r7_, hr8_, hx6_⟩ := Option.bind_eq_some_iff.1 hx6_
          refine s_call (expr_sure_sim fuel (x_0 := (x_0.1, x_0.2.1, x_0.2.2.1, ())) k1_ s3_ hr8_) ?_
          rintro _ h9_ ⟨f10_, t9, le12_, rfl, rfl, s11_⟩
          refine ⟨t9, rfl, ?_⟩
          obtain rfl := Option.some.inj hx6_
          exact s_out (t9, ()) rfl ⟨f10_, le12_, rfl, s11_⟩
      · refine s_loadR (b := r1) (j := 0) (x := x_0.1) s3_ rfl ?_
        refine s_loadR (b := r1) (j := 1) (x := x_0.2.1) s3_ rfl ?_
        refine s_loadR (b := r1) (j := 2) (x := x_0.2.2.1) s3_ rfl ?_
        obtain ⟨r14_, hr15_, hx6_⟩ := Option.bind_eq_some_iff.1 hx6_
        refine s_call (expr_sure_sim fuel (x_0 := (x_0.1, x_0.2.1, x_0.2.2.1, ())) k1_ s3_ hr15_) ?_
        rintro _ h16_ ⟨f17_, t13, le19_, rfl, rfl, s18_⟩
        refine ⟨t13, rfl, ?_⟩
        obtain rfl := Option.some.inj hx6_
        exact s_out (t13, ()) rfl ⟨f17_, le19_, rfl, s18_⟩
    · refine s_loadR (b := r1) (j := 0) (x := x_0.1) s3_ rfl ?_
      refine s_loadR (b := r1) (j := 1) (x := x_0.2.1) s3_ rfl ?_
      refine s_loadR (b := r1) (j := 2) (x := x_0.2.2.1) s3_ rfl ?_
      obtain ⟨r21_, hr22_, hx6_⟩ := Option.bind_eq_some_iff.1 hx6_
      refine s_call (expr_sure_sim fuel (x_0 := (x_0.1, x_0.2.1, x_0.2.2.1, ())) k1_ s3_ hr22_) ?_
      rintro _ h23_ ⟨f24_, t17, le26_, rfl, rfl, s25_⟩
      refine ⟨t17, rfl, ?_⟩
      obtain rfl := Option.some.inj hx6_
      exact s_out (t17, ()) rfl ⟨f24_, le26_, rfl, s25_⟩
  · rintro z2 h28_ ⟨f29_, le30_, rfl, s31_⟩
    try dsimp only at hd
    obtain rfl := Option.some.inj hd
    have s32_ := s31_.tail
    exact finOf_back ⟨f29_, z2.1, le30_, rfl, rfl, s32_⟩

end Go.Proofs.YtkhfdckieocciaaDoor
