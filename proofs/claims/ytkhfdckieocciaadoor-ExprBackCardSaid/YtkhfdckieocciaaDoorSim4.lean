import Derived.Test.YtkhfdckieocciaaDoorBase
import Derived.Test.YtkhfdckieocciaaDoorSim0
import Derived.Test.YtkhfdckieocciaaDoorSim1
import Derived.Test.YtkhfdckieocciaaDoorSim2
import Derived.Test.YtkhfdckieocciaaDoorSim3
import Derived.Test.YtkhfdckieocciaaDoorStr
import Derived.Test.YtkhfdckieocciaaDoorDen2
import Derived.KernelRfl
namespace Go.Proofs.YtkhfdckieocciaaDoor
open Go Go.Eng
set_option linter.unusedVariables false
set_option maxRecDepth 100000


noncomputable def internal_strconv_Itoa_D (i_0 : Int) : Option ByteArray :=
  (fmtD i_0 (10 : Int)).bind fun t1 =>
  some t1
theorem internal_strconv_Itoa_sim {φ : Snap} {h : Heap} {F : List Chk} {i_0 : Int} (gk : Glob φ)  (s0 : St φ (F) h) {r : ByteArray} (hd : internal_strconv_Itoa_D i_0 = some r) :
    CallsH Tryd.prog 40 [(.int .i64 i_0)] h (Back fun v h' => ∃ ψ : Snap, ∃ y : ByteArray, Sub φ ψ ∧ v = ((.one (.atom .string)) : Sh).val y ∧ y = r ∧ St ψ (F) h') := by
  refine calls_of mixed Tryd.func40 ?_
  rw [internal_strconv_Itoa_den]
  unfold internal_strconv_Itoa_T
  unfold internal_strconv_Itoa_D at hd
  try dsimp only [Ex.kind_mk, Ex.n_mk, Ex.kids_mk] at hd
  obtain ⟨r1_, hr2_, hd⟩ := Option.bind_eq_some_iff.1 hd
  refine s_call (fmt_sim gk  s0 hr2_) ?_
  rintro _ h3_ ⟨f4_, t1, le6_, rfl, rfl, s5_⟩
  refine ⟨t1, rfl, ?_⟩
  obtain rfl := Option.some.inj hd
  exact finOf_back ⟨f4_, t1, le6_, (by first | with_reducible rfl | (show Value.string _ = Value.string _; with_reducible rfl) | rfl), (by first | with_reducible rfl | rfl), s5_⟩

noncomputable def strconv_Itoa_D (i_0 : Int) : Option ByteArray :=
  (internal_strconv_Itoa_D i_0).bind fun t1 =>
  some t1
theorem strconv_Itoa_sim {φ : Snap} {h : Heap} {F : List Chk} {i_0 : Int} (gk : Glob φ)  (s0 : St φ (F) h) {r : ByteArray} (hd : strconv_Itoa_D i_0 = some r) :
    CallsH Tryd.prog 33 [(.int .i64 i_0)] h (Back fun v h' => ∃ ψ : Snap, ∃ y : ByteArray, Sub φ ψ ∧ v = ((.one (.atom .string)) : Sh).val y ∧ y = r ∧ St ψ (F) h') := by
  refine calls_of mixed Tryd.func33 ?_
  rw [strconv_Itoa_den]
  unfold strconv_Itoa_T
  unfold strconv_Itoa_D at hd
  try dsimp only [Ex.kind_mk, Ex.n_mk, Ex.kids_mk] at hd
  obtain ⟨r1_, hr2_, hd⟩ := Option.bind_eq_some_iff.1 hd
  refine s_call (internal_strconv_Itoa_sim gk  s0 hr2_) ?_
  rintro _ h3_ ⟨f4_, t1, le6_, rfl, rfl, s5_⟩
  refine ⟨t1, rfl, ?_⟩
  obtain rfl := Option.some.inj hd
  exact finOf_back ⟨f4_, t1, le6_, (by first | with_reducible rfl | (show Value.string _ = Value.string _; with_reducible rfl) | rfl), (by first | with_reducible rfl | rfl), s5_⟩

noncomputable def tronageref20_digits_D (n_0 : Int) : Option ByteArray :=
  (loop (σ := (ByteArray × Int)) (β := (ByteArray × Int)) ({ data := #[] }, n_0) fun z2 =>
    cond (decide (z2.2 > (9 : Int)))
    (need ((10 : Int) ≠ 0) <|
      (toStr ([(IntKind.wrap .u8 (IntKind.wrap .i64 ((48 : Int) + (Int.tmod z2.2 (10 : Int)))))] : List Int)).bind fun t4 =>
      need (((ByteArray.size t4 + ByteArray.size z2.1 : Nat) : Int) ≤ IntKind.max .i64) <|
      need ((10 : Int) ≠ 0) <|
      some (Step.next ((t4 ++ z2.1), (IntKind.wrap .i64 (Int.tdiv z2.2 (10 : Int))))))
    (some (Step.done (z2.1, z2.2)))).bind fun z1 =>
  (toStr ([(IntKind.wrap .u8 (IntKind.wrap .i64 ((48 : Int) + z1.2)))] : List Int)).bind fun t6 =>
  need (((ByteArray.size t6 + ByteArray.size z1.1 : Nat) : Int) ≤ IntKind.max .i64) <|
  some (t6 ++ z1.1)
theorem tronageref20_digits_sim {φ : Snap} {h : Heap} {F : List Chk} {n_0 : Int}  (s0 : St φ (F) h) {r : ByteArray} (hd : tronageref20_digits_D n_0 = some r) :
    CallsH Tryd.prog 31 [(.int .i64 n_0)] h (Back fun v h' => ∃ ψ : Snap, ∃ y : ByteArray, Sub φ ψ ∧ v = ((.one (.atom .string)) : Sh).val y ∧ y = r ∧ St ψ (F) h') := by
  refine calls_of mixed Tryd.func31 ?_
  rw [tronageref20_digits_den]
  unfold tronageref20_digits_T
  unfold tronageref20_digits_D at hd
  try dsimp only [Ex.kind_mk, Ex.n_mk, Ex.kids_mk] at hd
  obtain ⟨g1_, hx2_, hd⟩ := Option.bind_eq_some_iff.1 hd
  refine s_block (fun (y : ByteArray × Int × Unit) w_ g => ∃ ψ : Snap, Sub φ ψ ∧ (y.1, y.2.1) = g ∧ St ψ (F) w_) (g := g1_) ?_ ?_
  · refine s_loop hx2_ (fun (y : ByteArray × Int × Unit) w_ g => ∃ ψ : Snap, Sub φ ψ ∧ (y.1, y.2.1) = g ∧ St ψ (F) w_) ({ data := #[] }, n_0, ()) rfl ⟨φ, (Sub.refl _), rfl, s0⟩ ?_
    · rintro z2 h8_ _ _ ⟨f5_, le6_, rfl, s7_⟩ he3_ hb4_
      try dsimp only at he3_
      refine s_cond he3_ rfl (fun hb18_ he3_ => ?_) (fun hb18_ he3_ => ?_)
      · refine s_chk he3_ id fun hp9_ he3_ => ?_
        refine s_new (vs := [.int .u8 (IntKind.wrap .u8 (IntKind.wrap .i64 ((48 : Int) + (Int.tmod z2.2.1 (10 : Int)))))]) s7_ ?_
        intro r3 h11_ s10_
        have cw12_ : List.length ([(IntKind.wrap .u8 (IntKind.wrap .i64 ((48 : Int) + (Int.tmod z2.2.1 (10 : Int)))))] : List Int) = ((some ⟨r3, 0, none⟩, 1, 1) : Slc).2.1 ∧ CellsAt _ ((some ⟨r3, 0, none⟩, 1, 1) : Slc).1 (List.map (Atom.int .u8).val ([(IntKind.wrap .u8 (IntKind.wrap .i64 ((48 : Int) + (Int.tmod z2.2.1 (10 : Int)))))] : List Int)) := ⟨rfl, St.cells s10_⟩
        obtain ⟨y13_, hy14_, he3_⟩ := Option.bind_eq_some_iff.1 he3_
        refine s_toString (x := y13_) Tryd.underlying32 Tryd.underlying5 Tryd.underlying9 cw12_ hy14_ ?_
        refine s_chk he3_ id fun hp15_ he3_ => ?_
        refine s_chk he3_ id fun hp16_ he3_ => ?_
        have s17_ := s10_.tail
        obtain rfl := Option.some.inj he3_
        exact s_next ((y13_ ++ z2.1), (IntKind.wrap .i64 (Int.tdiv z2.2.1 (10 : Int))), ()) _ rfl rfl ⟨f5_, le6_, rfl, s17_⟩
      · obtain rfl := Option.some.inj he3_
        obtain rfl := hb4_ _ rfl
        exact around_brk (meetB_brk (z2.1, z2.2.1, ()) rfl ⟨f5_, le6_, rfl, s7_⟩)
  · rintro z1 h19_ ⟨f20_, le21_, rfl, s22_⟩
    try dsimp only at hd
    refine s_new (vs := [.int .u8 (IntKind.wrap .u8 (IntKind.wrap .i64 ((48 : Int) + z1.2.1)))]) s22_ ?_
    intro r5 h25_ s24_
    have cw26_ : List.length ([(IntKind.wrap .u8 (IntKind.wrap .i64 ((48 : Int) + z1.2.1)))] : List Int) = ((some ⟨r5, 0, none⟩, 1, 1) : Slc).2.1 ∧ CellsAt _ ((some ⟨r5, 0, none⟩, 1, 1) : Slc).1 (List.map (Atom.int .u8).val ([(IntKind.wrap .u8 (IntKind.wrap .i64 ((48 : Int) + z1.2.1)))] : List Int)) := ⟨rfl, St.cells s24_⟩
    obtain ⟨y27_, hy28_, hd⟩ := Option.bind_eq_some_iff.1 hd
    refine s_toString (x := y27_) Tryd.underlying32 Tryd.underlying5 Tryd.underlying9 cw26_ hy28_ ?_
    refine s_chk hd id fun hp29_ hd => ?_
    obtain rfl := Option.some.inj hd
    have s30_ := s24_.tail
    exact finOf_back ⟨f20_, (y27_ ++ z1.1), le21_, (by first | with_reducible rfl | (show Value.string _ = Value.string _; with_reducible rfl) | rfl), (by first | with_reducible rfl | rfl), s30_⟩

@[reducible] def tronageref20_Show_C (rec : Ex → Option ByteArray) : Prop := ∀ {φ : Snap} {h : Heap} {F : List Chk} {x_0 : Int × Int × (Option Addr × Nat × Nat) × Unit} {d_x_0_2 : List Ex} (k1_ : Ro.SliceIs exRo φ x_0.2.2.1 d_x_0_2) (s0 : St φ (F) h) {r : ByteArray} (hd : rec (Ex.mk x_0.1 x_0.2.1 d_x_0_2) = some r), CallsH Tryd.prog 14 [(.agg #[(.int .i64 x_0.1), (.int .i64 x_0.2.1), (.slice x_0.2.2.1.1 x_0.2.2.1.2.1 x_0.2.2.1.2.2)])] h (Back fun v h' => ∃ ψ : Snap, ∃ y : ByteArray, Sub φ ψ ∧ v = ((.one (.atom .string)) : Sh).val y ∧ y = r ∧ St ψ (F) h')
noncomputable def tronageref20_Show_B (rec : Ex → Option ByteArray) (x_0 : Ex) : Option ByteArray :=
  cond (x_0.kind == (1 : Int))
  ((tronageref20_digits_D x_0.n).bind fun t4 =>
    some t4)
  (cond (x_0.kind == (2 : Int))
    ((tronageref20_digits_D x_0.n).bind fun t6 =>
      need (((ByteArray.size { data := #[36] } + ByteArray.size t6 : Nat) : Int) ≤ IntKind.max .i64) <|
      some ({ data := #[36] } ++ t6))
    (cond (x_0.kind == (3 : Int))
      ((tronageref20_digits_D x_0.n).bind fun t8 =>
        need (((ByteArray.size { data := #[64] } + ByteArray.size t8 : Nat) : Int) ≤ IntKind.max .i64) <|
        some ({ data := #[64] } ++ t8))
      (cond (x_0.kind == (4 : Int))
        ((idx x_0.kids (0 : Int)).bind fun e36 =>
          (rec (Ex.mk e36.kind e36.n e36.kids)).bind fun t14 =>
          need (((ByteArray.size { data := #[40, 45] } + ByteArray.size t14 : Nat) : Int) ≤ IntKind.max .i64) <|
          need (((ByteArray.size ({ data := #[40, 45] } ++ t14) + ByteArray.size { data := #[41] } : Nat) : Int) ≤ IntKind.max .i64) <|
          some (({ data := #[40, 45] } ++ t14) ++ { data := #[41] }))
        ((cond (x_0.kind == (5 : Int))
          (some (x_0.kind == (5 : Int)))
          ((cond (x_0.kind == (6 : Int))
            (some (x_0.kind == (6 : Int)))
            ((cond (x_0.kind == (7 : Int))
              (some (x_0.kind == (7 : Int)))
              ((cond (x_0.kind == (8 : Int))
                (some (x_0.kind == (8 : Int)))
                (some (x_0.kind == (9 : Int)))).bind fun z18 =>
                some z18)).bind fun z17 =>
              some z17)).bind fun z16 =>
            some z16)).bind fun z15 =>
          cond z15
          ((idx x_0.kids (0 : Int)).bind fun e90 =>
            need (0 ≤ (IntKind.wrap .i64 (x_0.kind - (5 : Int))) ∧ (IntKind.wrap .i64 (x_0.kind - (5 : Int))) ≤ (IntKind.wrap .i64 (x_0.kind - (4 : Int))) ∧ (IntKind.wrap .i64 (x_0.kind - (4 : Int))) ≤ (ByteArray.size { data := #[43, 45, 42, 47, 37] } : Nat)) <|
            (idx x_0.kids (1 : Int)).bind fun e108 =>
            (rec (Ex.mk e90.kind e90.n e90.kids)).bind fun t31 =>
            need (((ByteArray.size { data := #[40] } + ByteArray.size t31 : Nat) : Int) ≤ IntKind.max .i64) <|
            need (((ByteArray.size ({ data := #[40] } ++ t31) + ByteArray.size { data := #[32] } : Nat) : Int) ≤ IntKind.max .i64) <|
            need (((ByteArray.size (({ data := #[40] } ++ t31) ++ { data := #[32] }) + ByteArray.size (ByteArray.extract { data := #[43, 45, 42, 47, 37] } (Int.toNat (IntKind.wrap .i64 (x_0.kind - (5 : Int)))) (Int.toNat (IntKind.wrap .i64 (x_0.kind - (4 : Int))))) : Nat) : Int) ≤ IntKind.max .i64) <|
            need (((ByteArray.size ((({ data := #[40] } ++ t31) ++ { data := #[32] }) ++ (ByteArray.extract { data := #[43, 45, 42, 47, 37] } (Int.toNat (IntKind.wrap .i64 (x_0.kind - (5 : Int)))) (Int.toNat (IntKind.wrap .i64 (x_0.kind - (4 : Int)))))) + ByteArray.size { data := #[32] } : Nat) : Int) ≤ IntKind.max .i64) <|
            (rec (Ex.mk e108.kind e108.n e108.kids)).bind fun t32 =>
            need (((ByteArray.size (((({ data := #[40] } ++ t31) ++ { data := #[32] }) ++ (ByteArray.extract { data := #[43, 45, 42, 47, 37] } (Int.toNat (IntKind.wrap .i64 (x_0.kind - (5 : Int)))) (Int.toNat (IntKind.wrap .i64 (x_0.kind - (4 : Int)))))) ++ { data := #[32] }) + ByteArray.size t32 : Nat) : Int) ≤ IntKind.max .i64) <|
            need (((ByteArray.size ((((({ data := #[40] } ++ t31) ++ { data := #[32] }) ++ (ByteArray.extract { data := #[43, 45, 42, 47, 37] } (Int.toNat (IntKind.wrap .i64 (x_0.kind - (5 : Int)))) (Int.toNat (IntKind.wrap .i64 (x_0.kind - (4 : Int)))))) ++ { data := #[32] }) ++ t32) + ByteArray.size { data := #[41] } : Nat) : Int) ≤ IntKind.max .i64) <|
            some (((((({ data := #[40] } ++ t31) ++ { data := #[32] }) ++ (ByteArray.extract { data := #[43, 45, 42, 47, 37] } (Int.toNat (IntKind.wrap .i64 (x_0.kind - (5 : Int)))) (Int.toNat (IntKind.wrap .i64 (x_0.kind - (4 : Int)))))) ++ { data := #[32] }) ++ t32) ++ { data := #[41] }))
          (some { data := #[] })))))
theorem tronageref20_Show_step {rec : Ex → Option ByteArray} (Hrec : tronageref20_Show_C rec) {φ : Snap} {h : Heap} {F : List Chk} {x_0 : Int × Int × (Option Addr × Nat × Nat) × Unit} {d_x_0_2 : List Ex} (k1_ : Ro.SliceIs exRo φ x_0.2.2.1 d_x_0_2) (s0 : St φ (F) h) {r : ByteArray} (hd : tronageref20_Show_B rec (Ex.mk x_0.1 x_0.2.1 d_x_0_2) = some r) :
    CallsH Tryd.prog 14 [(.agg #[(.int .i64 x_0.1), (.int .i64 x_0.2.1), (.slice x_0.2.2.1.1 x_0.2.2.1.2.1 x_0.2.2.1.2.2)])] h (Back fun v h' => ∃ ψ : Snap, ∃ y : ByteArray, Sub φ ψ ∧ v = ((.one (.atom .string)) : Sh).val y ∧ y = r ∧ St ψ (F) h') := by
  refine calls_of mixed Tryd.func14 ?_
  rw [tronageref20_Show_den]
  unfold tronageref20_Show_T
  unfold tronageref20_Show_B at hd
  try dsimp only [Ex.kind_mk, Ex.n_mk, Ex.kids_mk] at hd
  have n2_ : x_0.2.2.1.2.1 = List.length d_x_0_2 := k1_.length
  refine s_new (vs := [.int .i64 x_0.1, .int .i64 x_0.2.1, .slice x_0.2.2.1.1 x_0.2.2.1.2.1 x_0.2.2.1.2.2]) s0 ?_
  intro r1 h4_ s3_
  refine s_loadR (b := r1) (j := 0) (x := x_0.1) s3_ rfl ?_
  refine s_cond hd rfl (fun hb141_ hd => ?_) (fun hb141_ hd => ?_)
  · refine s_loadR (b := r1) (j := 1) (x := x_0.2.1) s3_ rfl ?_
    obtain ⟨r5_, hr6_, hd⟩ := Option.bind_eq_some_iff.1 hd
    refine s_call (tronageref20_digits_sim  s3_ hr6_) ?_
    rintro _ h7_ ⟨f8_, t4, le10_, rfl, rfl, s9_⟩
    refine ⟨t4, rfl, ?_⟩
    obtain rfl := Option.some.inj hd
    have s11_ := s9_.tail
    exact finOf_back ⟨f8_, t4, le10_, (by first | with_reducible rfl | (show Value.string _ = Value.string _; with_reducible rfl) | rfl), (by first | with_reducible rfl | rfl), s11_⟩
  · refine s_cond hd rfl (fun hb140_ hd => ?_) (fun hb140_ hd => ?_)
    · refine s_loadR (b := r1) (j := 1) (x := x_0.2.1) s3_ rfl ?_
      obtain ⟨r12_, hr13_, hd⟩ := Option.bind_eq_some_iff.1 hd
      refine s_call (tronageref20_digits_sim  s3_ hr13_) ?_
      rintro _ h14_ ⟨f15_, t6, le17_, rfl, rfl, s16_⟩
      refine ⟨t6, rfl, ?_⟩
      refine s_chk hd id fun hp18_ hd => ?_
      obtain rfl := Option.some.inj hd
      have s19_ := s16_.tail
      exact finOf_back ⟨f15_, ({ data := #[36] } ++ t6), le17_, (by first | with_reducible rfl | (show Value.string _ = Value.string _; with_reducible rfl) | rfl), (by first | with_reducible rfl | rfl), s19_⟩
    · refine s_cond hd rfl (fun hb139_ hd => ?_) (fun hb139_ hd => ?_)
      · refine s_loadR (b := r1) (j := 1) (x := x_0.2.1) s3_ rfl ?_
        obtain ⟨r20_, hr21_, hd⟩ := Option.bind_eq_some_iff.1 hd
        refine s_call (tronageref20_digits_sim  s3_ hr21_) ?_
        rintro _ h22_ ⟨f23_, t8, le25_, rfl, rfl, s24_⟩
        refine ⟨t8, rfl, ?_⟩
        refine s_chk hd id fun hp26_ hd => ?_
        obtain rfl := Option.some.inj hd
        have s27_ := s24_.tail
        exact finOf_back ⟨f23_, ({ data := #[64] } ++ t8), le25_, (by first | with_reducible rfl | (show Value.string _ = Value.string _; with_reducible rfl) | rfl), (by first | with_reducible rfl | rfl), s27_⟩
      · refine s_cond hd rfl (fun hb138_ hd => ?_) (fun hb138_ hd => ?_)
        · refine s_loadR (b := r1) (j := 2) (x := x_0.2.2.1) s3_ rfl ?_
          obtain ⟨x28_, hx29_, hd⟩ := Option.bind_eq_some_iff.1 hd
          obtain ⟨a30_, cs31_, ea32_, hi33_, q34_, cl35_⟩ := k1_.get hx29_
          refine t_deref _ ea32_ (t_chk hi33_ ?_)
          have q37_ := exRo_open q34_
          obtain ⟨_, _, rfl, q38_, q39_⟩ := q37_
          obtain rfl := q38_
          obtain ⟨_, _, rfl, q40_, q41_⟩ := q39_
          obtain rfl := q40_
          obtain ⟨t42_, rfl, k43_⟩ := q41_
          have n44_ := k43_.length
          refine s_load (x := x28_.kind) (cellS_heap (Sub.trans (Sub.refl _) s3_.sub) (cl35_ 0 _ rfl)) rfl ?_
          refine s_load (x := x28_.n) (by rw [add_add]; exact (cellS_heap (Sub.trans (Sub.refl _) s3_.sub) (cl35_ 1 _ rfl))) rfl ?_
          refine s_load (x := t42_) (by rw [add_add]; exact (cellS_heap (Sub.trans (Sub.refl _) s3_.sub) (cl35_ 2 _ rfl))) rfl ?_
          obtain ⟨r45_, hr46_, hd⟩ := Option.bind_eq_some_iff.1 hd
          refine s_call (Hrec (x_0 := (x28_.kind, x28_.n, t42_, ())) k43_ s3_ hr46_) ?_
          rintro _ h47_ ⟨f48_, t14, le50_, rfl, rfl, s49_⟩
          refine ⟨t14, rfl, ?_⟩
          refine s_chk hd id fun hp51_ hd => ?_
          refine s_chk hd id fun hp52_ hd => ?_
          obtain rfl := Option.some.inj hd
          have s53_ := s49_.tail
          exact finOf_back ⟨f48_, (({ data := #[40, 45] } ++ t14) ++ { data := #[41] }), le50_, (by first | with_reducible rfl | (show Value.string _ = Value.string _; with_reducible rfl) | rfl), (by first | with_reducible rfl | rfl), s53_⟩
        · obtain ⟨g54_, hx55_, hd⟩ := Option.bind_eq_some_iff.1 hd
          refine s_join (fun (y : Bool × Unit) w_ g => ∃ ψ : Snap, Sub φ ψ ∧ y.1 = g ∧ St ψ (⟨Rep.raw 25, [.pointer (some ⟨r1, 0, none⟩)], [.int .i64 x_0.1, .int .i64 x_0.2.1, .slice x_0.2.2.1.1 x_0.2.2.1.2.1 x_0.2.2.1.2.2]⟩ :: F) w_) (g := g54_) ?_ ?_
          · refine s_cond hx55_ rfl (fun hb77_ hx55_ => ?_) (fun hb77_ hx55_ => ?_)
            · obtain rfl := Option.some.inj hx55_
              exact s_out ((x_0.1 == (5 : Int)), ()) rfl ⟨φ, (Sub.refl _), rfl, s3_⟩
            · obtain ⟨g56_, hx57_, hx55_⟩ := Option.bind_eq_some_iff.1 hx55_
              refine s_join (fun (y : Bool × Unit) w_ g => ∃ ψ : Snap, Sub φ ψ ∧ y.1 = g ∧ St ψ (⟨Rep.raw 25, [.pointer (some ⟨r1, 0, none⟩)], [.int .i64 x_0.1, .int .i64 x_0.2.1, .slice x_0.2.2.1.1 x_0.2.2.1.2.1 x_0.2.2.1.2.2]⟩ :: F) w_) (g := g56_) ?_ ?_
              · refine s_cond hx57_ rfl (fun hb72_ hx57_ => ?_) (fun hb72_ hx57_ => ?_)
                · obtain rfl := Option.some.inj hx57_
                  exact s_out ((x_0.1 == (6 : Int)), ()) rfl ⟨φ, (Sub.refl _), rfl, s3_⟩
                · obtain ⟨g58_, hx59_, hx57_⟩ := Option.bind_eq_some_iff.1 hx57_
                  refine s_join (fun (y : Bool × Unit) w_ g => ∃ ψ : Snap, Sub φ ψ ∧ y.1 = g ∧ St ψ (⟨Rep.raw 25, [.pointer (some ⟨r1, 0, none⟩)], [.int .i64 x_0.1, .int .i64 x_0.2.1, .slice x_0.2.2.1.1 x_0.2.2.1.2.1 x_0.2.2.1.2.2]⟩ :: F) w_) (g := g58_) ?_ ?_
                  · refine s_cond hx59_ rfl (fun hb67_ hx59_ => ?_) (fun hb67_ hx59_ => ?_)
                    · obtain rfl := Option.some.inj hx59_
                      exact s_out ((x_0.1 == (7 : Int)), ()) rfl ⟨φ, (Sub.refl _), rfl, s3_⟩
                    · obtain ⟨g60_, hx61_, hx59_⟩ := Option.bind_eq_some_iff.1 hx59_
                      refine s_join (fun (y : Bool × Unit) w_ g => ∃ ψ : Snap, Sub φ ψ ∧ y.1 = g ∧ St ψ (⟨Rep.raw 25, [.pointer (some ⟨r1, 0, none⟩)], [.int .i64 x_0.1, .int .i64 x_0.2.1, .slice x_0.2.2.1.1 x_0.2.2.1.2.1 x_0.2.2.1.2.2]⟩ :: F) w_) (g := g60_) ?_ ?_
                      · refine s_cond hx61_ rfl (fun hb62_ hx61_ => ?_) (fun hb62_ hx61_ => ?_)
                        · obtain rfl := Option.some.inj hx61_
                          exact s_out ((x_0.1 == (8 : Int)), ()) rfl ⟨φ, (Sub.refl _), rfl, s3_⟩
                        · obtain rfl := Option.some.inj hx61_
                          exact s_out ((x_0.1 == (9 : Int)), ()) rfl ⟨φ, (Sub.refl _), rfl, s3_⟩
                      · rintro z18 h63_ ⟨f64_, le65_, rfl, s66_⟩
                        try dsimp only at hx59_
                        obtain rfl := Option.some.inj hx59_
                        exact s_out (z18.1, ()) rfl ⟨f64_, le65_, rfl, s66_⟩
                  · rintro z17 h68_ ⟨f69_, le70_, rfl, s71_⟩
                    try dsimp only at hx57_
                    obtain rfl := Option.some.inj hx57_
                    exact s_out (z17.1, ()) rfl ⟨f69_, le70_, rfl, s71_⟩
              · rintro z16 h73_ ⟨f74_, le75_, rfl, s76_⟩
                try dsimp only at hx55_
                obtain rfl := Option.some.inj hx55_
                exact s_out (z16.1, ()) rfl ⟨f74_, le75_, rfl, s76_⟩
          · rintro z15 h78_ ⟨f79_, le80_, rfl, s81_⟩
            try dsimp only at hd
            refine s_cond hd rfl (fun hb137_ hd => ?_) (fun hb137_ hd => ?_)
            · refine s_loadR (b := r1) (j := 2) (x := x_0.2.2.1) s81_ rfl ?_
              obtain ⟨x82_, hx83_, hd⟩ := Option.bind_eq_some_iff.1 hd
              obtain ⟨a84_, cs85_, ea86_, hi87_, q88_, cl89_⟩ := (k1_.mono le80_).get hx83_
              refine t_deref _ ea86_ (t_chk hi87_ ?_)
              have q91_ := exRo_open q88_
              obtain ⟨_, _, rfl, q92_, q93_⟩ := q91_
              obtain rfl := q92_
              obtain ⟨_, _, rfl, q94_, q95_⟩ := q93_
              obtain rfl := q94_
              obtain ⟨t96_, rfl, k97_⟩ := q95_
              have n98_ := k97_.length
              refine s_load (x := x82_.kind) (cellS_heap (Sub.trans (Sub.refl _) s81_.sub) (cl89_ 0 _ rfl)) rfl ?_
              refine s_load (x := x82_.n) (by rw [add_add]; exact (cellS_heap (Sub.trans (Sub.refl _) s81_.sub) (cl89_ 1 _ rfl))) rfl ?_
              refine s_load (x := t96_) (by rw [add_add]; exact (cellS_heap (Sub.trans (Sub.refl _) s81_.sub) (cl89_ 2 _ rfl))) rfl ?_
              refine s_loadR (b := r1) (j := 0) (x := x_0.1) s81_ rfl ?_
              refine s_loadR (b := r1) (j := 0) (x := x_0.1) s81_ rfl ?_
              refine s_chk hd id fun hp99_ hd => ?_
              refine s_loadR (b := r1) (j := 2) (x := x_0.2.2.1) s81_ rfl ?_
              obtain ⟨x100_, hx101_, hd⟩ := Option.bind_eq_some_iff.1 hd
              obtain ⟨a102_, cs103_, ea104_, hi105_, q106_, cl107_⟩ := (k1_.mono le80_).get hx101_
              refine t_deref _ ea104_ (t_chk hi105_ ?_)
              have q109_ := exRo_open q106_
              obtain ⟨_, _, rfl, q110_, q111_⟩ := q109_
              obtain rfl := q110_
              obtain ⟨_, _, rfl, q112_, q113_⟩ := q111_
              obtain rfl := q112_
              obtain ⟨t114_, rfl, k115_⟩ := q113_
              have n116_ := k115_.length
              refine s_load (x := x100_.kind) (cellS_heap (Sub.trans (Sub.refl _) s81_.sub) (cl107_ 0 _ rfl)) rfl ?_
              refine s_load (x := x100_.n) (by rw [add_add]; exact (cellS_heap (Sub.trans (Sub.refl _) s81_.sub) (cl107_ 1 _ rfl))) rfl ?_
              refine s_load (x := t114_) (by rw [add_add]; exact (cellS_heap (Sub.trans (Sub.refl _) s81_.sub) (cl107_ 2 _ rfl))) rfl ?_
              obtain ⟨r117_, hr118_, hd⟩ := Option.bind_eq_some_iff.1 hd
              refine s_call (Hrec (x_0 := (x82_.kind, x82_.n, t96_, ())) k97_ s81_ hr118_) ?_
              rintro _ h119_ ⟨f120_, t31, le122_, rfl, rfl, s121_⟩
              refine ⟨t31, rfl, ?_⟩
              refine t_still (cellS_heap (Sub.trans le122_ s121_.sub) (cl107_ 0 _ rfl)) ?_
              refine t_still (by rw [add_add]; exact (cellS_heap (Sub.trans le122_ s121_.sub) (cl107_ 1 _ rfl))) ?_
              refine t_still (by rw [add_add]; exact (cellS_heap (Sub.trans le122_ s121_.sub) (cl107_ 2 _ rfl))) ?_
              refine t_still (St.cell (b := r1) (j := 2) s121_ rfl) ?_
              refine t_still (St.cell (b := r1) (j := 0) s121_ rfl) ?_
              refine t_still (St.cell (b := r1) (j := 0) s121_ rfl) ?_
              refine s_chk hd id fun hp123_ hd => ?_
              refine s_chk hd id fun hp124_ hd => ?_
              refine s_chk hd id fun hp125_ hd => ?_
              refine s_chk hd id fun hp126_ hd => ?_
              obtain ⟨r127_, hr128_, hd⟩ := Option.bind_eq_some_iff.1 hd
              refine s_call (Hrec (x_0 := (x100_.kind, x100_.n, t114_, ())) (k115_.mono le122_) s121_ hr128_) ?_
              rintro _ h129_ ⟨f130_, t32, le132_, rfl, rfl, s131_⟩
              refine ⟨t32, rfl, ?_⟩
              refine t_still (St.cell (b := r1) (j := 0) s131_ rfl) ?_
              refine t_still (St.cell (b := r1) (j := 0) s131_ rfl) ?_
              refine s_chk hd id fun hp133_ hd => ?_
              refine s_chk hd id fun hp134_ hd => ?_
              obtain rfl := Option.some.inj hd
              have s135_ := s131_.tail
              exact finOf_back ⟨f130_, (((((({ data := #[40] } ++ t31) ++ { data := #[32] }) ++ (ByteArray.extract { data := #[43, 45, 42, 47, 37] } (Int.toNat (IntKind.wrap .i64 (x_0.1 - (5 : Int)))) (Int.toNat (IntKind.wrap .i64 (x_0.1 - (4 : Int)))))) ++ { data := #[32] }) ++ t32) ++ { data := #[41] }), ((le80_.trans le122_).trans le132_), (by first | with_reducible rfl | (show Value.string _ = Value.string _; with_reducible rfl) | rfl), (by first | with_reducible rfl | rfl), s135_⟩
            · obtain rfl := Option.some.inj hd
              have s136_ := s81_.tail
              exact finOf_back ⟨f79_, { data := #[] }, le80_, (by first | with_reducible rfl | (show Value.string _ = Value.string _; with_reducible rfl) | rfl), (by first | with_reducible rfl | rfl), s136_⟩
noncomputable def tronageref20_Show_D : Nat → Ex → Option ByteArray
  | 0 => fun _ => none
  | n + 1 => tronageref20_Show_B (tronageref20_Show_D n)
theorem tronageref20_Show_sim : ∀ n, tronageref20_Show_C (tronageref20_Show_D n)
  | 0 => by intro k0 s0 r hd; cases hd
  | n + 1 => by intro k0 s0 r hd; exact tronageref20_Show_step (tronageref20_Show_sim n) k0 s0 hd

@[reducible] def expr_Show_C (rec : Ex → Option ByteArray) : Prop := ∀ {φ : Snap} {h : Heap} {F : List Chk} {x_0 : Int × Int × (Option Addr × Nat × Nat) × Unit} {d_x_0_2 : List Ex} (gk : Glob φ) (k1_ : Ro.SliceIs exRo φ x_0.2.2.1 d_x_0_2) (s0 : St φ (F) h) {r : ByteArray} (hd : rec (Ex.mk x_0.1 x_0.2.1 d_x_0_2) = some r), CallsH Tryd.prog 19 [(.agg #[(.int .i64 x_0.1), (.int .i64 x_0.2.1), (.slice x_0.2.2.1.1 x_0.2.2.1.2.1 x_0.2.2.1.2.2)])] h (Back fun v h' => ∃ ψ : Snap, ∃ y : ByteArray, Sub φ ψ ∧ v = ((.one (.atom .string)) : Sh).val y ∧ y = r ∧ St ψ (F) h')
noncomputable def expr_Show_B (rec : Ex → Option ByteArray) (x_0 : Ex) : Option ByteArray :=
  cond (x_0.kind == (1 : Int))
  ((strconv_Itoa_D x_0.n).bind fun t4 =>
    some t4)
  (cond (x_0.kind == (2 : Int))
    ((strconv_Itoa_D x_0.n).bind fun t6 =>
      need (((ByteArray.size { data := #[36] } + ByteArray.size t6 : Nat) : Int) ≤ IntKind.max .i64) <|
      some ({ data := #[36] } ++ t6))
    (cond (x_0.kind == (3 : Int))
      ((strconv_Itoa_D x_0.n).bind fun t8 =>
        need (((ByteArray.size { data := #[64] } + ByteArray.size t8 : Nat) : Int) ≤ IntKind.max .i64) <|
        some ({ data := #[64] } ++ t8))
      (cond (x_0.kind == (4 : Int))
        ((expr_kid_D (Ex.mk x_0.kind x_0.n x_0.kids) (0 : Int)).bind fun t12 =>
          (rec (Ex.mk t12.1 t12.2.1 t12.2.2)).bind fun t13 =>
          need (((ByteArray.size { data := #[40, 45] } + ByteArray.size t13 : Nat) : Int) ≤ IntKind.max .i64) <|
          need (((ByteArray.size ({ data := #[40, 45] } ++ t13) + ByteArray.size { data := #[41] } : Nat) : Int) ≤ IntKind.max .i64) <|
          some (({ data := #[40, 45] } ++ t13) ++ { data := #[41] }))
        ((cond (x_0.kind == (5 : Int))
          (some (x_0.kind == (5 : Int)))
          ((cond (x_0.kind == (6 : Int))
            (some (x_0.kind == (6 : Int)))
            ((cond (x_0.kind == (7 : Int))
              (some (x_0.kind == (7 : Int)))
              ((cond (x_0.kind == (8 : Int))
                (some (x_0.kind == (8 : Int)))
                (some (x_0.kind == (9 : Int)))).bind fun z17 =>
                some z17)).bind fun z16 =>
              some z16)).bind fun z15 =>
            some z15)).bind fun z14 =>
          cond z14
          (need (0 ≤ (IntKind.wrap .i64 (x_0.kind - (5 : Int))) ∧ (IntKind.wrap .i64 (x_0.kind - (5 : Int))) ≤ (IntKind.wrap .i64 ((IntKind.wrap .i64 (x_0.kind - (5 : Int))) + (1 : Int))) ∧ (IntKind.wrap .i64 ((IntKind.wrap .i64 (x_0.kind - (5 : Int))) + (1 : Int))) ≤ (ByteArray.size { data := #[43, 45, 42, 47, 37] } : Nat)) <|
            (expr_kid_D (Ex.mk x_0.kind x_0.n x_0.kids) (0 : Int)).bind fun t26 =>
            (rec (Ex.mk t26.1 t26.2.1 t26.2.2)).bind fun t27 =>
            need (((ByteArray.size { data := #[40] } + ByteArray.size t27 : Nat) : Int) ≤ IntKind.max .i64) <|
            need (((ByteArray.size ({ data := #[40] } ++ t27) + ByteArray.size { data := #[32] } : Nat) : Int) ≤ IntKind.max .i64) <|
            need (((ByteArray.size (({ data := #[40] } ++ t27) ++ { data := #[32] }) + ByteArray.size (ByteArray.extract { data := #[43, 45, 42, 47, 37] } (Int.toNat (IntKind.wrap .i64 (x_0.kind - (5 : Int)))) (Int.toNat (IntKind.wrap .i64 ((IntKind.wrap .i64 (x_0.kind - (5 : Int))) + (1 : Int))))) : Nat) : Int) ≤ IntKind.max .i64) <|
            need (((ByteArray.size ((({ data := #[40] } ++ t27) ++ { data := #[32] }) ++ (ByteArray.extract { data := #[43, 45, 42, 47, 37] } (Int.toNat (IntKind.wrap .i64 (x_0.kind - (5 : Int)))) (Int.toNat (IntKind.wrap .i64 ((IntKind.wrap .i64 (x_0.kind - (5 : Int))) + (1 : Int)))))) + ByteArray.size { data := #[32] } : Nat) : Int) ≤ IntKind.max .i64) <|
            (expr_kid_D (Ex.mk x_0.kind x_0.n x_0.kids) (1 : Int)).bind fun t28 =>
            (rec (Ex.mk t28.1 t28.2.1 t28.2.2)).bind fun t29 =>
            need (((ByteArray.size (((({ data := #[40] } ++ t27) ++ { data := #[32] }) ++ (ByteArray.extract { data := #[43, 45, 42, 47, 37] } (Int.toNat (IntKind.wrap .i64 (x_0.kind - (5 : Int)))) (Int.toNat (IntKind.wrap .i64 ((IntKind.wrap .i64 (x_0.kind - (5 : Int))) + (1 : Int)))))) ++ { data := #[32] }) + ByteArray.size t29 : Nat) : Int) ≤ IntKind.max .i64) <|
            need (((ByteArray.size ((((({ data := #[40] } ++ t27) ++ { data := #[32] }) ++ (ByteArray.extract { data := #[43, 45, 42, 47, 37] } (Int.toNat (IntKind.wrap .i64 (x_0.kind - (5 : Int)))) (Int.toNat (IntKind.wrap .i64 ((IntKind.wrap .i64 (x_0.kind - (5 : Int))) + (1 : Int)))))) ++ { data := #[32] }) ++ t29) + ByteArray.size { data := #[41] } : Nat) : Int) ≤ IntKind.max .i64) <|
            some (((((({ data := #[40] } ++ t27) ++ { data := #[32] }) ++ (ByteArray.extract { data := #[43, 45, 42, 47, 37] } (Int.toNat (IntKind.wrap .i64 (x_0.kind - (5 : Int)))) (Int.toNat (IntKind.wrap .i64 ((IntKind.wrap .i64 (x_0.kind - (5 : Int))) + (1 : Int)))))) ++ { data := #[32] }) ++ t29) ++ { data := #[41] }))
          (some { data := #[] })))))
theorem expr_Show_step {rec : Ex → Option ByteArray} (Hrec : expr_Show_C rec) {φ : Snap} {h : Heap} {F : List Chk} {x_0 : Int × Int × (Option Addr × Nat × Nat) × Unit} {d_x_0_2 : List Ex} (gk : Glob φ) (k1_ : Ro.SliceIs exRo φ x_0.2.2.1 d_x_0_2) (s0 : St φ (F) h) {r : ByteArray} (hd : expr_Show_B rec (Ex.mk x_0.1 x_0.2.1 d_x_0_2) = some r) :
    CallsH Tryd.prog 19 [(.agg #[(.int .i64 x_0.1), (.int .i64 x_0.2.1), (.slice x_0.2.2.1.1 x_0.2.2.1.2.1 x_0.2.2.1.2.2)])] h (Back fun v h' => ∃ ψ : Snap, ∃ y : ByteArray, Sub φ ψ ∧ v = ((.one (.atom .string)) : Sh).val y ∧ y = r ∧ St ψ (F) h') := by
  refine calls_of mixed Tryd.func19 ?_
  rw [expr_Show_den]
  unfold expr_Show_T
  unfold expr_Show_B at hd
  try dsimp only [Ex.kind_mk, Ex.n_mk, Ex.kids_mk] at hd
  have n2_ : x_0.2.2.1.2.1 = List.length d_x_0_2 := k1_.length
  refine s_new (vs := [.int .i64 x_0.1, .int .i64 x_0.2.1, .slice x_0.2.2.1.1 x_0.2.2.1.2.1 x_0.2.2.1.2.2]) s0 ?_
  intro r1 h4_ s3_
  refine s_loadR (b := r1) (j := 0) (x := x_0.1) s3_ rfl ?_
  refine s_cond hd rfl (fun hb117_ hd => ?_) (fun hb117_ hd => ?_)
  · refine s_loadR (b := r1) (j := 1) (x := x_0.2.1) s3_ rfl ?_
    obtain ⟨r5_, hr6_, hd⟩ := Option.bind_eq_some_iff.1 hd
    refine s_call (strconv_Itoa_sim gk  s3_ hr6_) ?_
    rintro _ h7_ ⟨f8_, t4, le10_, rfl, rfl, s9_⟩
    refine ⟨t4, rfl, ?_⟩
    obtain rfl := Option.some.inj hd
    have s11_ := s9_.tail
    exact finOf_back ⟨f8_, t4, le10_, (by first | with_reducible rfl | (show Value.string _ = Value.string _; with_reducible rfl) | rfl), (by first | with_reducible rfl | rfl), s11_⟩
  · refine s_cond hd rfl (fun hb116_ hd => ?_) (fun hb116_ hd => ?_)
    · refine s_loadR (b := r1) (j := 1) (x := x_0.2.1) s3_ rfl ?_
      obtain ⟨r12_, hr13_, hd⟩ := Option.bind_eq_some_iff.1 hd
      refine s_call (strconv_Itoa_sim gk  s3_ hr13_) ?_
      rintro _ h14_ ⟨f15_, t6, le17_, rfl, rfl, s16_⟩
      refine ⟨t6, rfl, ?_⟩
      refine s_chk hd id fun hp18_ hd => ?_
      obtain rfl := Option.some.inj hd
      have s19_ := s16_.tail
      exact finOf_back ⟨f15_, ({ data := #[36] } ++ t6), le17_, (by first | with_reducible rfl | (show Value.string _ = Value.string _; with_reducible rfl) | rfl), (by first | with_reducible rfl | rfl), s19_⟩
    · refine s_cond hd rfl (fun hb115_ hd => ?_) (fun hb115_ hd => ?_)
      · refine s_loadR (b := r1) (j := 1) (x := x_0.2.1) s3_ rfl ?_
        obtain ⟨r20_, hr21_, hd⟩ := Option.bind_eq_some_iff.1 hd
        refine s_call (strconv_Itoa_sim gk  s3_ hr21_) ?_
        rintro _ h22_ ⟨f23_, t8, le25_, rfl, rfl, s24_⟩
        refine ⟨t8, rfl, ?_⟩
        refine s_chk hd id fun hp26_ hd => ?_
        obtain rfl := Option.some.inj hd
        have s27_ := s24_.tail
        exact finOf_back ⟨f23_, ({ data := #[64] } ++ t8), le25_, (by first | with_reducible rfl | (show Value.string _ = Value.string _; with_reducible rfl) | rfl), (by first | with_reducible rfl | rfl), s27_⟩
      · refine s_cond hd rfl (fun hb114_ hd => ?_) (fun hb114_ hd => ?_)
        · refine s_loadR (b := r1) (j := 0) (x := x_0.1) s3_ rfl ?_
          refine s_loadR (b := r1) (j := 1) (x := x_0.2.1) s3_ rfl ?_
          refine s_loadR (b := r1) (j := 2) (x := x_0.2.2.1) s3_ rfl ?_
          obtain ⟨r28_, hr29_, hd⟩ := Option.bind_eq_some_iff.1 hd
          refine s_call (expr_kid_sim (x_0 := (x_0.1, x_0.2.1, x_0.2.2.1, ())) k1_ s3_ hr29_) ?_
          rintro _ h30_ ⟨f31_, t12, d34_, le33_, rfl, rfl, k36_, s32_⟩
          refine ⟨t12, rfl, ?_⟩
          try dsimp only at hd
          have n35_ := k36_.length
          obtain ⟨r37_, hr38_, hd⟩ := Option.bind_eq_some_iff.1 hd
          refine s_call (Hrec (x_0 := (t12.1, t12.2.1, t12.2.2.1, ())) (gk.mono le33_) k36_ s32_ hr38_) ?_
          rintro _ h39_ ⟨f40_, t13, le42_, rfl, rfl, s41_⟩
          refine ⟨t13, rfl, ?_⟩
          refine s_chk hd id fun hp43_ hd => ?_
          refine s_chk hd id fun hp44_ hd => ?_
          obtain rfl := Option.some.inj hd
          have s45_ := s41_.tail
          exact finOf_back ⟨f40_, (({ data := #[40, 45] } ++ t13) ++ { data := #[41] }), (le33_.trans le42_), (by first | with_reducible rfl | (show Value.string _ = Value.string _; with_reducible rfl) | rfl), (by first | with_reducible rfl | rfl), s45_⟩
        · obtain ⟨g46_, hx47_, hd⟩ := Option.bind_eq_some_iff.1 hd
          refine s_join (fun (y : Bool × Unit) w_ g => ∃ ψ : Snap, Sub φ ψ ∧ y.1 = g ∧ St ψ (⟨Rep.raw 25, [.pointer (some ⟨r1, 0, none⟩)], [.int .i64 x_0.1, .int .i64 x_0.2.1, .slice x_0.2.2.1.1 x_0.2.2.1.2.1 x_0.2.2.1.2.2]⟩ :: F) w_) (g := g46_) ?_ ?_
          · refine s_cond hx47_ rfl (fun hb69_ hx47_ => ?_) (fun hb69_ hx47_ => ?_)
            · obtain rfl := Option.some.inj hx47_
              exact s_out ((x_0.1 == (5 : Int)), ()) rfl ⟨φ, (Sub.refl _), rfl, s3_⟩
            · obtain ⟨g48_, hx49_, hx47_⟩ := Option.bind_eq_some_iff.1 hx47_
              refine s_join (fun (y : Bool × Unit) w_ g => ∃ ψ : Snap, Sub φ ψ ∧ y.1 = g ∧ St ψ (⟨Rep.raw 25, [.pointer (some ⟨r1, 0, none⟩)], [.int .i64 x_0.1, .int .i64 x_0.2.1, .slice x_0.2.2.1.1 x_0.2.2.1.2.1 x_0.2.2.1.2.2]⟩ :: F) w_) (g := g48_) ?_ ?_
              · refine s_cond hx49_ rfl (fun hb64_ hx49_ => ?_) (fun hb64_ hx49_ => ?_)
                · obtain rfl := Option.some.inj hx49_
                  exact s_out ((x_0.1 == (6 : Int)), ()) rfl ⟨φ, (Sub.refl _), rfl, s3_⟩
                · obtain ⟨g50_, hx51_, hx49_⟩ := Option.bind_eq_some_iff.1 hx49_
                  refine s_join (fun (y : Bool × Unit) w_ g => ∃ ψ : Snap, Sub φ ψ ∧ y.1 = g ∧ St ψ (⟨Rep.raw 25, [.pointer (some ⟨r1, 0, none⟩)], [.int .i64 x_0.1, .int .i64 x_0.2.1, .slice x_0.2.2.1.1 x_0.2.2.1.2.1 x_0.2.2.1.2.2]⟩ :: F) w_) (g := g50_) ?_ ?_
                  · refine s_cond hx51_ rfl (fun hb59_ hx51_ => ?_) (fun hb59_ hx51_ => ?_)
                    · obtain rfl := Option.some.inj hx51_
                      exact s_out ((x_0.1 == (7 : Int)), ()) rfl ⟨φ, (Sub.refl _), rfl, s3_⟩
                    · obtain ⟨g52_, hx53_, hx51_⟩ := Option.bind_eq_some_iff.1 hx51_
                      refine s_join (fun (y : Bool × Unit) w_ g => ∃ ψ : Snap, Sub φ ψ ∧ y.1 = g ∧ St ψ (⟨Rep.raw 25, [.pointer (some ⟨r1, 0, none⟩)], [.int .i64 x_0.1, .int .i64 x_0.2.1, .slice x_0.2.2.1.1 x_0.2.2.1.2.1 x_0.2.2.1.2.2]⟩ :: F) w_) (g := g52_) ?_ ?_
                      · refine s_cond hx53_ rfl (fun hb54_ hx53_ => ?_) (fun hb54_ hx53_ => ?_)
                        · obtain rfl := Option.some.inj hx53_
                          exact s_out ((x_0.1 == (8 : Int)), ()) rfl ⟨φ, (Sub.refl _), rfl, s3_⟩
                        · obtain rfl := Option.some.inj hx53_
                          exact s_out ((x_0.1 == (9 : Int)), ()) rfl ⟨φ, (Sub.refl _), rfl, s3_⟩
                      · rintro z17 h55_ ⟨f56_, le57_, rfl, s58_⟩
                        try dsimp only at hx51_
                        obtain rfl := Option.some.inj hx51_
                        exact s_out (z17.1, ()) rfl ⟨f56_, le57_, rfl, s58_⟩
                  · rintro z16 h60_ ⟨f61_, le62_, rfl, s63_⟩
                    try dsimp only at hx49_
                    obtain rfl := Option.some.inj hx49_
                    exact s_out (z16.1, ()) rfl ⟨f61_, le62_, rfl, s63_⟩
              · rintro z15 h65_ ⟨f66_, le67_, rfl, s68_⟩
                try dsimp only at hx47_
                obtain rfl := Option.some.inj hx47_
                exact s_out (z15.1, ()) rfl ⟨f66_, le67_, rfl, s68_⟩
          · rintro z14 h70_ ⟨f71_, le72_, rfl, s73_⟩
            try dsimp only at hd
            refine s_cond hd rfl (fun hb113_ hd => ?_) (fun hb113_ hd => ?_)
            · refine s_loadR (b := r1) (j := 0) (x := x_0.1) s73_ rfl ?_
              refine s_loadR (b := r1) (j := 1) (x := x_0.2.1) s73_ rfl ?_
              refine s_loadR (b := r1) (j := 2) (x := x_0.2.2.1) s73_ rfl ?_
              refine s_loadR (b := r1) (j := 0) (x := x_0.1) s73_ rfl ?_
              refine s_loadR (b := r1) (j := 0) (x := x_0.1) s73_ rfl ?_
              refine s_chk hd id fun hp74_ hd => ?_
              refine s_loadR (b := r1) (j := 0) (x := x_0.1) s73_ rfl ?_
              refine s_loadR (b := r1) (j := 1) (x := x_0.2.1) s73_ rfl ?_
              refine s_loadR (b := r1) (j := 2) (x := x_0.2.2.1) s73_ rfl ?_
              obtain ⟨r75_, hr76_, hd⟩ := Option.bind_eq_some_iff.1 hd
              refine s_call (expr_kid_sim (x_0 := (x_0.1, x_0.2.1, x_0.2.2.1, ())) (k1_.mono le72_) s73_ hr76_) ?_
              rintro _ h77_ ⟨f78_, t26, d81_, le80_, rfl, rfl, k83_, s79_⟩
              refine ⟨t26, rfl, ?_⟩
              try dsimp only at hd
              have n82_ := k83_.length
              refine t_still (St.cell (b := r1) (j := 0) s79_ rfl) ?_
              refine t_still (St.cell (b := r1) (j := 1) s79_ rfl) ?_
              refine t_still (St.cell (b := r1) (j := 2) s79_ rfl) ?_
              refine t_still (St.cell (b := r1) (j := 0) s79_ rfl) ?_
              refine t_still (St.cell (b := r1) (j := 0) s79_ rfl) ?_
              obtain ⟨r84_, hr85_, hd⟩ := Option.bind_eq_some_iff.1 hd
              refine s_call (Hrec (x_0 := (t26.1, t26.2.1, t26.2.2.1, ())) (gk.mono (le72_.trans le80_)) k83_ s79_ hr85_) ?_
              rintro _ h86_ ⟨f87_, t27, le89_, rfl, rfl, s88_⟩
              refine ⟨t27, rfl, ?_⟩
              refine t_still (St.cell (b := r1) (j := 0) s88_ rfl) ?_
              refine t_still (St.cell (b := r1) (j := 1) s88_ rfl) ?_
              refine t_still (St.cell (b := r1) (j := 2) s88_ rfl) ?_
              refine t_still (St.cell (b := r1) (j := 0) s88_ rfl) ?_
              refine t_still (St.cell (b := r1) (j := 0) s88_ rfl) ?_
              refine s_chk hd id fun hp90_ hd => ?_
              refine s_chk hd id fun hp91_ hd => ?_
              refine s_chk hd id fun hp92_ hd => ?_
              refine s_chk hd id fun hp93_ hd => ?_
              obtain ⟨r94_, hr95_, hd⟩ := Option.bind_eq_some_iff.1 hd
              refine s_call (expr_kid_sim (x_0 := (x_0.1, x_0.2.1, x_0.2.2.1, ())) (k1_.mono ((le72_.trans le80_).trans le89_)) s88_ hr95_) ?_
              rintro _ h96_ ⟨f97_, t28, d100_, le99_, rfl, rfl, k102_, s98_⟩
              refine ⟨t28, rfl, ?_⟩
              try dsimp only at hd
              have n101_ := k102_.length
              refine t_still (St.cell (b := r1) (j := 0) s98_ rfl) ?_
              refine t_still (St.cell (b := r1) (j := 0) s98_ rfl) ?_
              obtain ⟨r103_, hr104_, hd⟩ := Option.bind_eq_some_iff.1 hd
              refine s_call (Hrec (x_0 := (t28.1, t28.2.1, t28.2.2.1, ())) (gk.mono (((le72_.trans le80_).trans le89_).trans le99_)) k102_ s98_ hr104_) ?_
              rintro _ h105_ ⟨f106_, t29, le108_, rfl, rfl, s107_⟩
              refine ⟨t29, rfl, ?_⟩
              refine t_still (St.cell (b := r1) (j := 0) s107_ rfl) ?_
              refine t_still (St.cell (b := r1) (j := 0) s107_ rfl) ?_
              refine s_chk hd id fun hp109_ hd => ?_
              refine s_chk hd id fun hp110_ hd => ?_
              obtain rfl := Option.some.inj hd
              have s111_ := s107_.tail
              exact finOf_back ⟨f106_, (((((({ data := #[40] } ++ t27) ++ { data := #[32] }) ++ (ByteArray.extract { data := #[43, 45, 42, 47, 37] } (Int.toNat (IntKind.wrap .i64 (x_0.1 - (5 : Int)))) (Int.toNat (IntKind.wrap .i64 ((IntKind.wrap .i64 (x_0.1 - (5 : Int))) + (1 : Int)))))) ++ { data := #[32] }) ++ t29) ++ { data := #[41] }), ((((le72_.trans le80_).trans le89_).trans le99_).trans le108_), (by first | with_reducible rfl | (show Value.string _ = Value.string _; with_reducible rfl) | rfl), (by first | with_reducible rfl | rfl), s111_⟩
            · obtain rfl := Option.some.inj hd
              have s112_ := s73_.tail
              exact finOf_back ⟨f71_, { data := #[] }, le72_, (by first | with_reducible rfl | (show Value.string _ = Value.string _; with_reducible rfl) | rfl), (by first | with_reducible rfl | rfl), s112_⟩
noncomputable def expr_Show_D : Nat → Ex → Option ByteArray
  | 0 => fun _ => none
  | n + 1 => expr_Show_B (expr_Show_D n)
theorem expr_Show_sim : ∀ n, expr_Show_C (expr_Show_D n)
  | 0 => by intro k0 k1 s0 r hd; cases hd
  | n + 1 => by intro k0 k1 s0 r hd; exact expr_Show_step (expr_Show_sim n) k0 k1 s0 hd

noncomputable def tronagelaw20_awake_D (fuel : Nat) : Option Bool :=
  (expr_Read_D fuel ({ data := #[36, 49, 32, 43, 32, 36, 51, 32, 42, 32, 45, 50] })).bind fun t1 =>
  (expr_Read_D fuel ({ data := #[49, 32, 43] })).bind fun t3 =>
  (expr_Read_D fuel ({ data := #[36, 32, 49] })).bind fun t5 =>
  (cond (t1.2.2.2.1 == (0 : Int))
  ((expr_Show_D fuel (Ex.mk t1.1 t1.2.1 t1.2.2.1)).bind fun t11 =>
    cond (ByteArray.toList t11 == ByteArray.toList { data := #[40, 36, 49, 32, 43, 32, 40, 36, 51, 32, 42, 32, 40, 45, 50, 41, 41, 41] })
    ((expr_Size_D fuel (Ex.mk t1.1 t1.2.1 t1.2.2.1)).bind fun t15 =>
      cond (t15 == (6 : Int))
      ((expr_Most_D fuel (Ex.mk t1.1 t1.2.1 t1.2.2.1)).bind fun t19 =>
        cond (t19 == (3 : Int))
        (cond (t3.2.2.2.1 == (30 : Int))
          (cond (t3.2.2.2.2 == (3 : Int))
            (cond (t5.2.2.2.1 == (30 : Int))
              (some (t5.2.2.2.2 == (1 : Int)))
              (some false))
            (some false))
          (some false))
        (some false))
      (some false))
    (some false))
  (some false)).bind fun z7 =>
  some z7
theorem tronagelaw20_awake_sim (fuel : Nat) {φ : Snap} {h : Heap} {F : List Chk}  (gk : Glob φ)  (s0 : St φ (F) h) {r : Bool} (hd : tronagelaw20_awake_D fuel  = some r) :
    CallsH Tryd.prog 10 [] h (Back fun v h' => ∃ ψ : Snap, ∃ y : Bool, Sub φ ψ ∧ v = ((.one (.atom .bool)) : Sh).val y ∧ y = r ∧ St ψ (F) h') := by
  refine calls_of mixed Tryd.func10 ?_
  rw [tronagelaw20_awake_den]
  unfold tronagelaw20_awake_T
  unfold tronagelaw20_awake_D at hd
  try dsimp only [Ex.kind_mk, Ex.n_mk, Ex.kids_mk] at hd
  obtain ⟨r1_, hr2_, hd⟩ := Option.bind_eq_some_iff.1 hd
  refine s_call (expr_Read_sim fuel  s0 hr2_) ?_
  rintro _ h3_ ⟨f4_, t1, d7_, le6_, rfl, rfl, k9_, s5_⟩
  refine ⟨t1, rfl, ?_⟩
  try dsimp only at hd
  have n8_ := k9_.length
  refine s_new (vs := [.int .i64 (0 : Int), .int .i64 (0 : Int), .slice none 0 0]) s5_ ?_
  intro r2 h11_ s10_
  refine s_put (b := r2) (j := 0) (v := .int .i64 t1.1.1) s10_ rfl (show (0 : Nat) < 3 by decide) ?_
  intro h13_ s12_
  refine s_put (b := r2) (j := 1) (v := .int .i64 t1.1.2.1) s12_ rfl (show (1 : Nat) < 3 by decide) ?_
  intro h15_ s14_
  refine s_put (b := r2) (j := 2) (v := .slice t1.1.2.2.1.1 t1.1.2.2.1.2.1 t1.1.2.2.1.2.2) s14_ rfl (show (2 : Nat) < 3 by decide) ?_
  intro h17_ s16_
  obtain ⟨r18_, hr19_, hd⟩ := Option.bind_eq_some_iff.1 hd
  refine s_call (expr_Read_sim fuel  s16_ hr19_) ?_
  rintro _ h20_ ⟨f21_, t3, d24_, le23_, rfl, rfl, k26_, s22_⟩
  refine ⟨t3, rfl, ?_⟩
  try dsimp only at hd
  have n25_ := k26_.length
  refine s_new (vs := [.int .i64 (0 : Int), .int .i64 (0 : Int), .slice none 0 0]) s22_ ?_
  intro r4 h28_ s27_
  refine s_put (b := r4) (j := 0) (v := .int .i64 t3.1.1) s27_ rfl (show (0 : Nat) < 3 by decide) ?_
  intro h30_ s29_
  refine s_put (b := r4) (j := 1) (v := .int .i64 t3.1.2.1) s29_ rfl (show (1 : Nat) < 3 by decide) ?_
  intro h32_ s31_
  refine s_put (b := r4) (j := 2) (v := .slice t3.1.2.2.1.1 t3.1.2.2.1.2.1 t3.1.2.2.1.2.2) s31_ rfl (show (2 : Nat) < 3 by decide) ?_
  intro h34_ s33_
  obtain ⟨r35_, hr36_, hd⟩ := Option.bind_eq_some_iff.1 hd
  refine s_call (expr_Read_sim fuel  s33_ hr36_) ?_
  rintro _ h37_ ⟨f38_, t5, d41_, le40_, rfl, rfl, k43_, s39_⟩
  refine ⟨t5, rfl, ?_⟩
  try dsimp only at hd
  have n42_ := k43_.length
  refine s_new (vs := [.int .i64 (0 : Int), .int .i64 (0 : Int), .slice none 0 0]) s39_ ?_
  intro r6 h45_ s44_
  refine s_put (b := r6) (j := 0) (v := .int .i64 t5.1.1) s44_ rfl (show (0 : Nat) < 3 by decide) ?_
  intro h47_ s46_
  refine s_put (b := r6) (j := 1) (v := .int .i64 t5.1.2.1) s46_ rfl (show (1 : Nat) < 3 by decide) ?_
  intro h49_ s48_
  refine s_put (b := r6) (j := 2) (v := .slice t5.1.2.2.1.1 t5.1.2.2.1.2.1 t5.1.2.2.1.2.2) s48_ rfl (show (2 : Nat) < 3 by decide) ?_
  intro h51_ s50_
  obtain ⟨g52_, hx53_, hd⟩ := Option.bind_eq_some_iff.1 hd
  refine s_join (fun (y : Bool × Unit) w_ g => ∃ ψ : Snap, Sub f38_ ψ ∧ y.1 = g ∧ St ψ (⟨Rep.raw 25, [.pointer (some ⟨r6, 0, none⟩)], [.int .i64 t5.1.1, .int .i64 t5.1.2.1, .slice t5.1.2.2.1.1 t5.1.2.2.1.2.1 t5.1.2.2.1.2.2]⟩ :: ⟨Rep.raw 25, [.pointer (some ⟨r4, 0, none⟩)], [.int .i64 t3.1.1, .int .i64 t3.1.2.1, .slice t3.1.2.2.1.1 t3.1.2.2.1.2.1 t3.1.2.2.1.2.2]⟩ :: ⟨Rep.raw 25, [.pointer (some ⟨r2, 0, none⟩)], [.int .i64 t1.1.1, .int .i64 t1.1.2.1, .slice t1.1.2.2.1.1 t1.1.2.2.1.2.1 t1.1.2.2.1.2.2]⟩ :: F) w_) (g := g52_) ?_ ?_
  · refine s_cond hx53_ rfl (fun hb102_ hx53_ => ?_) (fun hb102_ hx53_ => ?_)
    · refine s_loadR (b := r2) (j := 0) (x := t1.1.1) s50_.at2 rfl ?_
      refine s_loadR (b := r2) (j := 1) (x := t1.1.2.1) s50_.at2 rfl ?_
      refine s_loadR (b := r2) (j := 2) (x := t1.1.2.2.1) s50_.at2 rfl ?_
      obtain ⟨r54_, hr55_, hx53_⟩ := Option.bind_eq_some_iff.1 hx53_
      refine s_call (expr_Show_sim fuel (x_0 := (t1.1.1, t1.1.2.1, t1.1.2.2.1, ())) (gk.mono ((le6_.trans le23_).trans le40_)) (k9_.mono (le23_.trans le40_)) s50_ hr55_) ?_
      rintro _ h56_ ⟨f57_, t11, le59_, rfl, rfl, s58_⟩
      refine ⟨t11, rfl, ?_⟩
      refine s_cond hx53_ rfl (fun hb98_ hx53_ => ?_) (fun hb98_ hx53_ => ?_)
      · refine s_loadR (b := r2) (j := 0) (x := t1.1.1) s58_.at2 rfl ?_
        refine s_loadR (b := r2) (j := 1) (x := t1.1.2.1) s58_.at2 rfl ?_
        refine s_loadR (b := r2) (j := 2) (x := t1.1.2.2.1) s58_.at2 rfl ?_
        obtain ⟨r60_, hr61_, hx53_⟩ := Option.bind_eq_some_iff.1 hx53_
        refine s_call (expr_Size_sim fuel (x_0 := (t1.1.1, t1.1.2.1, t1.1.2.2.1, ())) (k9_.mono ((le23_.trans le40_).trans le59_)) s58_ hr61_) ?_
        rintro _ h62_ ⟨f63_, t15, le65_, rfl, rfl, s64_⟩
        refine ⟨t15, rfl, ?_⟩
        refine s_cond hx53_ rfl (fun hb94_ hx53_ => ?_) (fun hb94_ hx53_ => ?_)
        · refine s_loadR (b := r2) (j := 0) (x := t1.1.1) s64_.at2 rfl ?_
          refine s_loadR (b := r2) (j := 1) (x := t1.1.2.1) s64_.at2 rfl ?_
          refine s_loadR (b := r2) (j := 2) (x := t1.1.2.2.1) s64_.at2 rfl ?_
          obtain ⟨r66_, hr67_, hx53_⟩ := Option.bind_eq_some_iff.1 hx53_
          refine s_call (expr_Most_sim fuel (x_0 := (t1.1.1, t1.1.2.1, t1.1.2.2.1, ())) (k9_.mono (((le23_.trans le40_).trans le59_).trans le65_)) s64_ hr67_) ?_
          rintro _ h68_ ⟨f69_, t19, le71_, rfl, rfl, s70_⟩
          refine ⟨t19, rfl, ?_⟩
          refine s_cond hx53_ rfl (fun hb90_ hx53_ => ?_) (fun hb90_ hx53_ => ?_)
          · refine s_cond hx53_ rfl (fun hb86_ hx53_ => ?_) (fun hb86_ hx53_ => ?_)
            · refine s_cond hx53_ rfl (fun hb82_ hx53_ => ?_) (fun hb82_ hx53_ => ?_)
              · refine s_cond hx53_ rfl (fun hb78_ hx53_ => ?_) (fun hb78_ hx53_ => ?_)
                · have s72_ := s70_.at2
                  have s73_ := s72_.at2
                  have s74_ := s73_.at2
                  obtain rfl := Option.some.inj hx53_
                  exact s_out ((t5.2.2.1 == (1 : Int)), ()) rfl ⟨f69_, ((le59_.trans le65_).trans le71_), rfl, s74_⟩
                · have s75_ := s70_.at2
                  have s76_ := s75_.at2
                  have s77_ := s76_.at2
                  obtain rfl := Option.some.inj hx53_
                  exact s_out (false, ()) rfl ⟨f69_, ((le59_.trans le65_).trans le71_), rfl, s77_⟩
              · have s79_ := s70_.at2
                have s80_ := s79_.at2
                have s81_ := s80_.at2
                obtain rfl := Option.some.inj hx53_
                exact s_out (false, ()) rfl ⟨f69_, ((le59_.trans le65_).trans le71_), rfl, s81_⟩
            · have s83_ := s70_.at2
              have s84_ := s83_.at2
              have s85_ := s84_.at2
              obtain rfl := Option.some.inj hx53_
              exact s_out (false, ()) rfl ⟨f69_, ((le59_.trans le65_).trans le71_), rfl, s85_⟩
          · have s87_ := s70_.at2
            have s88_ := s87_.at2
            have s89_ := s88_.at2
            obtain rfl := Option.some.inj hx53_
            exact s_out (false, ()) rfl ⟨f69_, ((le59_.trans le65_).trans le71_), rfl, s89_⟩
        · have s91_ := s64_.at2
          have s92_ := s91_.at2
          have s93_ := s92_.at2
          obtain rfl := Option.some.inj hx53_
          exact s_out (false, ()) rfl ⟨f63_, (le59_.trans le65_), rfl, s93_⟩
      · have s95_ := s58_.at2
        have s96_ := s95_.at2
        have s97_ := s96_.at2
        obtain rfl := Option.some.inj hx53_
        exact s_out (false, ()) rfl ⟨f57_, le59_, rfl, s97_⟩
    · have s99_ := s50_.at2
      have s100_ := s99_.at2
      have s101_ := s100_.at2
      obtain rfl := Option.some.inj hx53_
      exact s_out (false, ()) rfl ⟨f38_, (Sub.refl _), rfl, s101_⟩
  · rintro z7 h103_ ⟨f104_, le105_, rfl, s106_⟩
    try dsimp only at hd
    obtain rfl := Option.some.inj hd
    have s107_ := s106_.tail
    have s108_ := s107_.tail
    have s109_ := s108_.tail
    exact finOf_back ⟨f104_, z7.1, (((le6_.trans le23_).trans le40_).trans le105_), rfl, rfl, s109_⟩

noncomputable def tronagelaw20_ExprReads_D (fuel : Nat) (s_0 : ByteArray) : Option Bool :=
  (tronagelaw20_awake_D fuel).bind fun t1 =>
  cond (decide (((ByteArray.size s_0 : Nat) : Int) > (300 : Int)))
  (some t1)
  ((expr_Read_D fuel s_0).bind fun t2 =>
    (tronageref20_Read_D fuel s_0).bind fun t4 =>
    (cond t1
    ((tronageref20_Same_D fuel (Ex.mk t2.1 t2.2.1 t2.2.2.1) (Ex.mk t4.1 t4.2.1 t4.2.2.1)).bind fun t13 =>
      cond t13
      (cond (t2.2.2.2.1 == t4.2.2.2.1)
        (some (t2.2.2.2.2 == t4.2.2.2.2))
        (some false))
      (some false))
    (some false)).bind fun z6 =>
    some z6)
theorem tronagelaw20_ExprReads_sim (fuel : Nat) {φ : Snap} {h : Heap} {F : List Chk} {s_0 : ByteArray} (gk : Glob φ)  (s0 : St φ (F) h) {r : Bool} (hd : tronagelaw20_ExprReads_D fuel s_0 = some r) :
    CallsH Tryd.prog 3 [(.string s_0)] h (Back fun v h' => ∃ ψ : Snap, ∃ y : Bool, Sub φ ψ ∧ v = ((.one (.atom .bool)) : Sh).val y ∧ y = r ∧ St ψ (F) h') := by
  refine calls_of mixed Tryd.func3 ?_
  rw [tronagelaw20_ExprReads_den]
  unfold tronagelaw20_ExprReads_T
  unfold tronagelaw20_ExprReads_D at hd
  try dsimp only [Ex.kind_mk, Ex.n_mk, Ex.kids_mk] at hd
  obtain ⟨r1_, hr2_, hd⟩ := Option.bind_eq_some_iff.1 hd
  refine s_call (tronagelaw20_awake_sim fuel gk  s0 hr2_) ?_
  rintro _ h3_ ⟨f4_, t1, le6_, rfl, rfl, s5_⟩
  refine ⟨t1, rfl, ?_⟩
  refine s_cond hd rfl (fun hb66_ hd => ?_) (fun hb66_ hd => ?_)
  · obtain rfl := Option.some.inj hd
    exact finOf_back ⟨f4_, t1, le6_, rfl, rfl, s5_⟩
  · obtain ⟨r7_, hr8_, hd⟩ := Option.bind_eq_some_iff.1 hd
    refine s_call (expr_Read_sim fuel  s5_ hr8_) ?_
    rintro _ h9_ ⟨f10_, t2, d13_, le12_, rfl, rfl, k15_, s11_⟩
    refine ⟨t2, rfl, ?_⟩
    try dsimp only at hd
    have n14_ := k15_.length
    refine s_new (vs := [.int .i64 (0 : Int), .int .i64 (0 : Int), .slice none 0 0]) s11_ ?_
    intro r3 h17_ s16_
    refine s_put (b := r3) (j := 0) (v := .int .i64 t2.1.1) s16_ rfl (show (0 : Nat) < 3 by decide) ?_
    intro h19_ s18_
    refine s_put (b := r3) (j := 1) (v := .int .i64 t2.1.2.1) s18_ rfl (show (1 : Nat) < 3 by decide) ?_
    intro h21_ s20_
    refine s_put (b := r3) (j := 2) (v := .slice t2.1.2.2.1.1 t2.1.2.2.1.2.1 t2.1.2.2.1.2.2) s20_ rfl (show (2 : Nat) < 3 by decide) ?_
    intro h23_ s22_
    obtain ⟨r24_, hr25_, hd⟩ := Option.bind_eq_some_iff.1 hd
    refine s_call (tronageref20_Read_sim fuel  s22_ hr25_) ?_
    rintro _ h26_ ⟨f27_, t4, d30_, le29_, rfl, rfl, k32_, s28_⟩
    refine ⟨t4, rfl, ?_⟩
    try dsimp only at hd
    have n31_ := k32_.length
    refine s_new (vs := [.int .i64 (0 : Int), .int .i64 (0 : Int), .slice none 0 0]) s28_ ?_
    intro r5 h34_ s33_
    refine s_put (b := r5) (j := 0) (v := .int .i64 t4.1.1) s33_ rfl (show (0 : Nat) < 3 by decide) ?_
    intro h36_ s35_
    refine s_put (b := r5) (j := 1) (v := .int .i64 t4.1.2.1) s35_ rfl (show (1 : Nat) < 3 by decide) ?_
    intro h38_ s37_
    refine s_put (b := r5) (j := 2) (v := .slice t4.1.2.2.1.1 t4.1.2.2.1.2.1 t4.1.2.2.1.2.2) s37_ rfl (show (2 : Nat) < 3 by decide) ?_
    intro h40_ s39_
    obtain ⟨g41_, hx42_, hd⟩ := Option.bind_eq_some_iff.1 hd
    refine s_join (fun (y : Bool × Unit) w_ g => ∃ ψ : Snap, Sub f27_ ψ ∧ y.1 = g ∧ St ψ (⟨Rep.raw 25, [.pointer (some ⟨r5, 0, none⟩)], [.int .i64 t4.1.1, .int .i64 t4.1.2.1, .slice t4.1.2.2.1.1 t4.1.2.2.1.2.1 t4.1.2.2.1.2.2]⟩ :: ⟨Rep.raw 25, [.pointer (some ⟨r3, 0, none⟩)], [.int .i64 t2.1.1, .int .i64 t2.1.2.1, .slice t2.1.2.2.1.1 t2.1.2.2.1.2.1 t2.1.2.2.1.2.2]⟩ :: F) w_) (g := g41_) ?_ ?_
    · refine s_cond hx42_ rfl (fun hb59_ hx42_ => ?_) (fun hb59_ hx42_ => ?_)
      · refine s_loadR (b := r3) (j := 0) (x := t2.1.1) s39_.at1 rfl ?_
        refine s_loadR (b := r3) (j := 1) (x := t2.1.2.1) s39_.at1 rfl ?_
        refine s_loadR (b := r3) (j := 2) (x := t2.1.2.2.1) s39_.at1 rfl ?_
        refine s_loadR (b := r5) (j := 0) (x := t4.1.1) s39_ rfl ?_
        refine s_loadR (b := r5) (j := 1) (x := t4.1.2.1) s39_ rfl ?_
        refine s_loadR (b := r5) (j := 2) (x := t4.1.2.2.1) s39_ rfl ?_
        obtain ⟨r43_, hr44_, hx42_⟩ := Option.bind_eq_some_iff.1 hx42_
        refine s_call (tronageref20_Same_sim fuel (a_0 := (t2.1.1, t2.1.2.1, t2.1.2.2.1, ())) (b_1 := (t4.1.1, t4.1.2.1, t4.1.2.2.1, ())) (k15_.mono le29_) k32_ s39_ hr44_) ?_
        rintro _ h45_ ⟨f46_, t13, le48_, rfl, rfl, s47_⟩
        refine ⟨t13, rfl, ?_⟩
        refine s_cond hx42_ rfl (fun hb56_ hx42_ => ?_) (fun hb56_ hx42_ => ?_)
        · refine s_cond hx42_ rfl (fun hb53_ hx42_ => ?_) (fun hb53_ hx42_ => ?_)
          · have s49_ := s47_.at1
            have s50_ := s49_.at1
            obtain rfl := Option.some.inj hx42_
            exact s_out ((t2.2.2.1 == t4.2.2.1), ()) rfl ⟨f46_, le48_, rfl, s50_⟩
          · have s51_ := s47_.at1
            have s52_ := s51_.at1
            obtain rfl := Option.some.inj hx42_
            exact s_out (false, ()) rfl ⟨f46_, le48_, rfl, s52_⟩
        · have s54_ := s47_.at1
          have s55_ := s54_.at1
          obtain rfl := Option.some.inj hx42_
          exact s_out (false, ()) rfl ⟨f46_, le48_, rfl, s55_⟩
      · have s57_ := s39_.at1
        have s58_ := s57_.at1
        obtain rfl := Option.some.inj hx42_
        exact s_out (false, ()) rfl ⟨f27_, (Sub.refl _), rfl, s58_⟩
    · rintro z6 h60_ ⟨f61_, le62_, rfl, s63_⟩
      try dsimp only at hd
      obtain rfl := Option.some.inj hd
      have s64_ := s63_.tail
      have s65_ := s64_.tail
      exact finOf_back ⟨f61_, z6.1, (((le6_.trans le12_).trans le29_).trans le62_), rfl, rfl, s65_⟩

noncomputable def tronagelaw20_ExprSpaces_D (fuel : Nat) (s_0 : ByteArray) (n_1 : Int) : Option Bool :=
  (tronagelaw20_awake_D fuel).bind fun t1 =>
  (cond (decide (((ByteArray.size s_0 : Nat) : Int) > (150 : Int)))
  (some true)
  (cond (decide (n_1 < (0 : Int)))
    (some true)
    (some (decide (n_1 > (9 : Int)))))).bind fun z2 =>
  cond z2
  (some t1)
  (need (0 ≤ (0 : Int) ∧ (0 : Int) ≤ n_1 ∧ n_1 ≤ (ByteArray.size { data := #[32, 9, 10, 13, 32, 9, 10, 13, 32] } : Nat)) <|
    (expr_Read_D fuel s_0).bind fun t3 =>
    need (((ByteArray.size (ByteArray.extract { data := #[32, 9, 10, 13, 32, 9, 10, 13, 32] } (Int.toNat (0 : Int)) (Int.toNat n_1)) + ByteArray.size s_0 : Nat) : Int) ≤ IntKind.max .i64) <|
    need (((ByteArray.size ((ByteArray.extract { data := #[32, 9, 10, 13, 32, 9, 10, 13, 32] } (Int.toNat (0 : Int)) (Int.toNat n_1)) ++ s_0) + ByteArray.size (ByteArray.extract { data := #[32, 9, 10, 13, 32, 9, 10, 13, 32] } (Int.toNat (0 : Int)) (Int.toNat n_1)) : Nat) : Int) ≤ IntKind.max .i64) <|
    (expr_Read_D fuel (((ByteArray.extract { data := #[32, 9, 10, 13, 32, 9, 10, 13, 32] } (Int.toNat (0 : Int)) (Int.toNat n_1)) ++ s_0) ++ (ByteArray.extract { data := #[32, 9, 10, 13, 32, 9, 10, 13, 32] } (Int.toNat (0 : Int)) (Int.toNat n_1)))).bind fun t5 =>
    need (((ByteArray.size { data := #[40] } + ByteArray.size (ByteArray.extract { data := #[32, 9, 10, 13, 32, 9, 10, 13, 32] } (Int.toNat (0 : Int)) (Int.toNat n_1)) : Nat) : Int) ≤ IntKind.max .i64) <|
    need (((ByteArray.size ({ data := #[40] } ++ (ByteArray.extract { data := #[32, 9, 10, 13, 32, 9, 10, 13, 32] } (Int.toNat (0 : Int)) (Int.toNat n_1))) + ByteArray.size s_0 : Nat) : Int) ≤ IntKind.max .i64) <|
    need (((ByteArray.size (({ data := #[40] } ++ (ByteArray.extract { data := #[32, 9, 10, 13, 32, 9, 10, 13, 32] } (Int.toNat (0 : Int)) (Int.toNat n_1))) ++ s_0) + ByteArray.size { data := #[41] } : Nat) : Int) ≤ IntKind.max .i64) <|
    (expr_Read_D fuel ((({ data := #[40] } ++ (ByteArray.extract { data := #[32, 9, 10, 13, 32, 9, 10, 13, 32] } (Int.toNat (0 : Int)) (Int.toNat n_1))) ++ s_0) ++ { data := #[41] })).bind fun t7 =>
    (cond (t3.2.2.2.1 != t5.2.2.2.1)
    (some true)
    ((tronageref20_Same_D fuel (Ex.mk t3.1 t3.2.1 t3.2.2.1) (Ex.mk t5.1 t5.2.1 t5.2.2.1)).bind fun t16 =>
      some (!t16))).bind fun z9 =>
    cond z9
    (some false)
    (cond (t3.2.2.2.1 != (0 : Int))
      (some t1)
      (cond (t3.1 == (0 : Int))
        ((cond t1
          (some (t7.2.2.2.1 == (30 : Int)))
          (some false)).bind fun z18 =>
          some z18)
        ((cond t1
          (cond (t7.2.2.2.1 == (13 : Int))
            (some true)
            (cond (t7.2.2.2.1 == (0 : Int))
              ((tronageref20_Same_D fuel (Ex.mk t3.1 t3.2.1 t3.2.2.1) (Ex.mk t7.1 t7.2.1 t7.2.2.1)).bind fun t26 =>
                some t26)
              (some false)))
          (some false)).bind fun z19 =>
          some z19))))
theorem tronagelaw20_ExprSpaces_sim (fuel : Nat) {φ : Snap} {h : Heap} {F : List Chk} {s_0 : ByteArray} {n_1 : Int} (gk : Glob φ)  (s0 : St φ (F) h) {r : Bool} (hd : tronagelaw20_ExprSpaces_D fuel s_0 n_1 = some r) :
    CallsH Tryd.prog 4 [(.string s_0), (.int .i64 n_1)] h (Back fun v h' => ∃ ψ : Snap, ∃ y : Bool, Sub φ ψ ∧ v = ((.one (.atom .bool)) : Sh).val y ∧ y = r ∧ St ψ (F) h') := by
  refine calls_of mixed Tryd.func4 ?_
  rw [tronagelaw20_ExprSpaces_den]
  unfold tronagelaw20_ExprSpaces_T
  unfold tronagelaw20_ExprSpaces_D at hd
  try dsimp only [Ex.kind_mk, Ex.n_mk, Ex.kids_mk] at hd
  obtain ⟨r1_, hr2_, hd⟩ := Option.bind_eq_some_iff.1 hd
  refine s_call (tronagelaw20_awake_sim fuel gk  s0 hr2_) ?_
  rintro _ h3_ ⟨f4_, t1, le6_, rfl, rfl, s5_⟩
  refine ⟨t1, rfl, ?_⟩
  obtain ⟨g7_, hx8_, hd⟩ := Option.bind_eq_some_iff.1 hd
  refine s_join (fun (y : Bool × Unit) w_ g => ∃ ψ : Snap, Sub f4_ ψ ∧ y.1 = g ∧ St ψ (F) w_) (g := g7_) ?_ ?_
  · refine s_cond hx8_ rfl (fun hb10_ hx8_ => ?_) (fun hb10_ hx8_ => ?_)
    · obtain rfl := Option.some.inj hx8_
      exact s_out (true, ()) rfl ⟨f4_, (Sub.refl _), rfl, s5_⟩
    · refine s_cond hx8_ rfl (fun hb9_ hx8_ => ?_) (fun hb9_ hx8_ => ?_)
      · obtain rfl := Option.some.inj hx8_
        exact s_out (true, ()) rfl ⟨f4_, (Sub.refl _), rfl, s5_⟩
      · obtain rfl := Option.some.inj hx8_
        exact s_out ((decide (n_1 > (9 : Int))), ()) rfl ⟨f4_, (Sub.refl _), rfl, s5_⟩
  · rintro z2 h11_ ⟨f12_, le13_, rfl, s14_⟩
    try dsimp only at hd
    refine s_cond hd rfl (fun hb146_ hd => ?_) (fun hb146_ hd => ?_)
    · obtain rfl := Option.some.inj hd
      exact finOf_back ⟨f12_, t1, (le6_.trans le13_), rfl, rfl, s14_⟩
    · refine s_chk hd id fun hp15_ hd => ?_
      obtain ⟨r16_, hr17_, hd⟩ := Option.bind_eq_some_iff.1 hd
      refine s_call (expr_Read_sim fuel  s14_ hr17_) ?_
      rintro _ h18_ ⟨f19_, t3, d22_, le21_, rfl, rfl, k24_, s20_⟩
      refine ⟨t3, rfl, ?_⟩
      try dsimp only at hd
      have n23_ := k24_.length
      refine s_new (vs := [.int .i64 (0 : Int), .int .i64 (0 : Int), .slice none 0 0]) s20_ ?_
      intro r4 h26_ s25_
      refine s_put (b := r4) (j := 0) (v := .int .i64 t3.1.1) s25_ rfl (show (0 : Nat) < 3 by decide) ?_
      intro h28_ s27_
      refine s_put (b := r4) (j := 1) (v := .int .i64 t3.1.2.1) s27_ rfl (show (1 : Nat) < 3 by decide) ?_
      intro h30_ s29_
      refine s_put (b := r4) (j := 2) (v := .slice t3.1.2.2.1.1 t3.1.2.2.1.2.1 t3.1.2.2.1.2.2) s29_ rfl (show (2 : Nat) < 3 by decide) ?_
      intro h32_ s31_
      refine s_chk hd id fun hp33_ hd => ?_
      refine s_chk hd id fun hp34_ hd => ?_
      obtain ⟨r35_, hr36_, hd⟩ := Option.bind_eq_some_iff.1 hd
      refine s_call (expr_Read_sim fuel  s31_ hr36_) ?_
      rintro _ h37_ ⟨f38_, t5, d41_, le40_, rfl, rfl, k43_, s39_⟩
      refine ⟨t5, rfl, ?_⟩
      try dsimp only at hd
      have n42_ := k43_.length
      refine s_new (vs := [.int .i64 (0 : Int), .int .i64 (0 : Int), .slice none 0 0]) s39_ ?_
      intro r6 h45_ s44_
      refine s_put (b := r6) (j := 0) (v := .int .i64 t5.1.1) s44_ rfl (show (0 : Nat) < 3 by decide) ?_
      intro h47_ s46_
      refine s_put (b := r6) (j := 1) (v := .int .i64 t5.1.2.1) s46_ rfl (show (1 : Nat) < 3 by decide) ?_
      intro h49_ s48_
      refine s_put (b := r6) (j := 2) (v := .slice t5.1.2.2.1.1 t5.1.2.2.1.2.1 t5.1.2.2.1.2.2) s48_ rfl (show (2 : Nat) < 3 by decide) ?_
      intro h51_ s50_
      refine s_chk hd id fun hp52_ hd => ?_
      refine s_chk hd id fun hp53_ hd => ?_
      refine s_chk hd id fun hp54_ hd => ?_
      obtain ⟨r55_, hr56_, hd⟩ := Option.bind_eq_some_iff.1 hd
      refine s_call (expr_Read_sim fuel  s50_ hr56_) ?_
      rintro _ h57_ ⟨f58_, t7, d61_, le60_, rfl, rfl, k63_, s59_⟩
      refine ⟨t7, rfl, ?_⟩
      try dsimp only at hd
      have n62_ := k63_.length
      refine s_new (vs := [.int .i64 (0 : Int), .int .i64 (0 : Int), .slice none 0 0]) s59_ ?_
      intro r8 h65_ s64_
      refine s_put (b := r8) (j := 0) (v := .int .i64 t7.1.1) s64_ rfl (show (0 : Nat) < 3 by decide) ?_
      intro h67_ s66_
      refine s_put (b := r8) (j := 1) (v := .int .i64 t7.1.2.1) s66_ rfl (show (1 : Nat) < 3 by decide) ?_
      intro h69_ s68_
      refine s_put (b := r8) (j := 2) (v := .slice t7.1.2.2.1.1 t7.1.2.2.1.2.1 t7.1.2.2.1.2.2) s68_ rfl (show (2 : Nat) < 3 by decide) ?_
      intro h71_ s70_
      obtain ⟨g72_, hx73_, hd⟩ := Option.bind_eq_some_iff.1 hd
      refine s_join (fun (y : Bool × Unit) w_ g => ∃ ψ : Snap, Sub f58_ ψ ∧ y.1 = g ∧ St ψ (⟨Rep.raw 25, [.pointer (some ⟨r8, 0, none⟩)], [.int .i64 t7.1.1, .int .i64 t7.1.2.1, .slice t7.1.2.2.1.1 t7.1.2.2.1.2.1 t7.1.2.2.1.2.2]⟩ :: ⟨Rep.raw 25, [.pointer (some ⟨r6, 0, none⟩)], [.int .i64 t5.1.1, .int .i64 t5.1.2.1, .slice t5.1.2.2.1.1 t5.1.2.2.1.2.1 t5.1.2.2.1.2.2]⟩ :: ⟨Rep.raw 25, [.pointer (some ⟨r4, 0, none⟩)], [.int .i64 t3.1.1, .int .i64 t3.1.2.1, .slice t3.1.2.2.1.1 t3.1.2.2.1.2.1 t3.1.2.2.1.2.2]⟩ :: F) w_) (g := g72_) ?_ ?_
      · refine s_cond hx73_ rfl (fun hb86_ hx73_ => ?_) (fun hb86_ hx73_ => ?_)
        · have s74_ := s70_.at2
          have s75_ := s74_.at2
          have s76_ := s75_.at2
          obtain rfl := Option.some.inj hx73_
          exact s_out (true, ()) rfl ⟨f58_, (Sub.refl _), rfl, s76_⟩
        · refine s_loadR (b := r4) (j := 0) (x := t3.1.1) s70_.at2 rfl ?_
          refine s_loadR (b := r4) (j := 1) (x := t3.1.2.1) s70_.at2 rfl ?_
          refine s_loadR (b := r4) (j := 2) (x := t3.1.2.2.1) s70_.at2 rfl ?_
          refine s_loadR (b := r6) (j := 0) (x := t5.1.1) s70_.at1 rfl ?_
          refine s_loadR (b := r6) (j := 1) (x := t5.1.2.1) s70_.at1 rfl ?_
          refine s_loadR (b := r6) (j := 2) (x := t5.1.2.2.1) s70_.at1 rfl ?_
          obtain ⟨r77_, hr78_, hx73_⟩ := Option.bind_eq_some_iff.1 hx73_
          refine s_call (tronageref20_Same_sim fuel (a_0 := (t3.1.1, t3.1.2.1, t3.1.2.2.1, ())) (b_1 := (t5.1.1, t5.1.2.1, t5.1.2.2.1, ())) (k24_.mono (le40_.trans le60_)) (k43_.mono le60_) s70_ hr78_) ?_
          rintro _ h79_ ⟨f80_, t16, le82_, rfl, rfl, s81_⟩
          refine ⟨t16, rfl, ?_⟩
          have s83_ := s81_.at2
          have s84_ := s83_.at2
          have s85_ := s84_.at2
          obtain rfl := Option.some.inj hx73_
          exact s_out ((!t16), ()) rfl ⟨f80_, le82_, rfl, s85_⟩
      · rintro z9 h87_ ⟨f88_, le89_, rfl, s90_⟩
        try dsimp only at hd
        refine s_cond hd rfl (fun hb145_ hd => ?_) (fun hb145_ hd => ?_)
        · obtain rfl := Option.some.inj hd
          have s91_ := s90_.tail
          have s92_ := s91_.tail
          have s93_ := s92_.tail
          exact finOf_back ⟨f88_, false, (((((le6_.trans le13_).trans le21_).trans le40_).trans le60_).trans le89_), rfl, rfl, s93_⟩
        · refine s_cond hd rfl (fun hb144_ hd => ?_) (fun hb144_ hd => ?_)
          · obtain rfl := Option.some.inj hd
            have s94_ := s90_.tail
            have s95_ := s94_.tail
            have s96_ := s95_.tail
            exact finOf_back ⟨f88_, t1, (((((le6_.trans le13_).trans le21_).trans le40_).trans le60_).trans le89_), rfl, rfl, s96_⟩
          · refine s_loadR (b := r4) (j := 0) (x := t3.1.1) s90_.at2 rfl ?_
            refine s_cond hd rfl (fun hb143_ hd => ?_) (fun hb143_ hd => ?_)
            · obtain ⟨g97_, hx98_, hd⟩ := Option.bind_eq_some_iff.1 hd
              refine s_join (fun (y : Bool × Unit) w_ g => ∃ ψ : Snap, Sub f88_ ψ ∧ y.1 = g ∧ St ψ (⟨Rep.raw 25, [.pointer (some ⟨r8, 0, none⟩)], [.int .i64 t7.1.1, .int .i64 t7.1.2.1, .slice t7.1.2.2.1.1 t7.1.2.2.1.2.1 t7.1.2.2.1.2.2]⟩ :: ⟨Rep.raw 25, [.pointer (some ⟨r6, 0, none⟩)], [.int .i64 t5.1.1, .int .i64 t5.1.2.1, .slice t5.1.2.2.1.1 t5.1.2.2.1.2.1 t5.1.2.2.1.2.2]⟩ :: ⟨Rep.raw 25, [.pointer (some ⟨r4, 0, none⟩)], [.int .i64 t3.1.1, .int .i64 t3.1.2.1, .slice t3.1.2.2.1.1 t3.1.2.2.1.2.1 t3.1.2.2.1.2.2]⟩ :: F) w_) (g := g97_) ?_ ?_
              · refine s_cond hx98_ rfl (fun hb105_ hx98_ => ?_) (fun hb105_ hx98_ => ?_)
                · have s99_ := s90_.at2
                  have s100_ := s99_.at2
                  have s101_ := s100_.at2
                  obtain rfl := Option.some.inj hx98_
                  exact s_out ((t7.2.1 == (30 : Int)), ()) rfl ⟨f88_, (Sub.refl _), rfl, s101_⟩
                · have s102_ := s90_.at2
                  have s103_ := s102_.at2
                  have s104_ := s103_.at2
                  obtain rfl := Option.some.inj hx98_
                  exact s_out (false, ()) rfl ⟨f88_, (Sub.refl _), rfl, s104_⟩
              · rintro z18 h106_ ⟨f107_, le108_, rfl, s109_⟩
                try dsimp only at hd
                obtain rfl := Option.some.inj hd
                have s110_ := s109_.tail
                have s111_ := s110_.tail
                have s112_ := s111_.tail
                exact finOf_back ⟨f107_, z18.1, ((((((le6_.trans le13_).trans le21_).trans le40_).trans le60_).trans le89_).trans le108_), rfl, rfl, s112_⟩
            · obtain ⟨g113_, hx114_, hd⟩ := Option.bind_eq_some_iff.1 hd
              refine s_join (fun (y : Bool × Unit) w_ g => ∃ ψ : Snap, Sub f88_ ψ ∧ y.1 = g ∧ St ψ (⟨Rep.raw 25, [.pointer (some ⟨r8, 0, none⟩)], [.int .i64 t7.1.1, .int .i64 t7.1.2.1, .slice t7.1.2.2.1.1 t7.1.2.2.1.2.1 t7.1.2.2.1.2.2]⟩ :: ⟨Rep.raw 25, [.pointer (some ⟨r6, 0, none⟩)], [.int .i64 t5.1.1, .int .i64 t5.1.2.1, .slice t5.1.2.2.1.1 t5.1.2.2.1.2.1 t5.1.2.2.1.2.2]⟩ :: ⟨Rep.raw 25, [.pointer (some ⟨r4, 0, none⟩)], [.int .i64 t3.1.1, .int .i64 t3.1.2.1, .slice t3.1.2.2.1.1 t3.1.2.2.1.2.1 t3.1.2.2.1.2.2]⟩ :: F) w_) (g := g113_) ?_ ?_
              · refine s_cond hx114_ rfl (fun hb135_ hx114_ => ?_) (fun hb135_ hx114_ => ?_)
                · refine s_cond hx114_ rfl (fun hb131_ hx114_ => ?_) (fun hb131_ hx114_ => ?_)
                  · have s115_ := s90_.at2
                    have s116_ := s115_.at2
                    have s117_ := s116_.at2
                    obtain rfl := Option.some.inj hx114_
                    exact s_out (true, ()) rfl ⟨f88_, (Sub.refl _), rfl, s117_⟩
                  · refine s_cond hx114_ rfl (fun hb130_ hx114_ => ?_) (fun hb130_ hx114_ => ?_)
                    · refine s_loadR (b := r4) (j := 0) (x := t3.1.1) s90_.at2 rfl ?_
                      refine s_loadR (b := r4) (j := 1) (x := t3.1.2.1) s90_.at2 rfl ?_
                      refine s_loadR (b := r4) (j := 2) (x := t3.1.2.2.1) s90_.at2 rfl ?_
                      refine s_loadR (b := r8) (j := 0) (x := t7.1.1) s90_ rfl ?_
                      refine s_loadR (b := r8) (j := 1) (x := t7.1.2.1) s90_ rfl ?_
                      refine s_loadR (b := r8) (j := 2) (x := t7.1.2.2.1) s90_ rfl ?_
                      obtain ⟨r118_, hr119_, hx114_⟩ := Option.bind_eq_some_iff.1 hx114_
                      refine s_call (tronageref20_Same_sim fuel (a_0 := (t3.1.1, t3.1.2.1, t3.1.2.2.1, ())) (b_1 := (t7.1.1, t7.1.2.1, t7.1.2.2.1, ())) (k24_.mono ((le40_.trans le60_).trans le89_)) (k63_.mono le89_) s90_ hr119_) ?_
                      rintro _ h120_ ⟨f121_, t26, le123_, rfl, rfl, s122_⟩
                      refine ⟨t26, rfl, ?_⟩
                      have s124_ := s122_.at2
                      have s125_ := s124_.at2
                      have s126_ := s125_.at2
                      obtain rfl := Option.some.inj hx114_
                      exact s_out (t26, ()) rfl ⟨f121_, le123_, rfl, s126_⟩
                    · have s127_ := s90_.at2
                      have s128_ := s127_.at2
                      have s129_ := s128_.at2
                      obtain rfl := Option.some.inj hx114_
                      exact s_out (false, ()) rfl ⟨f88_, (Sub.refl _), rfl, s129_⟩
                · have s132_ := s90_.at2
                  have s133_ := s132_.at2
                  have s134_ := s133_.at2
                  obtain rfl := Option.some.inj hx114_
                  exact s_out (false, ()) rfl ⟨f88_, (Sub.refl _), rfl, s134_⟩
              · rintro z19 h136_ ⟨f137_, le138_, rfl, s139_⟩
                try dsimp only at hd
                obtain rfl := Option.some.inj hd
                have s140_ := s139_.tail
                have s141_ := s140_.tail
                have s142_ := s141_.tail
                exact finOf_back ⟨f137_, z19.1, ((((((le6_.trans le13_).trans le21_).trans le40_).trans le60_).trans le89_).trans le138_), rfl, rfl, s142_⟩

noncomputable def tronagelaw20_ExprOrder_D (fuel : Nat) (l_0 : List Int) (signs_1 : List Int) : Option Bool :=
  (tronagelaw20_awake_D fuel).bind fun t1 =>
  (cond (decide ((((List.length l_0) : Nat) : Int) < (1 : Int)))
  (some true)
  (cond (decide ((((List.length l_0) : Nat) : Int) > (12 : Int)))
    (some true)
    (some (decide ((((List.length signs_1) : Nat) : Int) < (((List.length l_0) : Nat) : Int)))))).bind fun z2 =>
  cond z2
  (some t1)
  ((forS (σ := (Int × ByteArray × (Int × Int × List Ex) × (Int × Int × List Ex))) (0 : Int) (((List.length l_0) : Nat) : Int) ((0 : Int), { data := #[] }, ((0 : Int), (0 : Int), ([] : List Ex)), ((0 : Int), (0 : Int), ([] : List Ex))) fun i_z6 z6 =>
      (idx l_0 i_z6).bind fun e74 =>
      (tronageref20_Show_D fuel (Ex.mk (1 : Int) (IntKind.wrap .i64 e74) ([] : List Ex))).bind fun t13 =>
      need (((ByteArray.size z6.2.1 + ByteArray.size t13 : Nat) : Int) ≤ IntKind.max .i64) <|
      (cond (i_z6 == (0 : Int))
      (some true)
      ((idx signs_1 (IntKind.wrap .i64 (i_z6 - (1 : Int)))).bind fun e103 =>
        need ((5 : Int) ≠ 0) <|
        some (decide ((Int.tmod e103 (5 : Int)) < (2 : Int))))).bind fun z14 =>
      (cond z14
      ((cond (decide (i_z6 > (0 : Int)))
        ((tronagelaw20_join_D (Ex.mk (z6.2.2.1.1) (z6.2.2.1.2.1) z6.2.2.1.2.2) z6.1 (Ex.mk (z6.2.2.2.1) (z6.2.2.2.2.1) z6.2.2.2.2.2)).bind fun t25 =>
          (idx signs_1 (IntKind.wrap .i64 (i_z6 - (1 : Int)))).bind fun e197 =>
          need ((5 : Int) ≠ 0) <|
          some ((IntKind.wrap .i64 ((5 : Int) + (IntKind.wrap .i64 (Int.tmod e197 (5 : Int))))), (t25.1, t25.2.1, t25.2.2)))
        (some (z6.1, z6.2.2.1))).bind fun z18 =>
        some (z18.1, z18.2, ((1 : Int), (IntKind.wrap .i64 e74), ([] : List Ex))))
      ((idx signs_1 (IntKind.wrap .i64 (i_z6 - (1 : Int)))).bind fun e272 =>
        need ((5 : Int) ≠ 0) <|
        some (z6.1, z6.2.2.1, ((IntKind.wrap .i64 ((5 : Int) + (IntKind.wrap .i64 (Int.tmod e272 (5 : Int))))), (0 : Int), ([(Ex.mk (z6.2.2.2.1) (z6.2.2.2.2.1) z6.2.2.2.2.2), (Ex.mk (1 : Int) (IntKind.wrap .i64 e74) ([] : List Ex))] : List Ex))))).bind fun z17 =>
      (cond (decide ((IntKind.wrap .i64 (i_z6 + (1 : Int))) < (((List.length l_0) : Nat) : Int)))
      ((idx signs_1 i_z6).bind fun e340 =>
        need ((5 : Int) ≠ 0) <|
        (idx signs_1 i_z6).bind fun e350 =>
        need ((5 : Int) ≠ 0) <|
        need (0 ≤ (Int.tmod e340 (5 : Int)) ∧ (Int.tmod e340 (5 : Int)) ≤ (IntKind.wrap .u8 ((Int.tmod e350 (5 : Int)) + (1 : Int))) ∧ (IntKind.wrap .u8 ((Int.tmod e350 (5 : Int)) + (1 : Int))) ≤ (ByteArray.size { data := #[43, 45, 42, 47, 37] } : Nat)) <|
        need (((ByteArray.size (z6.2.1 ++ t13) + ByteArray.size (ByteArray.extract { data := #[43, 45, 42, 47, 37] } (Int.toNat (Int.tmod e340 (5 : Int))) (Int.toNat (IntKind.wrap .u8 ((Int.tmod e350 (5 : Int)) + (1 : Int))))) : Nat) : Int) ≤ IntKind.max .i64) <|
        some ((z6.2.1 ++ t13) ++ (ByteArray.extract { data := #[43, 45, 42, 47, 37] } (Int.toNat (Int.tmod e340 (5 : Int))) (Int.toNat (IntKind.wrap .u8 ((Int.tmod e350 (5 : Int)) + (1 : Int)))))))
      (some (z6.2.1 ++ t13))).bind fun z40 =>
      some (z17.1, z40, z17.2.1, z17.2.2)).bind fun z5 =>
    (expr_Read_D fuel z5.2.1).bind fun t45 =>
    (cond t1
    (cond (t45.2.2.2.1 == (0 : Int))
      ((tronagelaw20_join_D (Ex.mk (z5.2.2.1.1) (z5.2.2.1.2.1) z5.2.2.1.2.2) z5.1 (Ex.mk (z5.2.2.2.1) (z5.2.2.2.2.1) z5.2.2.2.2.2)).bind fun t57 =>
        (tronageref20_Same_D fuel (Ex.mk t45.1 t45.2.1 t45.2.2.1) (Ex.mk t57.1 t57.2.1 t57.2.2)).bind fun t58 =>
        some t58)
      (some false))
    (some false)).bind fun z47 =>
    some z47)
theorem tronagelaw20_ExprOrder_sim (fuel : Nat) {φ : Snap} {h : Heap} {F : List Chk} {l_0 : Slc} {d_l_0 : List Int} {signs_1 : Slc} {d_signs_1 : List Int} (gk : Glob φ) (k1_ : Ro.SliceIs (Ro.int .u8) φ l_0 d_l_0) (k3_ : Ro.SliceIs (Ro.int .u8) φ signs_1 d_signs_1) (s0 : St φ (F) h) {r : Bool} (hd : tronagelaw20_ExprOrder_D fuel d_l_0 d_signs_1 = some r) :
    CallsH Tryd.prog 5 [(.slice l_0.1 l_0.2.1 l_0.2.2), (.slice signs_1.1 signs_1.2.1 signs_1.2.2)] h (Back fun v h' => ∃ ψ : Snap, ∃ y : Bool, Sub φ ψ ∧ v = ((.one (.atom .bool)) : Sh).val y ∧ y = r ∧ St ψ (F) h') := by
  refine calls_of mixed Tryd.func5 ?_
  rw [tronagelaw20_ExprOrder_den]
  unfold tronagelaw20_ExprOrder_T
  unfold tronagelaw20_ExprOrder_D at hd
  try dsimp only [Ex.kind_mk, Ex.n_mk, Ex.kids_mk] at hd
  have n2_ : l_0.2.1 = List.length d_l_0 := k1_.length
  have n4_ : signs_1.2.1 = List.length d_signs_1 := k3_.length
  obtain ⟨r5_, hr6_, hd⟩ := Option.bind_eq_some_iff.1 hd
  refine s_call (tronagelaw20_awake_sim fuel gk  s0 hr6_) ?_
  rintro _ h7_ ⟨f8_, t1, le10_, rfl, rfl, s9_⟩
  refine ⟨t1, rfl, ?_⟩
  obtain ⟨g11_, hx12_, hd⟩ := Option.bind_eq_some_iff.1 hd
  refine s_join (fun (y : Bool × Unit) w_ g => ∃ ψ : Snap, Sub f8_ ψ ∧ y.1 = g ∧ St ψ (F) w_) (g := g11_) ?_ ?_
  · refine s_cond hx12_ (by rw [n2_] <;> rfl) (fun hb14_ hx12_ => ?_) (fun hb14_ hx12_ => ?_)
    · obtain rfl := Option.some.inj hx12_
      exact s_out (true, ()) rfl ⟨f8_, (Sub.refl _), rfl, s9_⟩
    · refine s_cond hx12_ (by rw [n2_] <;> rfl) (fun hb13_ hx12_ => ?_) (fun hb13_ hx12_ => ?_)
      · obtain rfl := Option.some.inj hx12_
        exact s_out (true, ()) rfl ⟨f8_, (Sub.refl _), rfl, s9_⟩
      · obtain rfl := Option.some.inj hx12_
        exact s_out ((decide (((signs_1.2.1 : Nat) : Int) < ((l_0.2.1 : Nat) : Int))), ()) rfl ⟨f8_, (Sub.refl _), (by rw [n4_, n2_]), s9_⟩
  · rintro z2 h15_ ⟨f16_, le17_, rfl, s18_⟩
    try dsimp only at hd
    refine s_cond hd rfl (fun hb502_ hd => ?_) (fun hb502_ hd => ?_)
    · obtain rfl := Option.some.inj hd
      exact finOf_back ⟨f16_, t1, (le10_.trans le17_), rfl, rfl, s18_⟩
    · refine s_new (vs := [.int .i64 (0 : Int), .int .i64 (0 : Int), .slice none 0 0]) s18_ ?_
      intro r3 h20_ s19_
      refine s_put (b := r3) (j := 0) (v := .int .i64 (0 : Int)) s19_ rfl (show (0 : Nat) < 3 by decide) ?_
      intro h22_ s21_
      refine s_put (b := r3) (j := 1) (v := .int .i64 (0 : Int)) s21_ rfl (show (1 : Nat) < 3 by decide) ?_
      intro h24_ s23_
      refine s_put (b := r3) (j := 2) (v := .slice none 0 0) s23_ rfl (show (2 : Nat) < 3 by decide) ?_
      intro h26_ s25_
      refine s_new (vs := [.int .i64 (0 : Int), .int .i64 (0 : Int), .slice none 0 0]) s25_ ?_
      intro r4 h28_ s27_
      refine s_put (b := r4) (j := 0) (v := .int .i64 (0 : Int)) s27_ rfl (show (0 : Nat) < 3 by decide) ?_
      intro h30_ s29_
      refine s_put (b := r4) (j := 1) (v := .int .i64 (0 : Int)) s29_ rfl (show (1 : Nat) < 3 by decide) ?_
      intro h32_ s31_
      refine s_put (b := r4) (j := 2) (v := .slice none 0 0) s31_ rfl (show (2 : Nat) < 3 by decide) ?_
      intro h34_ s33_
      have s35_ := St.unro (r := (Ro.list exRo)) (cs := [.slice ((none, 0, 0) : Slc).1 ((none, 0, 0) : Slc).2.1 ((none, 0, 0) : Slc).2.2]) (x := ([] : List Ex)) s33_ ⟨((none, 0, 0) : Slc), rfl, (Ro.SliceIs.nil exRo f16_)⟩
      have s36_ := St.unro (r := (Ro.int .i64)) (cs := [.int .i64 (0 : Int)]) (x := (0 : Int)) s35_ rfl
      have s37_ := St.unpair s36_
      have s38_ := St.unro (r := (Ro.int .i64)) (cs := [.int .i64 (0 : Int)]) (x := (0 : Int)) s37_ rfl
      have s39_ := St.unpair s38_
      have s40_ : St f16_ (⟨Rep.obj 25 (Rep.prod (Rep.ro (Ro.int .i64)) (Rep.prod (Rep.ro (Ro.int .i64)) (Rep.ro (Ro.list exRo)))), [.pointer (some ⟨r3, 0, none⟩)], ((0 : Int), (0 : Int), ([] : List Ex))⟩ :: ⟨Rep.raw 25, [.pointer (some ⟨r4, 0, none⟩)], [.int .i64 (0 : Int), .int .i64 (0 : Int), .slice none 0 0]⟩ :: F) _ := St.shut s39_.at2
      have s41_ := St.unro (r := (Ro.list exRo)) (cs := [.slice ((none, 0, 0) : Slc).1 ((none, 0, 0) : Slc).2.1 ((none, 0, 0) : Slc).2.2]) (x := ([] : List Ex)) s40_ ⟨((none, 0, 0) : Slc), rfl, (Ro.SliceIs.nil exRo f16_)⟩
      have s42_ := St.unro (r := (Ro.int .i64)) (cs := [.int .i64 (0 : Int)]) (x := (0 : Int)) s41_ rfl
      have s43_ := St.unpair s42_
      have s44_ := St.unro (r := (Ro.int .i64)) (cs := [.int .i64 (0 : Int)]) (x := (0 : Int)) s43_ rfl
      have s45_ := St.unpair s44_
      have s46_ : St f16_ (⟨Rep.obj 25 (Rep.prod (Rep.ro (Ro.int .i64)) (Rep.prod (Rep.ro (Ro.int .i64)) (Rep.ro (Ro.list exRo)))), [.pointer (some ⟨r4, 0, none⟩)], ((0 : Int), (0 : Int), ([] : List Ex))⟩ :: ⟨Rep.obj 25 (Rep.prod (Rep.ro (Ro.int .i64)) (Rep.prod (Rep.ro (Ro.int .i64)) (Rep.ro (Ro.list exRo)))), [.pointer (some ⟨r3, 0, none⟩)], ((0 : Int), (0 : Int), ([] : List Ex))⟩ :: F) _ := St.shut s45_.at2
      have s49_ := s46_.at1
      obtain ⟨g47_, hx48_, hd⟩ := Option.bind_eq_some_iff.1 hd
      refine s_block (fun (y : Int × Int × ByteArray × Unit) w_ g => ∃ ψ : Snap, ∃ l50_ : (Int × Int × List Ex), ∃ l51_ : (Int × Int × List Ex), Sub f16_ ψ ∧ (y.2.1, y.2.2.1, l50_, l51_) = g ∧ St ψ (⟨Rep.obj 25 (Rep.prod (Rep.ro (Ro.int .i64)) (Rep.prod (Rep.ro (Ro.int .i64)) (Rep.ro (Ro.list exRo)))), [.pointer (some ⟨r3, 0, none⟩)], l50_⟩ :: ⟨Rep.obj 25 (Rep.prod (Rep.ro (Ro.int .i64)) (Rep.prod (Rep.ro (Ro.int .i64)) (Rep.ro (Ro.list exRo)))), [.pointer (some ⟨r4, 0, none⟩)], l51_⟩ :: F) w_) (g := g47_) ?_ ?_
      · refine s_forS hx48_ (fun i54_ (y : Int × Int × ByteArray × Unit) w_ g => ∃ ψ : Snap, ∃ l52_ : (Int × Int × List Ex), ∃ l53_ : (Int × Int × List Ex), Sub f16_ ψ ∧ y.1 = i54_ ∧ (y.2.1, y.2.2.1, l52_, l53_) = g ∧ St ψ (⟨Rep.obj 25 (Rep.prod (Rep.ro (Ro.int .i64)) (Rep.prod (Rep.ro (Ro.int .i64)) (Rep.ro (Ro.list exRo)))), [.pointer (some ⟨r3, 0, none⟩)], l52_⟩ :: ⟨Rep.obj 25 (Rep.prod (Rep.ro (Ro.int .i64)) (Rep.prod (Rep.ro (Ro.int .i64)) (Rep.ro (Ro.list exRo)))), [.pointer (some ⟨r4, 0, none⟩)], l53_⟩ :: F) w_) ((0 : Int), (0 : Int), { data := #[] }, ()) rfl ⟨f16_, ((0 : Int), (0 : Int), ([] : List Ex)), ((0 : Int), (0 : Int), ([] : List Ex)), (Sub.refl _), rfl, rfl, s49_⟩ ?_ ?_
        · rintro _ z6 h60_ _ _ ⟨f57_, d61_, d62_, le58_, rfl, rfl, s59_⟩ he55_ h164_ h265_ hw63_
          try dsimp only at he55_ h164_ h265_ hw63_
          refine t_true (by rw [n2_]; exact decide_eq_true h265_) ?_
          obtain ⟨x66_, hx67_, he55_⟩ := Option.bind_eq_some_iff.1 he55_
          obtain ⟨a68_, cs69_, ea70_, hi71_, q72_, cl73_⟩ := (k1_.mono ((le10_.trans le17_).trans le58_)).get hx67_
          refine t_deref _ ea70_ (t_chk hi71_ ?_)
          obtain rfl := q72_
          refine s_load (x := x66_) (cellS_heap (Sub.trans (Sub.refl _) s59_.sub) (cl73_ 0 _ rfl)) rfl ?_
          refine s_new (vs := [.int .i64 (0 : Int), .int .i64 (0 : Int), .slice none 0 0]) s59_ ?_
          intro r9 h76_ s75_
          refine s_put (b := r9) (j := 0) (v := .int .i64 (1 : Int)) s75_ rfl (show (0 : Nat) < 3 by decide) ?_
          intro h78_ s77_
          refine s_put (b := r9) (j := 1) (v := .int .i64 (IntKind.wrap .i64 x66_)) s77_ rfl (show (1 : Nat) < 3 by decide) ?_
          intro h80_ s79_
          refine s_put (b := r9) (j := 2) (v := .slice none 0 0) s79_ rfl (show (2 : Nat) < 3 by decide) ?_
          intro h82_ s81_
          refine s_loadR (b := r9) (j := 0) (x := (1 : Int)) s81_ rfl ?_
          refine s_loadR (b := r9) (j := 1) (x := (IntKind.wrap .i64 x66_)) s81_ rfl ?_
          refine s_loadR (b := r9) (j := 2) (x := ((none, 0, 0) : Slc)) s81_ rfl ?_
          obtain ⟨r83_, hr84_, he55_⟩ := Option.bind_eq_some_iff.1 he55_
          refine s_call (tronageref20_Show_sim fuel (x_0 := ((1 : Int), (IntKind.wrap .i64 x66_), ((none, 0, 0) : Slc), ())) (Ro.SliceIs.nil exRo f57_) s81_ hr84_) ?_
          rintro _ h85_ ⟨f86_, t13, le88_, rfl, rfl, s87_⟩
          refine ⟨t13, rfl, ?_⟩
          refine s_chk he55_ id fun hp89_ he55_ => ?_
          obtain ⟨g90_, hx91_, he55_⟩ := Option.bind_eq_some_iff.1 he55_
          refine s_join (fun (y : Bool × Unit) w_ g => ∃ ψ : Snap, Sub f86_ ψ ∧ y.1 = g ∧ St ψ (⟨Rep.raw 25, [.pointer (some ⟨r9, 0, none⟩)], [.int .i64 (1 : Int), .int .i64 (IntKind.wrap .i64 x66_), .slice none 0 0]⟩ :: ⟨Rep.obj 25 (Rep.prod (Rep.ro (Ro.int .i64)) (Rep.prod (Rep.ro (Ro.int .i64)) (Rep.ro (Ro.list exRo)))), [.pointer (some ⟨r3, 0, none⟩)], d61_⟩ :: ⟨Rep.obj 25 (Rep.prod (Rep.ro (Ro.int .i64)) (Rep.prod (Rep.ro (Ro.int .i64)) (Rep.ro (Ro.list exRo)))), [.pointer (some ⟨r4, 0, none⟩)], d62_⟩ :: F) w_) (g := g90_) ?_ ?_
          · refine s_cond hx91_ rfl (fun hb108_ hx91_ => ?_) (fun hb108_ hx91_ => ?_)
            · have s92_ := s87_.at2
              have s93_ := s92_.at2
              have s94_ := s93_.at2
              obtain rfl := Option.some.inj hx91_
              exact s_out (true, ()) rfl ⟨f86_, (Sub.refl _), rfl, s94_⟩
            · obtain ⟨x95_, hx96_, hx91_⟩ := Option.bind_eq_some_iff.1 hx91_
              obtain ⟨a97_, cs98_, ea99_, hi100_, q101_, cl102_⟩ := (k3_.mono (((le10_.trans le17_).trans le58_).trans le88_)).get hx96_
              refine t_deref _ ea99_ (t_chk hi100_ ?_)
              obtain rfl := q101_
              refine s_load (x := x95_) (cellS_heap (Sub.trans (Sub.refl _) s87_.sub) (cl102_ 0 _ rfl)) rfl ?_
              refine s_chk hx91_ id fun hp104_ hx91_ => ?_
              have s105_ := s87_.at2
              have s106_ := s105_.at2
              have s107_ := s106_.at2
              obtain rfl := Option.some.inj hx91_
              exact s_out ((decide ((Int.tmod x95_ (5 : Int)) < (2 : Int))), ()) rfl ⟨f86_, (Sub.refl _), rfl, s107_⟩
          · rintro z14 h109_ ⟨f110_, le111_, rfl, s112_⟩
            try dsimp only at he55_
            obtain ⟨g113_, hx114_, he55_⟩ := Option.bind_eq_some_iff.1 he55_
            refine s_join (fun (y : Int × Unit) w_ g => ∃ ψ : Snap, ∃ l115_ : (Int × Int × List Ex), ∃ l116_ : (Int × Int × List Ex), Sub f110_ ψ ∧ (y.1, l115_, l116_) = g ∧ St ψ (⟨Rep.obj 25 (Rep.prod (Rep.ro (Ro.int .i64)) (Rep.prod (Rep.ro (Ro.int .i64)) (Rep.ro (Ro.list exRo)))), [.pointer (some ⟨r3, 0, none⟩)], l115_⟩ :: ⟨Rep.obj 25 (Rep.prod (Rep.ro (Ro.int .i64)) (Rep.prod (Rep.ro (Ro.int .i64)) (Rep.ro (Ro.list exRo)))), [.pointer (some ⟨r4, 0, none⟩)], l116_⟩ :: ⟨Rep.raw 25, [.pointer (some ⟨r9, 0, none⟩)], [.int .i64 (1 : Int), .int .i64 (IntKind.wrap .i64 x66_), .slice none 0 0]⟩ :: F) w_) (g := g113_) ?_ ?_
            · refine s_cond hx114_ rfl (fun hb323_ hx114_ => ?_) (fun hb323_ hx114_ => ?_)
              · obtain ⟨g117_, hx118_, hx114_⟩ := Option.bind_eq_some_iff.1 hx114_
                refine s_join (fun (y : Int × Unit) w_ g => ∃ ψ : Snap, ∃ l119_ : (Int × Int × List Ex), Sub f110_ ψ ∧ (y.1, l119_) = g ∧ St ψ (⟨Rep.obj 25 (Rep.prod (Rep.ro (Ro.int .i64)) (Rep.prod (Rep.ro (Ro.int .i64)) (Rep.ro (Ro.list exRo)))), [.pointer (some ⟨r3, 0, none⟩)], l119_⟩ :: ⟨Rep.raw 25, [.pointer (some ⟨r9, 0, none⟩)], [.int .i64 (1 : Int), .int .i64 (IntKind.wrap .i64 x66_), .slice none 0 0]⟩ :: ⟨Rep.obj 25 (Rep.prod (Rep.ro (Ro.int .i64)) (Rep.prod (Rep.ro (Ro.int .i64)) (Rep.ro (Ro.list exRo)))), [.pointer (some ⟨r4, 0, none⟩)], d62_⟩ :: F) w_) (g := g117_) ?_ ?_
                · refine s_cond hx118_ rfl (fun hb216_ hx118_ => ?_) (fun hb216_ hx118_ => ?_)
                  · obtain ⟨b120_, vs121_, e122_, hl123_, s124_⟩ := s112_.at1.open
                    obtain rfl : r3 = b120_ := by simpa using e122_
                    clear e122_
                    have s125_ := s124_.at1
                    obtain ⟨v126_, w127_, rfl, hl129_, s128_⟩ := s125_.pair
                    obtain ⟨g130_, s131_⟩ := s128_.ro
                    subst g130_
                    obtain ⟨v133_, w134_, rfl, hl136_, s135_⟩ := s131_.pair
                    obtain ⟨g137_, s138_⟩ := s135_.ro
                    subst g137_
                    obtain ⟨g140_, s141_⟩ := s138_.ro
                    obtain ⟨t142_, e143_, k144_⟩ := g140_
                    subst e143_
                    have n145_ := k144_.length
                    have s146_ : St f110_ (⟨Rep.raw 25, [.pointer (some ⟨r3, 0, none⟩)], [.int .i64 (d61_.1), .int .i64 (d61_.2.1), .slice t142_.1 t142_.2.1 t142_.2.2]⟩ :: ⟨Rep.raw 25, [.pointer (some ⟨r9, 0, none⟩)], [.int .i64 (1 : Int), .int .i64 (IntKind.wrap .i64 x66_), .slice none 0 0]⟩ :: ⟨Rep.obj 25 (Rep.prod (Rep.ro (Ro.int .i64)) (Rep.prod (Rep.ro (Ro.int .i64)) (Rep.ro (Ro.list exRo)))), [.pointer (some ⟨r4, 0, none⟩)], d62_⟩ :: F) _ := s141_
                    refine s_loadR (b := r3) (j := 0) (x := (d61_.1)) s146_ rfl ?_
                    refine s_loadR (b := r3) (j := 1) (x := (d61_.2.1)) s146_ rfl ?_
                    refine s_loadR (b := r3) (j := 2) (x := t142_) s146_ rfl ?_
                    obtain ⟨b147_, vs148_, e149_, hl150_, s151_⟩ := s146_.at2.open
                    obtain rfl : r4 = b147_ := by simpa using e149_
                    clear e149_
                    have s152_ := s151_.at1
                    obtain ⟨v153_, w154_, rfl, hl156_, s155_⟩ := s152_.pair
                    obtain ⟨g157_, s158_⟩ := s155_.ro
                    subst g157_
                    obtain ⟨v160_, w161_, rfl, hl163_, s162_⟩ := s158_.pair
                    obtain ⟨g164_, s165_⟩ := s162_.ro
                    subst g164_
                    obtain ⟨g167_, s168_⟩ := s165_.ro
                    obtain ⟨t169_, e170_, k171_⟩ := g167_
                    subst e170_
                    have n172_ := k171_.length
                    have s173_ : St f110_ (⟨Rep.raw 25, [.pointer (some ⟨r4, 0, none⟩)], [.int .i64 (d62_.1), .int .i64 (d62_.2.1), .slice t169_.1 t169_.2.1 t169_.2.2]⟩ :: ⟨Rep.raw 25, [.pointer (some ⟨r3, 0, none⟩)], [.int .i64 (d61_.1), .int .i64 (d61_.2.1), .slice t142_.1 t142_.2.1 t142_.2.2]⟩ :: ⟨Rep.raw 25, [.pointer (some ⟨r9, 0, none⟩)], [.int .i64 (1 : Int), .int .i64 (IntKind.wrap .i64 x66_), .slice none 0 0]⟩ :: F) _ := s168_
                    refine s_loadR (b := r4) (j := 0) (x := (d62_.1)) s173_ rfl ?_
                    refine s_loadR (b := r4) (j := 1) (x := (d62_.2.1)) s173_ rfl ?_
                    refine s_loadR (b := r4) (j := 2) (x := t169_) s173_ rfl ?_
                    obtain ⟨r174_, hr175_, hx118_⟩ := Option.bind_eq_some_iff.1 hx118_
                    refine s_call (tronagelaw20_join_sim (sum_0 := ((d61_.1), (d61_.2.1), t142_, ())) (product_2 := ((d62_.1), (d62_.2.1), t169_, ())) k144_ k171_ s173_ hr175_) ?_
                    rintro _ h176_ ⟨f177_, t25, d180_, le179_, rfl, rfl, k182_, s178_⟩
                    refine ⟨t25, rfl, ?_⟩
                    try dsimp only at hx118_
                    have n181_ := k182_.length
                    refine s_put (b := r3) (j := 0) (v := .int .i64 t25.1) s178_.at1 rfl (show (0 : Nat) < 3 by decide) ?_
                    intro h184_ s183_
                    refine s_put (b := r3) (j := 1) (v := .int .i64 t25.2.1) s183_ rfl (show (1 : Nat) < 3 by decide) ?_
                    intro h186_ s185_
                    refine s_put (b := r3) (j := 2) (v := .slice t25.2.2.1.1 t25.2.2.1.2.1 t25.2.2.1.2.2) s185_ rfl (show (2 : Nat) < 3 by decide) ?_
                    intro h188_ s187_
                    obtain ⟨x189_, hx190_, hx118_⟩ := Option.bind_eq_some_iff.1 hx118_
                    obtain ⟨a191_, cs192_, ea193_, hi194_, q195_, cl196_⟩ := (k3_.mono (((((le10_.trans le17_).trans le58_).trans le88_).trans le111_).trans le179_)).get hx190_
                    refine t_deref _ ea193_ (t_chk hi194_ ?_)
                    obtain rfl := q195_
                    refine s_load (x := x189_) (cellS_heap (Sub.trans (Sub.refl _) s187_.sub) (cl196_ 0 _ rfl)) rfl ?_
                    refine s_chk hx118_ id fun hp198_ hx118_ => ?_
                    have s199_ := St.unro (r := (Ro.list exRo)) (cs := [.slice t25.2.2.1.1 t25.2.2.1.2.1 t25.2.2.1.2.2]) (x := d180_) s187_ ⟨t25.2.2.1, rfl, k182_⟩
                    have s200_ := St.unro (r := (Ro.int .i64)) (cs := [.int .i64 t25.2.1]) (x := t25.2.1) s199_ rfl
                    have s201_ := St.unpair s200_
                    have s202_ := St.unro (r := (Ro.int .i64)) (cs := [.int .i64 t25.1]) (x := t25.1) s201_ rfl
                    have s203_ := St.unpair s202_
                    have s204_ : St f177_ (⟨Rep.obj 25 (Rep.prod (Rep.ro (Ro.int .i64)) (Rep.prod (Rep.ro (Ro.int .i64)) (Rep.ro (Ro.list exRo)))), [.pointer (some ⟨r3, 0, none⟩)], (t25.1, t25.2.1, d180_)⟩ :: ⟨Rep.raw 25, [.pointer (some ⟨r4, 0, none⟩)], [.int .i64 (d62_.1), .int .i64 (d62_.2.1), .slice t169_.1 t169_.2.1 t169_.2.2]⟩ :: ⟨Rep.raw 25, [.pointer (some ⟨r9, 0, none⟩)], [.int .i64 (1 : Int), .int .i64 (IntKind.wrap .i64 x66_), .slice none 0 0]⟩ :: F) _ := St.shut s203_.at1
                    have s205_ := St.unro (r := (Ro.list exRo)) (cs := [.slice t169_.1 t169_.2.1 t169_.2.2]) (x := d62_.2.2) s204_ ⟨t169_, rfl, (k171_.mono le179_)⟩
                    have s206_ := St.unro (r := (Ro.int .i64)) (cs := [.int .i64 (d62_.2.1)]) (x := (d62_.2.1)) s205_ rfl
                    have s207_ := St.unpair s206_
                    have s208_ := St.unro (r := (Ro.int .i64)) (cs := [.int .i64 (d62_.1)]) (x := (d62_.1)) s207_ rfl
                    have s209_ := St.unpair s208_
                    have s210_ : St f177_ (⟨Rep.obj 25 (Rep.prod (Rep.ro (Ro.int .i64)) (Rep.prod (Rep.ro (Ro.int .i64)) (Rep.ro (Ro.list exRo)))), [.pointer (some ⟨r4, 0, none⟩)], ((d62_.1), (d62_.2.1), d62_.2.2)⟩ :: ⟨Rep.obj 25 (Rep.prod (Rep.ro (Ro.int .i64)) (Rep.prod (Rep.ro (Ro.int .i64)) (Rep.ro (Ro.list exRo)))), [.pointer (some ⟨r3, 0, none⟩)], (t25.1, t25.2.1, d180_)⟩ :: ⟨Rep.raw 25, [.pointer (some ⟨r9, 0, none⟩)], [.int .i64 (1 : Int), .int .i64 (IntKind.wrap .i64 x66_), .slice none 0 0]⟩ :: F) _ := St.shut s209_.at2
                    have s211_ := s210_.at2
                    have s212_ := s211_.at2
                    obtain rfl := Option.some.inj hx118_
                    exact s_out ((IntKind.wrap .i64 ((5 : Int) + (IntKind.wrap .i64 (Int.tmod x189_ (5 : Int))))), ()) rfl ⟨f177_, (t25.1, t25.2.1, d180_), le179_, rfl, s212_⟩
                  · have s213_ := s112_.at2
                    have s214_ := s213_.at1
                    have s215_ := s214_.at2
                    obtain rfl := Option.some.inj hx118_
                    exact s_out (z6.2.1, ()) rfl ⟨f110_, d61_, (Sub.refl _), rfl, s215_⟩
                · rintro z18 h217_ ⟨f218_, d221_, le219_, rfl, s220_⟩
                  try dsimp only at hx114_
                  refine s_loadR (b := r9) (j := 0) (x := (1 : Int)) s220_.at1 rfl ?_
                  refine s_loadR (b := r9) (j := 1) (x := (IntKind.wrap .i64 x66_)) s220_.at1 rfl ?_
                  refine s_loadR (b := r9) (j := 2) (x := ((none, 0, 0) : Slc)) s220_.at1 rfl ?_
                  obtain ⟨b222_, vs223_, e224_, hl225_, s226_⟩ := s220_.at2.open
                  obtain rfl : r4 = b222_ := by simpa using e224_
                  clear e224_
                  have s227_ := s226_.at1
                  obtain ⟨v228_, w229_, rfl, hl231_, s230_⟩ := s227_.pair
                  obtain ⟨g232_, s233_⟩ := s230_.ro
                  subst g232_
                  obtain ⟨v235_, w236_, rfl, hl238_, s237_⟩ := s233_.pair
                  obtain ⟨g239_, s240_⟩ := s237_.ro
                  subst g239_
                  obtain ⟨g242_, s243_⟩ := s240_.ro
                  obtain ⟨t244_, e245_, k246_⟩ := g242_
                  subst e245_
                  have n247_ := k246_.length
                  have s248_ : St f218_ (⟨Rep.raw 25, [.pointer (some ⟨r4, 0, none⟩)], [.int .i64 (d62_.1), .int .i64 (d62_.2.1), .slice t244_.1 t244_.2.1 t244_.2.2]⟩ :: ⟨Rep.obj 25 (Rep.prod (Rep.ro (Ro.int .i64)) (Rep.prod (Rep.ro (Ro.int .i64)) (Rep.ro (Ro.list exRo)))), [.pointer (some ⟨r3, 0, none⟩)], d221_⟩ :: ⟨Rep.raw 25, [.pointer (some ⟨r9, 0, none⟩)], [.int .i64 (1 : Int), .int .i64 (IntKind.wrap .i64 x66_), .slice none 0 0]⟩ :: F) _ := s243_
                  refine s_put (b := r4) (j := 0) (v := .int .i64 (1 : Int)) s248_ rfl (show (0 : Nat) < 3 by decide) ?_
                  intro h250_ s249_
                  refine s_put (b := r4) (j := 1) (v := .int .i64 (IntKind.wrap .i64 x66_)) s249_ rfl (show (1 : Nat) < 3 by decide) ?_
                  intro h252_ s251_
                  refine s_put (b := r4) (j := 2) (v := .slice none 0 0) s251_ rfl (show (2 : Nat) < 3 by decide) ?_
                  intro h254_ s253_
                  have s255_ := St.unro (r := (Ro.list exRo)) (cs := [.slice ((none, 0, 0) : Slc).1 ((none, 0, 0) : Slc).2.1 ((none, 0, 0) : Slc).2.2]) (x := ([] : List Ex)) s253_ ⟨((none, 0, 0) : Slc), rfl, (Ro.SliceIs.nil exRo f218_)⟩
                  have s256_ := St.unro (r := (Ro.int .i64)) (cs := [.int .i64 (IntKind.wrap .i64 x66_)]) (x := (IntKind.wrap .i64 x66_)) s255_ rfl
                  have s257_ := St.unpair s256_
                  have s258_ := St.unro (r := (Ro.int .i64)) (cs := [.int .i64 (1 : Int)]) (x := (1 : Int)) s257_ rfl
                  have s259_ := St.unpair s258_
                  have s260_ : St f218_ (⟨Rep.obj 25 (Rep.prod (Rep.ro (Ro.int .i64)) (Rep.prod (Rep.ro (Ro.int .i64)) (Rep.ro (Ro.list exRo)))), [.pointer (some ⟨r4, 0, none⟩)], ((1 : Int), (IntKind.wrap .i64 x66_), ([] : List Ex))⟩ :: ⟨Rep.obj 25 (Rep.prod (Rep.ro (Ro.int .i64)) (Rep.prod (Rep.ro (Ro.int .i64)) (Rep.ro (Ro.list exRo)))), [.pointer (some ⟨r3, 0, none⟩)], d221_⟩ :: ⟨Rep.raw 25, [.pointer (some ⟨r9, 0, none⟩)], [.int .i64 (1 : Int), .int .i64 (IntKind.wrap .i64 x66_), .slice none 0 0]⟩ :: F) _ := St.shut s259_.at1
                  have s261_ := s260_.at2
                  have s262_ := s261_.at1
                  have s263_ := s262_.at2
                  obtain rfl := Option.some.inj hx114_
                  exact s_out (z18.1, ()) rfl ⟨f218_, d221_, ((1 : Int), (IntKind.wrap .i64 x66_), ([] : List Ex)), le219_, rfl, s263_⟩
              · obtain ⟨x264_, hx265_, hx114_⟩ := Option.bind_eq_some_iff.1 hx114_
                obtain ⟨a266_, cs267_, ea268_, hi269_, q270_, cl271_⟩ := (k3_.mono ((((le10_.trans le17_).trans le58_).trans le88_).trans le111_)).get hx265_
                refine t_deref _ ea268_ (t_chk hi269_ ?_)
                obtain rfl := q270_
                refine s_load (x := x264_) (cellS_heap (Sub.trans (Sub.refl _) s112_.sub) (cl271_ 0 _ rfl)) rfl ?_
                refine s_chk hx114_ id fun hp273_ hx114_ => ?_
                obtain ⟨b274_, vs275_, e276_, hl277_, s278_⟩ := s112_.at2.open
                obtain rfl : r4 = b274_ := by simpa using e276_
                clear e276_
                have s279_ := s278_.at1
                obtain ⟨v280_, w281_, rfl, hl283_, s282_⟩ := s279_.pair
                obtain ⟨g284_, s285_⟩ := s282_.ro
                subst g284_
                obtain ⟨v287_, w288_, rfl, hl290_, s289_⟩ := s285_.pair
                obtain ⟨g291_, s292_⟩ := s289_.ro
                subst g291_
                obtain ⟨g294_, s295_⟩ := s292_.ro
                obtain ⟨t296_, e297_, k298_⟩ := g294_
                subst e297_
                have n299_ := k298_.length
                have s300_ : St f110_ (⟨Rep.raw 25, [.pointer (some ⟨r4, 0, none⟩)], [.int .i64 (d62_.1), .int .i64 (d62_.2.1), .slice t296_.1 t296_.2.1 t296_.2.2]⟩ :: ⟨Rep.raw 25, [.pointer (some ⟨r9, 0, none⟩)], [.int .i64 (1 : Int), .int .i64 (IntKind.wrap .i64 x66_), .slice none 0 0]⟩ :: ⟨Rep.obj 25 (Rep.prod (Rep.ro (Ro.int .i64)) (Rep.prod (Rep.ro (Ro.int .i64)) (Rep.ro (Ro.list exRo)))), [.pointer (some ⟨r3, 0, none⟩)], d61_⟩ :: F) _ := s295_
                refine s_loadR (b := r4) (j := 0) (x := (d62_.1)) s300_ rfl ?_
                refine s_loadR (b := r4) (j := 1) (x := (d62_.2.1)) s300_ rfl ?_
                refine s_loadR (b := r4) (j := 2) (x := t296_) s300_ rfl ?_
                refine s_loadR (b := r9) (j := 0) (x := (1 : Int)) s300_.at1 rfl ?_
                refine s_loadR (b := r9) (j := 1) (x := (IntKind.wrap .i64 x66_)) s300_.at1 rfl ?_
                refine s_loadR (b := r9) (j := 2) (x := ((none, 0, 0) : Slc)) s300_.at1 rfl ?_
                refine s_new (vs := [.int .i64 (d62_.1), .int .i64 (d62_.2.1), .slice t296_.1 t296_.2.1 t296_.2.2, .int .i64 (1 : Int), .int .i64 (IntKind.wrap .i64 x66_), .slice none 0 0]) s300_ ?_
                intro r39 h302_ s301_
                refine t_still (cellS_heap (Sub.trans (Sub.refl _) s301_.sub) (cl271_ 0 _ rfl)) ?_
                refine s_put (b := r4) (j := 0) (v := .int .i64 (IntKind.wrap .i64 ((5 : Int) + (IntKind.wrap .i64 (Int.tmod x264_ (5 : Int)))))) s301_.at1 rfl (show (0 : Nat) < 3 by decide) ?_
                intro h304_ s303_
                refine s_put (b := r4) (j := 1) (v := .int .i64 (0 : Int)) s303_ rfl (show (1 : Nat) < 3 by decide) ?_
                intro h306_ s305_
                refine s_put (b := r4) (j := 2) (v := .slice (some ⟨r39, 0, none⟩) 2 2) s305_ rfl (show (2 : Nat) < 3 by decide) ?_
                intro h308_ s307_
                have s309_ := St.lit (r := exRo) (l := ([(Ex.mk (d62_.1) (d62_.2.1) d62_.2.2), (Ex.mk (1 : Int) (IntKind.wrap .i64 x66_) ([] : List Ex))] : List Ex)) (n := 2) s307_.at1 (.cons (a := [_, _, _]) (exRo_mk (φ := f110_) (cs := [_, _, _]) ⟨[_], _, rfl, rfl, ⟨[_], _, rfl, rfl, ⟨t296_, rfl, k298_⟩⟩⟩) (.cons (a := [_, _, _]) (exRo_mk (φ := f110_) (cs := [_, _, _]) ⟨[_], _, rfl, rfl, ⟨[_], _, rfl, rfl, ⟨((none, 0, 0) : Slc), rfl, Ro.SliceIs.nil _ _⟩⟩⟩) .nil)) rfl (by decide)
                obtain ⟨f310_, le311_, k312_, s313_⟩ := St.freezeRow (t := ((some ⟨r39, 0, none⟩, 2, 2) : Slc)) s309_
                have s314_ := St.unro (r := (Ro.list exRo)) (cs := [.slice ((some ⟨r39, 0, none⟩, 2, 2) : Slc).1 ((some ⟨r39, 0, none⟩, 2, 2) : Slc).2.1 ((some ⟨r39, 0, none⟩, 2, 2) : Slc).2.2]) (x := ([(Ex.mk (d62_.1) (d62_.2.1) d62_.2.2), (Ex.mk (1 : Int) (IntKind.wrap .i64 x66_) ([] : List Ex))] : List Ex)) s313_ ⟨((some ⟨r39, 0, none⟩, 2, 2) : Slc), rfl, k312_⟩
                have s315_ := St.unro (r := (Ro.int .i64)) (cs := [.int .i64 (0 : Int)]) (x := (0 : Int)) s314_ rfl
                have s316_ := St.unpair s315_
                have s317_ := St.unro (r := (Ro.int .i64)) (cs := [.int .i64 (IntKind.wrap .i64 ((5 : Int) + (IntKind.wrap .i64 (Int.tmod x264_ (5 : Int)))))]) (x := (IntKind.wrap .i64 ((5 : Int) + (IntKind.wrap .i64 (Int.tmod x264_ (5 : Int)))))) s316_ rfl
                have s318_ := St.unpair s317_
                have s319_ : St f310_ (⟨Rep.obj 25 (Rep.prod (Rep.ro (Ro.int .i64)) (Rep.prod (Rep.ro (Ro.int .i64)) (Rep.ro (Ro.list exRo)))), [.pointer (some ⟨r4, 0, none⟩)], ((IntKind.wrap .i64 ((5 : Int) + (IntKind.wrap .i64 (Int.tmod x264_ (5 : Int))))), (0 : Int), ([(Ex.mk (d62_.1) (d62_.2.1) d62_.2.2), (Ex.mk (1 : Int) (IntKind.wrap .i64 x66_) ([] : List Ex))] : List Ex))⟩ :: ⟨Rep.raw 25, [.pointer (some ⟨r9, 0, none⟩)], [.int .i64 (1 : Int), .int .i64 (IntKind.wrap .i64 x66_), .slice none 0 0]⟩ :: ⟨Rep.obj 25 (Rep.prod (Rep.ro (Ro.int .i64)) (Rep.prod (Rep.ro (Ro.int .i64)) (Rep.ro (Ro.list exRo)))), [.pointer (some ⟨r3, 0, none⟩)], d61_⟩ :: F) _ := St.shut s318_.at1
                have s320_ := s319_.at1
                have s321_ := s320_.at1
                have s322_ := s321_.at2
                obtain rfl := Option.some.inj hx114_
                exact s_out (z6.2.1, ()) rfl ⟨f310_, d61_, ((IntKind.wrap .i64 ((5 : Int) + (IntKind.wrap .i64 (Int.tmod x264_ (5 : Int))))), (0 : Int), ([(Ex.mk (d62_.1) (d62_.2.1) d62_.2.2), (Ex.mk (1 : Int) (IntKind.wrap .i64 x66_) ([] : List Ex))] : List Ex)), le311_, rfl, s322_⟩
            · rintro z17 h324_ ⟨f325_, d328_, d329_, le326_, rfl, s327_⟩
              try dsimp only at he55_
              obtain ⟨g330_, hx331_, he55_⟩ := Option.bind_eq_some_iff.1 he55_
              refine s_join (fun (y : ByteArray × Unit) w_ g => ∃ ψ : Snap, Sub f325_ ψ ∧ y.1 = g ∧ St ψ (⟨Rep.obj 25 (Rep.prod (Rep.ro (Ro.int .i64)) (Rep.prod (Rep.ro (Ro.int .i64)) (Rep.ro (Ro.list exRo)))), [.pointer (some ⟨r3, 0, none⟩)], d328_⟩ :: ⟨Rep.obj 25 (Rep.prod (Rep.ro (Ro.int .i64)) (Rep.prod (Rep.ro (Ro.int .i64)) (Rep.ro (Ro.list exRo)))), [.pointer (some ⟨r4, 0, none⟩)], d329_⟩ :: ⟨Rep.raw 25, [.pointer (some ⟨r9, 0, none⟩)], [.int .i64 (1 : Int), .int .i64 (IntKind.wrap .i64 x66_), .slice none 0 0]⟩ :: F) w_) (g := g330_) ?_ ?_
              · refine s_cond hx331_ (by rw [n2_] <;> rfl) (fun hb360_ hx331_ => ?_) (fun hb360_ hx331_ => ?_)
                · obtain ⟨x332_, hx333_, hx331_⟩ := Option.bind_eq_some_iff.1 hx331_
                  obtain ⟨a334_, cs335_, ea336_, hi337_, q338_, cl339_⟩ := (k3_.mono (((((le10_.trans le17_).trans le58_).trans le88_).trans le111_).trans le326_)).get hx333_
                  refine t_deref _ ea336_ (t_chk hi337_ ?_)
                  obtain rfl := q338_
                  refine s_load (x := x332_) (cellS_heap (Sub.trans (Sub.refl _) s327_.sub) (cl339_ 0 _ rfl)) rfl ?_
                  refine s_chk hx331_ id fun hp341_ hx331_ => ?_
                  obtain ⟨x342_, hx343_, hx331_⟩ := Option.bind_eq_some_iff.1 hx331_
                  obtain ⟨a344_, cs345_, ea346_, hi347_, q348_, cl349_⟩ := (k3_.mono (((((le10_.trans le17_).trans le58_).trans le88_).trans le111_).trans le326_)).get hx343_
                  refine t_deref _ ea346_ (t_chk hi347_ ?_)
                  obtain rfl := q348_
                  refine s_load (x := x342_) (cellS_heap (Sub.trans (Sub.refl _) s327_.sub) (cl349_ 0 _ rfl)) rfl ?_
                  refine s_chk hx331_ id fun hp351_ hx331_ => ?_
                  refine s_chk hx331_ id fun hp352_ hx331_ => ?_
                  refine s_chk hx331_ id fun hp353_ hx331_ => ?_
                  have s354_ := s327_.at2
                  have s355_ := s354_.at2
                  have s356_ := s355_.at2
                  obtain rfl := Option.some.inj hx331_
                  exact s_out (((z6.2.2.1 ++ t13) ++ (ByteArray.extract { data := #[43, 45, 42, 47, 37] } (Int.toNat (Int.tmod x332_ (5 : Int))) (Int.toNat (IntKind.wrap .u8 ((Int.tmod x342_ (5 : Int)) + (1 : Int)))))), ()) rfl ⟨f325_, (Sub.refl _), rfl, s356_⟩
                · have s357_ := s327_.at2
                  have s358_ := s357_.at2
                  have s359_ := s358_.at2
                  obtain rfl := Option.some.inj hx331_
                  exact s_out ((z6.2.2.1 ++ t13), ()) rfl ⟨f325_, (Sub.refl _), rfl, s359_⟩
              · rintro z40 h361_ ⟨f362_, le363_, rfl, s364_⟩
                try dsimp only at he55_
                have s365_ := s364_.at2.tail
                have s366_ := s365_.at1
                have s367_ := s366_.at1
                obtain rfl := Option.some.inj he55_
                exact s_next ((IntKind.wrap .i64 (z6.1 + (1 : Int))), z17.1, z40.1, ()) _ rfl rfl ⟨f362_, d328_, d329_, ((((le58_.trans le88_).trans le111_).trans le326_).trans le363_), hw63_, rfl, s367_⟩
        · rintro _ z6 h371_ ⟨f368_, d372_, d373_, le369_, rfl, rfl, s370_⟩ hge374_
          refine t_false (by rw [n2_]; exact decide_eq_false (Int.not_lt.2 hge374_)) ?_
          have s376_ := s370_.at1
          have s377_ := s376_.at1
          exact around_brk (meetB_brk (z6.1, z6.2.1, z6.2.2.1, ()) rfl ⟨f368_, d372_, d373_, le369_, rfl, s377_⟩)
      · rintro z5 h378_ ⟨f379_, d382_, d383_, le380_, rfl, s381_⟩
        try dsimp only at hd
        obtain ⟨r385_, hr386_, hd⟩ := Option.bind_eq_some_iff.1 hd
        refine s_call (expr_Read_sim fuel  s381_ hr386_) ?_
        rintro _ h387_ ⟨f388_, t45, d391_, le390_, rfl, rfl, k393_, s389_⟩
        refine ⟨t45, rfl, ?_⟩
        try dsimp only at hd
        have n392_ := k393_.length
        refine s_new (vs := [.int .i64 (0 : Int), .int .i64 (0 : Int), .slice none 0 0]) s389_ ?_
        intro r46 h395_ s394_
        refine s_put (b := r46) (j := 0) (v := .int .i64 t45.1.1) s394_ rfl (show (0 : Nat) < 3 by decide) ?_
        intro h397_ s396_
        refine s_put (b := r46) (j := 1) (v := .int .i64 t45.1.2.1) s396_ rfl (show (1 : Nat) < 3 by decide) ?_
        intro h399_ s398_
        refine s_put (b := r46) (j := 2) (v := .slice t45.1.2.2.1.1 t45.1.2.2.1.2.1 t45.1.2.2.1.2.2) s398_ rfl (show (2 : Nat) < 3 by decide) ?_
        intro h401_ s400_
        obtain ⟨g402_, hx403_, hd⟩ := Option.bind_eq_some_iff.1 hd
        refine s_join (fun (y : Bool × Unit) w_ g => ∃ ψ : Snap, Sub f388_ ψ ∧ y.1 = g ∧ St ψ (⟨Rep.raw 25, [.pointer (some ⟨r46, 0, none⟩)], [.int .i64 t45.1.1, .int .i64 t45.1.2.1, .slice t45.1.2.2.1.1 t45.1.2.2.1.2.1 t45.1.2.2.1.2.2]⟩ :: ⟨Rep.obj 25 (Rep.prod (Rep.ro (Ro.int .i64)) (Rep.prod (Rep.ro (Ro.int .i64)) (Rep.ro (Ro.list exRo)))), [.pointer (some ⟨r3, 0, none⟩)], d382_⟩ :: ⟨Rep.obj 25 (Rep.prod (Rep.ro (Ro.int .i64)) (Rep.prod (Rep.ro (Ro.int .i64)) (Rep.ro (Ro.list exRo)))), [.pointer (some ⟨r4, 0, none⟩)], d383_⟩ :: F) w_) (g := g402_) ?_ ?_
        · refine s_cond hx403_ rfl (fun hb494_ hx403_ => ?_) (fun hb494_ hx403_ => ?_)
          · refine s_cond hx403_ rfl (fun hb490_ hx403_ => ?_) (fun hb490_ hx403_ => ?_)
            · refine s_loadR (b := r46) (j := 0) (x := t45.1.1) s400_ rfl ?_
              refine s_loadR (b := r46) (j := 1) (x := t45.1.2.1) s400_ rfl ?_
              refine s_loadR (b := r46) (j := 2) (x := t45.1.2.2.1) s400_ rfl ?_
              obtain ⟨b404_, vs405_, e406_, hl407_, s408_⟩ := s400_.at1.open
              obtain rfl : r3 = b404_ := by simpa using e406_
              clear e406_
              have s409_ := s408_.at1
              obtain ⟨v410_, w411_, rfl, hl413_, s412_⟩ := s409_.pair
              obtain ⟨g414_, s415_⟩ := s412_.ro
              subst g414_
              obtain ⟨v417_, w418_, rfl, hl420_, s419_⟩ := s415_.pair
              obtain ⟨g421_, s422_⟩ := s419_.ro
              subst g421_
              obtain ⟨g424_, s425_⟩ := s422_.ro
              obtain ⟨t426_, e427_, k428_⟩ := g424_
              subst e427_
              have n429_ := k428_.length
              have s430_ : St f388_ (⟨Rep.raw 25, [.pointer (some ⟨r3, 0, none⟩)], [.int .i64 (d382_.1), .int .i64 (d382_.2.1), .slice t426_.1 t426_.2.1 t426_.2.2]⟩ :: ⟨Rep.raw 25, [.pointer (some ⟨r46, 0, none⟩)], [.int .i64 t45.1.1, .int .i64 t45.1.2.1, .slice t45.1.2.2.1.1 t45.1.2.2.1.2.1 t45.1.2.2.1.2.2]⟩ :: ⟨Rep.obj 25 (Rep.prod (Rep.ro (Ro.int .i64)) (Rep.prod (Rep.ro (Ro.int .i64)) (Rep.ro (Ro.list exRo)))), [.pointer (some ⟨r4, 0, none⟩)], d383_⟩ :: F) _ := s425_
              refine s_loadR (b := r3) (j := 0) (x := (d382_.1)) s430_ rfl ?_
              refine s_loadR (b := r3) (j := 1) (x := (d382_.2.1)) s430_ rfl ?_
              refine s_loadR (b := r3) (j := 2) (x := t426_) s430_ rfl ?_
              obtain ⟨b431_, vs432_, e433_, hl434_, s435_⟩ := s430_.at2.open
              obtain rfl : r4 = b431_ := by simpa using e433_
              clear e433_
              have s436_ := s435_.at1
              obtain ⟨v437_, w438_, rfl, hl440_, s439_⟩ := s436_.pair
              obtain ⟨g441_, s442_⟩ := s439_.ro
              subst g441_
              obtain ⟨v444_, w445_, rfl, hl447_, s446_⟩ := s442_.pair
              obtain ⟨g448_, s449_⟩ := s446_.ro
              subst g448_
              obtain ⟨g451_, s452_⟩ := s449_.ro
              obtain ⟨t453_, e454_, k455_⟩ := g451_
              subst e454_
              have n456_ := k455_.length
              have s457_ : St f388_ (⟨Rep.raw 25, [.pointer (some ⟨r4, 0, none⟩)], [.int .i64 (d383_.1), .int .i64 (d383_.2.1), .slice t453_.1 t453_.2.1 t453_.2.2]⟩ :: ⟨Rep.raw 25, [.pointer (some ⟨r3, 0, none⟩)], [.int .i64 (d382_.1), .int .i64 (d382_.2.1), .slice t426_.1 t426_.2.1 t426_.2.2]⟩ :: ⟨Rep.raw 25, [.pointer (some ⟨r46, 0, none⟩)], [.int .i64 t45.1.1, .int .i64 t45.1.2.1, .slice t45.1.2.2.1.1 t45.1.2.2.1.2.1 t45.1.2.2.1.2.2]⟩ :: F) _ := s452_
              refine s_loadR (b := r4) (j := 0) (x := (d383_.1)) s457_ rfl ?_
              refine s_loadR (b := r4) (j := 1) (x := (d383_.2.1)) s457_ rfl ?_
              refine s_loadR (b := r4) (j := 2) (x := t453_) s457_ rfl ?_
              obtain ⟨r458_, hr459_, hx403_⟩ := Option.bind_eq_some_iff.1 hx403_
              refine s_call (tronagelaw20_join_sim (sum_0 := ((d382_.1), (d382_.2.1), t426_, ())) (product_2 := ((d383_.1), (d383_.2.1), t453_, ())) k428_ k455_ s457_ hr459_) ?_
              rintro _ h460_ ⟨f461_, t57, d464_, le463_, rfl, rfl, k466_, s462_⟩
              refine ⟨t57, rfl, ?_⟩
              try dsimp only at hx403_
              have n465_ := k466_.length
              refine t_still (St.cell (b := r46) (j := 0) s462_.at2 rfl) ?_
              refine t_still (St.cell (b := r46) (j := 1) s462_.at2 rfl) ?_
              refine t_still (St.cell (b := r46) (j := 2) s462_.at2 rfl) ?_
              obtain ⟨r467_, hr468_, hx403_⟩ := Option.bind_eq_some_iff.1 hx403_
              refine s_call (tronageref20_Same_sim fuel (a_0 := (t45.1.1, t45.1.2.1, t45.1.2.2.1, ())) (b_1 := (t57.1, t57.2.1, t57.2.2.1, ())) (k393_.mono le463_) k466_ s462_ hr468_) ?_
              rintro _ h469_ ⟨f470_, t58, le472_, rfl, rfl, s471_⟩
              refine ⟨t58, rfl, ?_⟩
              have s473_ := St.unro (r := (Ro.list exRo)) (cs := [.slice t426_.1 t426_.2.1 t426_.2.2]) (x := d382_.2.2) s471_ ⟨t426_, rfl, (k428_.mono (le463_.trans le472_))⟩
              have s474_ := St.unro (r := (Ro.int .i64)) (cs := [.int .i64 (d382_.2.1)]) (x := (d382_.2.1)) s473_ rfl
              have s475_ := St.unpair s474_
              have s476_ := St.unro (r := (Ro.int .i64)) (cs := [.int .i64 (d382_.1)]) (x := (d382_.1)) s475_ rfl
              have s477_ := St.unpair s476_
              have s478_ : St f470_ (⟨Rep.obj 25 (Rep.prod (Rep.ro (Ro.int .i64)) (Rep.prod (Rep.ro (Ro.int .i64)) (Rep.ro (Ro.list exRo)))), [.pointer (some ⟨r3, 0, none⟩)], ((d382_.1), (d382_.2.1), d382_.2.2)⟩ :: ⟨Rep.raw 25, [.pointer (some ⟨r4, 0, none⟩)], [.int .i64 (d383_.1), .int .i64 (d383_.2.1), .slice t453_.1 t453_.2.1 t453_.2.2]⟩ :: ⟨Rep.raw 25, [.pointer (some ⟨r46, 0, none⟩)], [.int .i64 t45.1.1, .int .i64 t45.1.2.1, .slice t45.1.2.2.1.1 t45.1.2.2.1.2.1 t45.1.2.2.1.2.2]⟩ :: F) _ := St.shut s477_.at2
              have s479_ := St.unro (r := (Ro.list exRo)) (cs := [.slice t453_.1 t453_.2.1 t453_.2.2]) (x := d383_.2.2) s478_ ⟨t453_, rfl, (k455_.mono (le463_.trans le472_))⟩
              have s480_ := St.unro (r := (Ro.int .i64)) (cs := [.int .i64 (d383_.2.1)]) (x := (d383_.2.1)) s479_ rfl
              have s481_ := St.unpair s480_
              have s482_ := St.unro (r := (Ro.int .i64)) (cs := [.int .i64 (d383_.1)]) (x := (d383_.1)) s481_ rfl
              have s483_ := St.unpair s482_
              have s484_ : St f470_ (⟨Rep.obj 25 (Rep.prod (Rep.ro (Ro.int .i64)) (Rep.prod (Rep.ro (Ro.int .i64)) (Rep.ro (Ro.list exRo)))), [.pointer (some ⟨r4, 0, none⟩)], ((d383_.1), (d383_.2.1), d383_.2.2)⟩ :: ⟨Rep.obj 25 (Rep.prod (Rep.ro (Ro.int .i64)) (Rep.prod (Rep.ro (Ro.int .i64)) (Rep.ro (Ro.list exRo)))), [.pointer (some ⟨r3, 0, none⟩)], ((d382_.1), (d382_.2.1), d382_.2.2)⟩ :: ⟨Rep.raw 25, [.pointer (some ⟨r46, 0, none⟩)], [.int .i64 t45.1.1, .int .i64 t45.1.2.1, .slice t45.1.2.2.1.1 t45.1.2.2.1.2.1 t45.1.2.2.1.2.2]⟩ :: F) _ := St.shut s483_.at2
              have s485_ := s484_.at1
              have s486_ := s485_.at2
              obtain rfl := Option.some.inj hx403_
              exact s_out (t58, ()) rfl ⟨f470_, (le463_.trans le472_), rfl, s486_⟩
            · have s487_ := s400_.at2
              have s488_ := s487_.at2
              have s489_ := s488_.at2
              obtain rfl := Option.some.inj hx403_
              exact s_out (false, ()) rfl ⟨f388_, (Sub.refl _), rfl, s489_⟩
          · have s491_ := s400_.at2
            have s492_ := s491_.at2
            have s493_ := s492_.at2
            obtain rfl := Option.some.inj hx403_
            exact s_out (false, ()) rfl ⟨f388_, (Sub.refl _), rfl, s493_⟩
        · rintro z47 h495_ ⟨f496_, le497_, rfl, s498_⟩
          try dsimp only at hd
          obtain rfl := Option.some.inj hd
          have s499_ := s498_.tail
          have s500_ := s499_.tail
          have s501_ := s500_.tail
          exact finOf_back ⟨f496_, z47.1, ((((le10_.trans le17_).trans le380_).trans le390_).trans le497_), rfl, rfl, s501_⟩

noncomputable def tronagelaw20_ExprDeep_D (fuel : Nat) (n_0 : Int) (which_1 : Bool) : Option Bool :=
  (tronagelaw20_awake_D fuel).bind fun t1 =>
  need ((61 : Int) ≠ 0) <|
  (forS (σ := (ByteArray × ByteArray)) (0 : Int) (IntKind.wrap .i64 (Int.tmod n_0 (61 : Int))) ({ data := #[] }, { data := #[] }) fun i_z3 z3 =>
    (cond which_1
    (need (((ByteArray.size z3.2 + ByteArray.size { data := #[45] } : Nat) : Int) ≤ IntKind.max .i64) <|
      some (z3.1, (z3.2 ++ { data := #[45] })))
    (need (((ByteArray.size z3.2 + ByteArray.size { data := #[40] } : Nat) : Int) ≤ IntKind.max .i64) <|
      need (((ByteArray.size z3.1 + ByteArray.size { data := #[41] } : Nat) : Int) ≤ IntKind.max .i64) <|
      some ((z3.1 ++ { data := #[41] }), (z3.2 ++ { data := #[40] })))).bind fun z4 =>
    some (z4.1, z4.2)).bind fun z2 =>
  need (((ByteArray.size z2.2 + ByteArray.size { data := #[55] } : Nat) : Int) ≤ IntKind.max .i64) <|
  need (((ByteArray.size (z2.2 ++ { data := #[55] }) + ByteArray.size z2.1 : Nat) : Int) ≤ IntKind.max .i64) <|
  (expr_Read_D fuel ((z2.2 ++ { data := #[55] }) ++ z2.1)).bind fun t5 =>
  cond (decide ((IntKind.wrap .i64 (Int.tmod n_0 (61 : Int))) ≥ (20 : Int)))
  ((cond t1
    (cond (t5.2.2.2.1 == (13 : Int))
      (some (t5.2.2.2.2 == (20 : Int)))
      (some false))
    (some false)).bind fun z7 =>
    some z7)
  (cond which_1
    ((cond t1
      (cond (t5.2.2.2.1 == (0 : Int))
        ((expr_Size_D fuel (Ex.mk t5.1 t5.2.1 t5.2.2.1)).bind fun t12 =>
          some (t12 == (IntKind.wrap .i64 ((IntKind.wrap .i64 (Int.tmod n_0 (61 : Int))) + (1 : Int)))))
        (some false))
      (some false)).bind fun z8 =>
      some z8)
    ((cond t1
      (cond (t5.2.2.2.1 == (0 : Int))
        ((tronageref20_Same_D fuel (Ex.mk t5.1 t5.2.1 t5.2.2.1) (Ex.mk (1 : Int) (7 : Int) ([] : List Ex))).bind fun t17 =>
          some t17)
        (some false))
      (some false)).bind fun z13 =>
      some z13))
theorem tronagelaw20_ExprDeep_sim (fuel : Nat) {φ : Snap} {h : Heap} {F : List Chk} {n_0 : Int} {which_1 : Bool} (gk : Glob φ)  (s0 : St φ (F) h) {r : Bool} (hd : tronagelaw20_ExprDeep_D fuel n_0 which_1 = some r) :
    CallsH Tryd.prog 6 [(.int .u8 n_0), (.bool which_1)] h (Back fun v h' => ∃ ψ : Snap, ∃ y : Bool, Sub φ ψ ∧ v = ((.one (.atom .bool)) : Sh).val y ∧ y = r ∧ St ψ (F) h') := by
  refine calls_of mixed Tryd.func6 ?_
  rw [tronagelaw20_ExprDeep_den]
  unfold tronagelaw20_ExprDeep_T
  unfold tronagelaw20_ExprDeep_D at hd
  try dsimp only [Ex.kind_mk, Ex.n_mk, Ex.kids_mk] at hd
  obtain ⟨r1_, hr2_, hd⟩ := Option.bind_eq_some_iff.1 hd
  refine s_call (tronagelaw20_awake_sim fuel gk  s0 hr2_) ?_
  rintro _ h3_ ⟨f4_, t1, le6_, rfl, rfl, s5_⟩
  refine ⟨t1, rfl, ?_⟩
  refine s_chk hd id fun hp7_ hd => ?_
  obtain ⟨g8_, hx9_, hd⟩ := Option.bind_eq_some_iff.1 hd
  refine s_block (fun (y : Int × ByteArray × ByteArray × Unit) w_ g => ∃ ψ : Snap, Sub f4_ ψ ∧ (y.2.1, y.2.2.1) = g ∧ St ψ (F) w_) (g := g8_) ?_ ?_
  · refine s_forS hx9_ (fun i10_ (y : Int × ByteArray × ByteArray × Unit) w_ g => ∃ ψ : Snap, Sub f4_ ψ ∧ y.1 = i10_ ∧ (y.2.1, y.2.2.1) = g ∧ St ψ (F) w_) ((0 : Int), { data := #[] }, { data := #[] }, ()) rfl ⟨f4_, (Sub.refl _), rfl, rfl, s5_⟩ ?_ ?_
    · rintro _ z3 h16_ _ _ ⟨f13_, le14_, rfl, rfl, s15_⟩ he11_ h118_ h219_ hw17_
      try dsimp only at he11_ h118_ h219_ hw17_
      refine t_true (by exact decide_eq_true h219_) ?_
      obtain ⟨g20_, hx21_, he11_⟩ := Option.bind_eq_some_iff.1 he11_
      refine s_join (fun (y : ByteArray × ByteArray × Unit) w_ g => ∃ ψ : Snap, Sub f13_ ψ ∧ (y.1, y.2.1) = g ∧ St ψ (F) w_) (g := g20_) ?_ ?_
      · refine s_cond hx21_ rfl (fun hb25_ hx21_ => ?_) (fun hb25_ hx21_ => ?_)
        · refine s_chk hx21_ id fun hp22_ hx21_ => ?_
          obtain rfl := Option.some.inj hx21_
          exact s_out (z3.2.1, (z3.2.2.1 ++ { data := #[45] }), ()) rfl ⟨f13_, (Sub.refl _), rfl, s15_⟩
        · refine s_chk hx21_ id fun hp23_ hx21_ => ?_
          refine s_chk hx21_ id fun hp24_ hx21_ => ?_
          obtain rfl := Option.some.inj hx21_
          exact s_out ((z3.2.1 ++ { data := #[41] }), (z3.2.2.1 ++ { data := #[40] }), ()) rfl ⟨f13_, (Sub.refl _), rfl, s15_⟩
      · rintro z4 h26_ ⟨f27_, le28_, rfl, s29_⟩
        try dsimp only at he11_
        obtain rfl := Option.some.inj he11_
        exact s_next ((IntKind.wrap .i64 (z3.1 + (1 : Int))), z4.1, z4.2.1, ()) _ rfl rfl ⟨f27_, (le14_.trans le28_), hw17_, rfl, s29_⟩
    · rintro _ z3 h33_ ⟨f30_, le31_, rfl, rfl, s32_⟩ hge34_
      refine t_false (by exact decide_eq_false (Int.not_lt.2 hge34_)) ?_
      exact around_brk (meetB_brk (z3.1, z3.2.1, z3.2.2.1, ()) rfl ⟨f30_, le31_, rfl, s32_⟩)
  · rintro z2 h36_ ⟨f37_, le38_, rfl, s39_⟩
    try dsimp only at hd
    refine s_chk hd id fun hp41_ hd => ?_
    refine s_chk hd id fun hp42_ hd => ?_
    obtain ⟨r43_, hr44_, hd⟩ := Option.bind_eq_some_iff.1 hd
    refine s_call (expr_Read_sim fuel  s39_ hr44_) ?_
    rintro _ h45_ ⟨f46_, t5, d49_, le48_, rfl, rfl, k51_, s47_⟩
    refine ⟨t5, rfl, ?_⟩
    try dsimp only at hd
    have n50_ := k51_.length
    refine s_new (vs := [.int .i64 (0 : Int), .int .i64 (0 : Int), .slice none 0 0]) s47_ ?_
    intro r6 h53_ s52_
    refine s_put (b := r6) (j := 0) (v := .int .i64 t5.1.1) s52_ rfl (show (0 : Nat) < 3 by decide) ?_
    intro h55_ s54_
    refine s_put (b := r6) (j := 1) (v := .int .i64 t5.1.2.1) s54_ rfl (show (1 : Nat) < 3 by decide) ?_
    intro h57_ s56_
    refine s_put (b := r6) (j := 2) (v := .slice t5.1.2.2.1.1 t5.1.2.2.1.2.1 t5.1.2.2.1.2.2) s56_ rfl (show (2 : Nat) < 3 by decide) ?_
    intro h59_ s58_
    refine s_cond hd rfl (fun hb100_ hd => ?_) (fun hb100_ hd => ?_)
    · obtain ⟨g60_, hx61_, hd⟩ := Option.bind_eq_some_iff.1 hd
      refine s_join (fun (y : Bool × Unit) w_ g => ∃ ψ : Snap, Sub f46_ ψ ∧ y.1 = g ∧ St ψ (⟨Rep.raw 25, [.pointer (some ⟨r6, 0, none⟩)], [.int .i64 t5.1.1, .int .i64 t5.1.2.1, .slice t5.1.2.2.1.1 t5.1.2.2.1.2.1 t5.1.2.2.1.2.2]⟩ :: F) w_) (g := g60_) ?_ ?_
      · refine s_cond hx61_ rfl (fun hb63_ hx61_ => ?_) (fun hb63_ hx61_ => ?_)
        · refine s_cond hx61_ rfl (fun hb62_ hx61_ => ?_) (fun hb62_ hx61_ => ?_)
          · obtain rfl := Option.some.inj hx61_
            exact s_out ((t5.2.2.1 == (20 : Int)), ()) rfl ⟨f46_, (Sub.refl _), rfl, s58_⟩
          · obtain rfl := Option.some.inj hx61_
            exact s_out (false, ()) rfl ⟨f46_, (Sub.refl _), rfl, s58_⟩
        · obtain rfl := Option.some.inj hx61_
          exact s_out (false, ()) rfl ⟨f46_, (Sub.refl _), rfl, s58_⟩
      · rintro z7 h64_ ⟨f65_, le66_, rfl, s67_⟩
        try dsimp only at hd
        obtain rfl := Option.some.inj hd
        have s68_ := s67_.tail
        exact finOf_back ⟨f65_, z7.1, (((le6_.trans le38_).trans le48_).trans le66_), rfl, rfl, s68_⟩
    · refine s_cond hd rfl (fun hb99_ hd => ?_) (fun hb99_ hd => ?_)
      · obtain ⟨g69_, hx70_, hd⟩ := Option.bind_eq_some_iff.1 hd
        refine s_join (fun (y : Bool × Unit) w_ g => ∃ ψ : Snap, Sub f46_ ψ ∧ y.1 = g ∧ St ψ (⟨Rep.raw 25, [.pointer (some ⟨r6, 0, none⟩)], [.int .i64 t5.1.1, .int .i64 t5.1.2.1, .slice t5.1.2.2.1.1 t5.1.2.2.1.2.1 t5.1.2.2.1.2.2]⟩ :: F) w_) (g := g69_) ?_ ?_
        · refine s_cond hx70_ rfl (fun hb78_ hx70_ => ?_) (fun hb78_ hx70_ => ?_)
          · refine s_cond hx70_ rfl (fun hb77_ hx70_ => ?_) (fun hb77_ hx70_ => ?_)
            · refine s_loadR (b := r6) (j := 0) (x := t5.1.1) s58_ rfl ?_
              refine s_loadR (b := r6) (j := 1) (x := t5.1.2.1) s58_ rfl ?_
              refine s_loadR (b := r6) (j := 2) (x := t5.1.2.2.1) s58_ rfl ?_
              obtain ⟨r71_, hr72_, hx70_⟩ := Option.bind_eq_some_iff.1 hx70_
              refine s_call (expr_Size_sim fuel (x_0 := (t5.1.1, t5.1.2.1, t5.1.2.2.1, ())) k51_ s58_ hr72_) ?_
              rintro _ h73_ ⟨f74_, t12, le76_, rfl, rfl, s75_⟩
              refine ⟨t12, rfl, ?_⟩
              obtain rfl := Option.some.inj hx70_
              exact s_out ((t12 == (IntKind.wrap .i64 ((IntKind.wrap .i64 (Int.tmod n_0 (61 : Int))) + (1 : Int)))), ()) rfl ⟨f74_, le76_, rfl, s75_⟩
            · obtain rfl := Option.some.inj hx70_
              exact s_out (false, ()) rfl ⟨f46_, (Sub.refl _), rfl, s58_⟩
          · obtain rfl := Option.some.inj hx70_
            exact s_out (false, ()) rfl ⟨f46_, (Sub.refl _), rfl, s58_⟩
        · rintro z8 h79_ ⟨f80_, le81_, rfl, s82_⟩
          try dsimp only at hd
          obtain rfl := Option.some.inj hd
          have s83_ := s82_.tail
          exact finOf_back ⟨f80_, z8.1, (((le6_.trans le38_).trans le48_).trans le81_), rfl, rfl, s83_⟩
      · obtain ⟨g84_, hx85_, hd⟩ := Option.bind_eq_some_iff.1 hd
        refine s_join (fun (y : Bool × Unit) w_ g => ∃ ψ : Snap, Sub f46_ ψ ∧ y.1 = g ∧ St ψ (⟨Rep.raw 25, [.pointer (some ⟨r6, 0, none⟩)], [.int .i64 t5.1.1, .int .i64 t5.1.2.1, .slice t5.1.2.2.1.1 t5.1.2.2.1.2.1 t5.1.2.2.1.2.2]⟩ :: F) w_) (g := g84_) ?_ ?_
        · refine s_cond hx85_ rfl (fun hb93_ hx85_ => ?_) (fun hb93_ hx85_ => ?_)
          · refine s_cond hx85_ rfl (fun hb92_ hx85_ => ?_) (fun hb92_ hx85_ => ?_)
            · refine s_loadR (b := r6) (j := 0) (x := t5.1.1) s58_ rfl ?_
              refine s_loadR (b := r6) (j := 1) (x := t5.1.2.1) s58_ rfl ?_
              refine s_loadR (b := r6) (j := 2) (x := t5.1.2.2.1) s58_ rfl ?_
              obtain ⟨r86_, hr87_, hx85_⟩ := Option.bind_eq_some_iff.1 hx85_
              refine s_call (tronageref20_Same_sim fuel (a_0 := (t5.1.1, t5.1.2.1, t5.1.2.2.1, ())) (b_1 := ((1 : Int), (7 : Int), ((none, 0, 0) : Slc), ())) k51_ (Ro.SliceIs.nil exRo f46_) s58_ hr87_) ?_
              rintro _ h88_ ⟨f89_, t17, le91_, rfl, rfl, s90_⟩
              refine ⟨t17, rfl, ?_⟩
              obtain rfl := Option.some.inj hx85_
              exact s_out (t17, ()) rfl ⟨f89_, le91_, rfl, s90_⟩
            · obtain rfl := Option.some.inj hx85_
              exact s_out (false, ()) rfl ⟨f46_, (Sub.refl _), rfl, s58_⟩
          · obtain rfl := Option.some.inj hx85_
            exact s_out (false, ()) rfl ⟨f46_, (Sub.refl _), rfl, s58_⟩
        · rintro z13 h94_ ⟨f95_, le96_, rfl, s97_⟩
          try dsimp only at hd
          obtain rfl := Option.some.inj hd
          have s98_ := s97_.tail
          exact finOf_back ⟨f95_, z13.1, (((le6_.trans le38_).trans le48_).trans le96_), rfl, rfl, s98_⟩

noncomputable def tronagelaw20_ExprTells_D (fuel : Nat) (x_0 : Ex) : Option Bool :=
  (tronagelaw20_awake_D fuel).bind fun t2 =>
  (tronageref20_Few_D fuel (Ex.mk x_0.kind x_0.n x_0.kids) (60 : Int) (30 : Int)).bind fun t6 =>
  cond (decide (t6 < (0 : Int)))
  (some t2)
  ((tronageref20_Right_D fuel (Ex.mk x_0.kind x_0.n x_0.kids)).bind fun t10 =>
    (expr_Show_D fuel (Ex.mk x_0.kind x_0.n x_0.kids)).bind fun t14 =>
    (cond t2
    ((expr_Right_D fuel (Ex.mk x_0.kind x_0.n x_0.kids)).bind fun t19 =>
      cond (t19 == t10)
      ((expr_Size_D fuel (Ex.mk x_0.kind x_0.n x_0.kids)).bind fun t26 =>
        (tronageref20_Size_D fuel (Ex.mk x_0.kind x_0.n x_0.kids)).bind fun t27 =>
        cond (t26 == t27)
        ((expr_Most_D fuel (Ex.mk x_0.kind x_0.n x_0.kids)).bind fun t34 =>
          (tronageref20_Most_D fuel (Ex.mk x_0.kind x_0.n x_0.kids)).bind fun t35 =>
          cond (t34 == t35)
          (cond (!t10)
            (some true)
            ((tronageref20_Show_D fuel (Ex.mk x_0.kind x_0.n x_0.kids)).bind fun t39 =>
              some (ByteArray.toList t14 == ByteArray.toList t39)))
          (some false))
        (some false))
      (some false))
    (some false)).bind fun z15 =>
    some z15)
theorem tronagelaw20_ExprTells_sim (fuel : Nat) {φ : Snap} {h : Heap} {F : List Chk} {x_0 : Int × Int × (Option Addr × Nat × Nat) × Unit} {d_x_0_2 : List Ex} (gk : Glob φ) (k1_ : Ro.SliceIs exRo φ x_0.2.2.1 d_x_0_2) (s0 : St φ (F) h) {r : Bool} (hd : tronagelaw20_ExprTells_D fuel (Ex.mk x_0.1 x_0.2.1 d_x_0_2) = some r) :
    CallsH Tryd.prog 7 [(.agg #[(.int .i64 x_0.1), (.int .i64 x_0.2.1), (.slice x_0.2.2.1.1 x_0.2.2.1.2.1 x_0.2.2.1.2.2)])] h (Back fun v h' => ∃ ψ : Snap, ∃ y : Bool, Sub φ ψ ∧ v = ((.one (.atom .bool)) : Sh).val y ∧ y = r ∧ St ψ (F) h') := by
  refine calls_of mixed Tryd.func7 ?_
  rw [tronagelaw20_ExprTells_den]
  unfold tronagelaw20_ExprTells_T
  unfold tronagelaw20_ExprTells_D at hd
  try dsimp only [Ex.kind_mk, Ex.n_mk, Ex.kids_mk] at hd
  have n2_ : x_0.2.2.1.2.1 = List.length d_x_0_2 := k1_.length
  refine s_new (vs := [.int .i64 x_0.1, .int .i64 x_0.2.1, .slice x_0.2.2.1.1 x_0.2.2.1.2.1 x_0.2.2.1.2.2]) s0 ?_
  intro r1 h4_ s3_
  obtain ⟨r5_, hr6_, hd⟩ := Option.bind_eq_some_iff.1 hd
  refine s_call (tronagelaw20_awake_sim fuel gk  s3_ hr6_) ?_
  rintro _ h7_ ⟨f8_, t2, le10_, rfl, rfl, s9_⟩
  refine ⟨t2, rfl, ?_⟩
  refine s_loadR (b := r1) (j := 0) (x := x_0.1) s9_ rfl ?_
  refine s_loadR (b := r1) (j := 1) (x := x_0.2.1) s9_ rfl ?_
  refine s_loadR (b := r1) (j := 2) (x := x_0.2.2.1) s9_ rfl ?_
  obtain ⟨r11_, hr12_, hd⟩ := Option.bind_eq_some_iff.1 hd
  refine s_call (tronageref20_Few_sim fuel (x_0 := (x_0.1, x_0.2.1, x_0.2.2.1, ())) (k1_.mono le10_) s9_ hr12_) ?_
  rintro _ h13_ ⟨f14_, t6, le16_, rfl, rfl, s15_⟩
  refine ⟨t6, rfl, ?_⟩
  refine s_cond hd rfl (fun hb78_ hd => ?_) (fun hb78_ hd => ?_)
  · obtain rfl := Option.some.inj hd
    have s17_ := s15_.tail
    exact finOf_back ⟨f14_, t2, (le10_.trans le16_), rfl, rfl, s17_⟩
  · refine s_loadR (b := r1) (j := 0) (x := x_0.1) s15_ rfl ?_
    refine s_loadR (b := r1) (j := 1) (x := x_0.2.1) s15_ rfl ?_
    refine s_loadR (b := r1) (j := 2) (x := x_0.2.2.1) s15_ rfl ?_
    obtain ⟨r18_, hr19_, hd⟩ := Option.bind_eq_some_iff.1 hd
    refine s_call (tronageref20_Right_sim fuel (x_0 := (x_0.1, x_0.2.1, x_0.2.2.1, ())) (k1_.mono (le10_.trans le16_)) s15_ hr19_) ?_
    rintro _ h20_ ⟨f21_, t10, le23_, rfl, rfl, s22_⟩
    refine ⟨t10, rfl, ?_⟩
    refine s_loadR (b := r1) (j := 0) (x := x_0.1) s22_ rfl ?_
    refine s_loadR (b := r1) (j := 1) (x := x_0.2.1) s22_ rfl ?_
    refine s_loadR (b := r1) (j := 2) (x := x_0.2.2.1) s22_ rfl ?_
    obtain ⟨r24_, hr25_, hd⟩ := Option.bind_eq_some_iff.1 hd
    refine s_call (expr_Show_sim fuel (x_0 := (x_0.1, x_0.2.1, x_0.2.2.1, ())) (gk.mono ((le10_.trans le16_).trans le23_)) (k1_.mono ((le10_.trans le16_).trans le23_)) s22_ hr25_) ?_
    rintro _ h26_ ⟨f27_, t14, le29_, rfl, rfl, s28_⟩
    refine ⟨t14, rfl, ?_⟩
    obtain ⟨g30_, hx31_, hd⟩ := Option.bind_eq_some_iff.1 hd
    refine s_join (fun (y : Bool × Unit) w_ g => ∃ ψ : Snap, Sub f27_ ψ ∧ y.1 = g ∧ St ψ (⟨Rep.raw 25, [.pointer (some ⟨r1, 0, none⟩)], [.int .i64 x_0.1, .int .i64 x_0.2.1, .slice x_0.2.2.1.1 x_0.2.2.1.2.1 x_0.2.2.1.2.2]⟩ :: F) w_) (g := g30_) ?_ ?_
    · refine s_cond hx31_ rfl (fun hb72_ hx31_ => ?_) (fun hb72_ hx31_ => ?_)
      · refine s_loadR (b := r1) (j := 0) (x := x_0.1) s28_ rfl ?_
        refine s_loadR (b := r1) (j := 1) (x := x_0.2.1) s28_ rfl ?_
        refine s_loadR (b := r1) (j := 2) (x := x_0.2.2.1) s28_ rfl ?_
        obtain ⟨r32_, hr33_, hx31_⟩ := Option.bind_eq_some_iff.1 hx31_
        refine s_call (expr_Right_sim fuel (x_0 := (x_0.1, x_0.2.1, x_0.2.2.1, ())) (k1_.mono (((le10_.trans le16_).trans le23_).trans le29_)) s28_ hr33_) ?_
        rintro _ h34_ ⟨f35_, t19, le37_, rfl, rfl, s36_⟩
        refine ⟨t19, rfl, ?_⟩
        refine s_cond hx31_ rfl (fun hb71_ hx31_ => ?_) (fun hb71_ hx31_ => ?_)
        · refine s_loadR (b := r1) (j := 0) (x := x_0.1) s36_ rfl ?_
          refine s_loadR (b := r1) (j := 1) (x := x_0.2.1) s36_ rfl ?_
          refine s_loadR (b := r1) (j := 2) (x := x_0.2.2.1) s36_ rfl ?_
          refine s_loadR (b := r1) (j := 0) (x := x_0.1) s36_ rfl ?_
          refine s_loadR (b := r1) (j := 1) (x := x_0.2.1) s36_ rfl ?_
          refine s_loadR (b := r1) (j := 2) (x := x_0.2.2.1) s36_ rfl ?_
          obtain ⟨r38_, hr39_, hx31_⟩ := Option.bind_eq_some_iff.1 hx31_
          refine s_call (expr_Size_sim fuel (x_0 := (x_0.1, x_0.2.1, x_0.2.2.1, ())) (k1_.mono ((((le10_.trans le16_).trans le23_).trans le29_).trans le37_)) s36_ hr39_) ?_
          rintro _ h40_ ⟨f41_, t26, le43_, rfl, rfl, s42_⟩
          refine ⟨t26, rfl, ?_⟩
          refine t_still (St.cell (b := r1) (j := 0) s42_ rfl) ?_
          refine t_still (St.cell (b := r1) (j := 1) s42_ rfl) ?_
          refine t_still (St.cell (b := r1) (j := 2) s42_ rfl) ?_
          obtain ⟨r44_, hr45_, hx31_⟩ := Option.bind_eq_some_iff.1 hx31_
          refine s_call (tronageref20_Size_sim fuel (x_0 := (x_0.1, x_0.2.1, x_0.2.2.1, ())) (k1_.mono (((((le10_.trans le16_).trans le23_).trans le29_).trans le37_).trans le43_)) s42_ hr45_) ?_
          rintro _ h46_ ⟨f47_, t27, le49_, rfl, rfl, s48_⟩
          refine ⟨t27, rfl, ?_⟩
          refine s_cond hx31_ rfl (fun hb70_ hx31_ => ?_) (fun hb70_ hx31_ => ?_)
          · refine s_loadR (b := r1) (j := 0) (x := x_0.1) s48_ rfl ?_
            refine s_loadR (b := r1) (j := 1) (x := x_0.2.1) s48_ rfl ?_
            refine s_loadR (b := r1) (j := 2) (x := x_0.2.2.1) s48_ rfl ?_
            refine s_loadR (b := r1) (j := 0) (x := x_0.1) s48_ rfl ?_
            refine s_loadR (b := r1) (j := 1) (x := x_0.2.1) s48_ rfl ?_
            refine s_loadR (b := r1) (j := 2) (x := x_0.2.2.1) s48_ rfl ?_
            obtain ⟨r50_, hr51_, hx31_⟩ := Option.bind_eq_some_iff.1 hx31_
            refine s_call (expr_Most_sim fuel (x_0 := (x_0.1, x_0.2.1, x_0.2.2.1, ())) (k1_.mono ((((((le10_.trans le16_).trans le23_).trans le29_).trans le37_).trans le43_).trans le49_)) s48_ hr51_) ?_
            rintro _ h52_ ⟨f53_, t34, le55_, rfl, rfl, s54_⟩
            refine ⟨t34, rfl, ?_⟩
            refine t_still (St.cell (b := r1) (j := 0) s54_ rfl) ?_
            refine t_still (St.cell (b := r1) (j := 1) s54_ rfl) ?_
            refine t_still (St.cell (b := r1) (j := 2) s54_ rfl) ?_
            obtain ⟨r56_, hr57_, hx31_⟩ := Option.bind_eq_some_iff.1 hx31_
            refine s_call (tronageref20_Most_sim fuel (x_0 := (x_0.1, x_0.2.1, x_0.2.2.1, ())) (k1_.mono (((((((le10_.trans le16_).trans le23_).trans le29_).trans le37_).trans le43_).trans le49_).trans le55_)) s54_ hr57_) ?_
            rintro _ h58_ ⟨f59_, t35, le61_, rfl, rfl, s60_⟩
            refine ⟨t35, rfl, ?_⟩
            refine s_cond hx31_ rfl (fun hb69_ hx31_ => ?_) (fun hb69_ hx31_ => ?_)
            · refine s_cond hx31_ rfl (fun hb68_ hx31_ => ?_) (fun hb68_ hx31_ => ?_)
              · obtain rfl := Option.some.inj hx31_
                exact s_out (true, ()) rfl ⟨f59_, ((((le37_.trans le43_).trans le49_).trans le55_).trans le61_), rfl, s60_⟩
              · refine s_loadR (b := r1) (j := 0) (x := x_0.1) s60_ rfl ?_
                refine s_loadR (b := r1) (j := 1) (x := x_0.2.1) s60_ rfl ?_
                refine s_loadR (b := r1) (j := 2) (x := x_0.2.2.1) s60_ rfl ?_
                obtain ⟨r62_, hr63_, hx31_⟩ := Option.bind_eq_some_iff.1 hx31_
                refine s_call (tronageref20_Show_sim fuel (x_0 := (x_0.1, x_0.2.1, x_0.2.2.1, ())) (k1_.mono ((((((((le10_.trans le16_).trans le23_).trans le29_).trans le37_).trans le43_).trans le49_).trans le55_).trans le61_)) s60_ hr63_) ?_
                rintro _ h64_ ⟨f65_, t39, le67_, rfl, rfl, s66_⟩
                refine ⟨t39, rfl, ?_⟩
                obtain rfl := Option.some.inj hx31_
                exact s_out ((ByteArray.toList t14 == ByteArray.toList t39), ()) rfl ⟨f65_, (((((le37_.trans le43_).trans le49_).trans le55_).trans le61_).trans le67_), rfl, s66_⟩
            · obtain rfl := Option.some.inj hx31_
              exact s_out (false, ()) rfl ⟨f59_, ((((le37_.trans le43_).trans le49_).trans le55_).trans le61_), rfl, s60_⟩
          · obtain rfl := Option.some.inj hx31_
            exact s_out (false, ()) rfl ⟨f47_, ((le37_.trans le43_).trans le49_), rfl, s48_⟩
        · obtain rfl := Option.some.inj hx31_
          exact s_out (false, ()) rfl ⟨f35_, le37_, rfl, s36_⟩
      · obtain rfl := Option.some.inj hx31_
        exact s_out (false, ()) rfl ⟨f27_, (Sub.refl _), rfl, s28_⟩
    · rintro z15 h73_ ⟨f74_, le75_, rfl, s76_⟩
      try dsimp only at hd
      obtain rfl := Option.some.inj hd
      have s77_ := s76_.tail
      exact finOf_back ⟨f74_, z15.1, ((((le10_.trans le16_).trans le23_).trans le29_).trans le75_), rfl, rfl, s77_⟩

noncomputable def tronagelaw20_ExprBack_D (fuel : Nat) (x_0 : Ex) : Option Bool :=
  (tronagelaw20_awake_D fuel).bind fun t2 =>
  ((tronageref20_Few_D fuel (Ex.mk x_0.kind x_0.n x_0.kids) (60 : Int) (30 : Int)).bind fun t7 =>
  cond (decide (t7 < (0 : Int)))
  (some true)
  ((expr_Right_D fuel (Ex.mk x_0.kind x_0.n x_0.kids)).bind fun t11 =>
    some (!t11))).bind fun z3 =>
  cond z3
  (some t2)
  ((expr_Show_D fuel (Ex.mk x_0.kind x_0.n x_0.kids)).bind fun t15 =>
    (expr_Read_D fuel t15).bind fun t16 =>
    cond (decide (((ByteArray.size t15 : Nat) : Int) > (200 : Int)))
    ((cond t2
      (some (t16.2.2.2.1 == (12 : Int)))
      (some false)).bind fun z18 =>
      some z18)
    ((cond t2
      (cond (t16.2.2.2.1 == (13 : Int))
        (some true)
        (cond (t16.2.2.2.1 == (0 : Int))
          ((tronageref20_Same_D fuel (Ex.mk x_0.kind x_0.n x_0.kids) (Ex.mk t16.1 t16.2.1 t16.2.2.1)).bind fun t26 =>
            some t26)
          (some false)))
      (some false)).bind fun z19 =>
      some z19))
theorem tronagelaw20_ExprBack_sim (fuel : Nat) {φ : Snap} {h : Heap} {F : List Chk} {x_0 : Int × Int × (Option Addr × Nat × Nat) × Unit} {d_x_0_2 : List Ex} (gk : Glob φ) (k1_ : Ro.SliceIs exRo φ x_0.2.2.1 d_x_0_2) (s0 : St φ (F) h) {r : Bool} (hd : tronagelaw20_ExprBack_D fuel (Ex.mk x_0.1 x_0.2.1 d_x_0_2) = some r) :
    CallsH Tryd.prog 8 [(.agg #[(.int .i64 x_0.1), (.int .i64 x_0.2.1), (.slice x_0.2.2.1.1 x_0.2.2.1.2.1 x_0.2.2.1.2.2)])] h (Back fun v h' => ∃ ψ : Snap, ∃ y : Bool, Sub φ ψ ∧ v = ((.one (.atom .bool)) : Sh).val y ∧ y = r ∧ St ψ (F) h') := by
  refine calls_of mixed Tryd.func8 ?_
  rw [tronagelaw20_ExprBack_den]
  unfold tronagelaw20_ExprBack_T
  unfold tronagelaw20_ExprBack_D at hd
  try dsimp only [Ex.kind_mk, Ex.n_mk, Ex.kids_mk] at hd
  have n2_ : x_0.2.2.1.2.1 = List.length d_x_0_2 := k1_.length
  refine s_new (vs := [.int .i64 x_0.1, .int .i64 x_0.2.1, .slice x_0.2.2.1.1 x_0.2.2.1.2.1 x_0.2.2.1.2.2]) s0 ?_
  intro r1 h4_ s3_
  obtain ⟨r5_, hr6_, hd⟩ := Option.bind_eq_some_iff.1 hd
  refine s_call (tronagelaw20_awake_sim fuel gk  s3_ hr6_) ?_
  rintro _ h7_ ⟨f8_, t2, le10_, rfl, rfl, s9_⟩
  refine ⟨t2, rfl, ?_⟩
  obtain ⟨g11_, hx12_, hd⟩ := Option.bind_eq_some_iff.1 hd
  refine s_join (fun (y : Bool × Unit) w_ g => ∃ ψ : Snap, Sub f8_ ψ ∧ y.1 = g ∧ St ψ (⟨Rep.raw 25, [.pointer (some ⟨r1, 0, none⟩)], [.int .i64 x_0.1, .int .i64 x_0.2.1, .slice x_0.2.2.1.1 x_0.2.2.1.2.1 x_0.2.2.1.2.2]⟩ :: F) w_) (g := g11_) ?_ ?_
  · refine s_loadR (b := r1) (j := 0) (x := x_0.1) s9_ rfl ?_
    refine s_loadR (b := r1) (j := 1) (x := x_0.2.1) s9_ rfl ?_
    refine s_loadR (b := r1) (j := 2) (x := x_0.2.2.1) s9_ rfl ?_
    obtain ⟨r13_, hr14_, hx12_⟩ := Option.bind_eq_some_iff.1 hx12_
    refine s_call (tronageref20_Few_sim fuel (x_0 := (x_0.1, x_0.2.1, x_0.2.2.1, ())) (k1_.mono le10_) s9_ hr14_) ?_
    rintro _ h15_ ⟨f16_, t7, le18_, rfl, rfl, s17_⟩
    refine ⟨t7, rfl, ?_⟩
    refine s_cond hx12_ rfl (fun hb25_ hx12_ => ?_) (fun hb25_ hx12_ => ?_)
    · obtain rfl := Option.some.inj hx12_
      exact s_out (true, ()) rfl ⟨f16_, le18_, rfl, s17_⟩
    · refine s_loadR (b := r1) (j := 0) (x := x_0.1) s17_ rfl ?_
      refine s_loadR (b := r1) (j := 1) (x := x_0.2.1) s17_ rfl ?_
      refine s_loadR (b := r1) (j := 2) (x := x_0.2.2.1) s17_ rfl ?_
      obtain ⟨r19_, hr20_, hx12_⟩ := Option.bind_eq_some_iff.1 hx12_
      refine s_call (expr_Right_sim fuel (x_0 := (x_0.1, x_0.2.1, x_0.2.2.1, ())) (k1_.mono (le10_.trans le18_)) s17_ hr20_) ?_
      rintro _ h21_ ⟨f22_, t11, le24_, rfl, rfl, s23_⟩
      refine ⟨t11, rfl, ?_⟩
      obtain rfl := Option.some.inj hx12_
      exact s_out ((!t11), ()) rfl ⟨f22_, (le18_.trans le24_), rfl, s23_⟩
  · rintro z3 h26_ ⟨f27_, le28_, rfl, s29_⟩
    try dsimp only at hd
    refine s_cond hd rfl (fun hb93_ hd => ?_) (fun hb93_ hd => ?_)
    · obtain rfl := Option.some.inj hd
      have s30_ := s29_.tail
      exact finOf_back ⟨f27_, t2, (le10_.trans le28_), rfl, rfl, s30_⟩
    · refine s_loadR (b := r1) (j := 0) (x := x_0.1) s29_ rfl ?_
      refine s_loadR (b := r1) (j := 1) (x := x_0.2.1) s29_ rfl ?_
      refine s_loadR (b := r1) (j := 2) (x := x_0.2.2.1) s29_ rfl ?_
      obtain ⟨r31_, hr32_, hd⟩ := Option.bind_eq_some_iff.1 hd
      refine s_call (expr_Show_sim fuel (x_0 := (x_0.1, x_0.2.1, x_0.2.2.1, ())) (gk.mono (le10_.trans le28_)) (k1_.mono (le10_.trans le28_)) s29_ hr32_) ?_
      rintro _ h33_ ⟨f34_, t15, le36_, rfl, rfl, s35_⟩
      refine ⟨t15, rfl, ?_⟩
      obtain ⟨r37_, hr38_, hd⟩ := Option.bind_eq_some_iff.1 hd
      refine s_call (expr_Read_sim fuel  s35_ hr38_) ?_
      rintro _ h39_ ⟨f40_, t16, d43_, le42_, rfl, rfl, k45_, s41_⟩
      refine ⟨t16, rfl, ?_⟩
      try dsimp only at hd
      have n44_ := k45_.length
      refine s_new (vs := [.int .i64 (0 : Int), .int .i64 (0 : Int), .slice none 0 0]) s41_ ?_
      intro r17 h47_ s46_
      refine s_put (b := r17) (j := 0) (v := .int .i64 t16.1.1) s46_ rfl (show (0 : Nat) < 3 by decide) ?_
      intro h49_ s48_
      refine s_put (b := r17) (j := 1) (v := .int .i64 t16.1.2.1) s48_ rfl (show (1 : Nat) < 3 by decide) ?_
      intro h51_ s50_
      refine s_put (b := r17) (j := 2) (v := .slice t16.1.2.2.1.1 t16.1.2.2.1.2.1 t16.1.2.2.1.2.2) s50_ rfl (show (2 : Nat) < 3 by decide) ?_
      intro h53_ s52_
      refine s_cond hd rfl (fun hb92_ hd => ?_) (fun hb92_ hd => ?_)
      · obtain ⟨g54_, hx55_, hd⟩ := Option.bind_eq_some_iff.1 hd
        refine s_join (fun (y : Bool × Unit) w_ g => ∃ ψ : Snap, Sub f40_ ψ ∧ y.1 = g ∧ St ψ (⟨Rep.raw 25, [.pointer (some ⟨r17, 0, none⟩)], [.int .i64 t16.1.1, .int .i64 t16.1.2.1, .slice t16.1.2.2.1.1 t16.1.2.2.1.2.1 t16.1.2.2.1.2.2]⟩ :: ⟨Rep.raw 25, [.pointer (some ⟨r1, 0, none⟩)], [.int .i64 x_0.1, .int .i64 x_0.2.1, .slice x_0.2.2.1.1 x_0.2.2.1.2.1 x_0.2.2.1.2.2]⟩ :: F) w_) (g := g54_) ?_ ?_
        · refine s_cond hx55_ rfl (fun hb60_ hx55_ => ?_) (fun hb60_ hx55_ => ?_)
          · have s56_ := s52_.at1
            have s57_ := s56_.at1
            obtain rfl := Option.some.inj hx55_
            exact s_out ((t16.2.1 == (12 : Int)), ()) rfl ⟨f40_, (Sub.refl _), rfl, s57_⟩
          · have s58_ := s52_.at1
            have s59_ := s58_.at1
            obtain rfl := Option.some.inj hx55_
            exact s_out (false, ()) rfl ⟨f40_, (Sub.refl _), rfl, s59_⟩
        · rintro z18 h61_ ⟨f62_, le63_, rfl, s64_⟩
          try dsimp only at hd
          obtain rfl := Option.some.inj hd
          have s65_ := s64_.tail
          have s66_ := s65_.tail
          exact finOf_back ⟨f62_, z18.1, ((((le10_.trans le28_).trans le36_).trans le42_).trans le63_), rfl, rfl, s66_⟩
      · obtain ⟨g67_, hx68_, hd⟩ := Option.bind_eq_some_iff.1 hd
        refine s_join (fun (y : Bool × Unit) w_ g => ∃ ψ : Snap, Sub f40_ ψ ∧ y.1 = g ∧ St ψ (⟨Rep.raw 25, [.pointer (some ⟨r17, 0, none⟩)], [.int .i64 t16.1.1, .int .i64 t16.1.2.1, .slice t16.1.2.2.1.1 t16.1.2.2.1.2.1 t16.1.2.2.1.2.2]⟩ :: ⟨Rep.raw 25, [.pointer (some ⟨r1, 0, none⟩)], [.int .i64 x_0.1, .int .i64 x_0.2.1, .slice x_0.2.2.1.1 x_0.2.2.1.2.1 x_0.2.2.1.2.2]⟩ :: F) w_) (g := g67_) ?_ ?_
        · refine s_cond hx68_ rfl (fun hb85_ hx68_ => ?_) (fun hb85_ hx68_ => ?_)
          · refine s_cond hx68_ rfl (fun hb82_ hx68_ => ?_) (fun hb82_ hx68_ => ?_)
            · have s69_ := s52_.at1
              have s70_ := s69_.at1
              obtain rfl := Option.some.inj hx68_
              exact s_out (true, ()) rfl ⟨f40_, (Sub.refl _), rfl, s70_⟩
            · refine s_cond hx68_ rfl (fun hb81_ hx68_ => ?_) (fun hb81_ hx68_ => ?_)
              · refine s_loadR (b := r1) (j := 0) (x := x_0.1) s52_.at1 rfl ?_
                refine s_loadR (b := r1) (j := 1) (x := x_0.2.1) s52_.at1 rfl ?_
                refine s_loadR (b := r1) (j := 2) (x := x_0.2.2.1) s52_.at1 rfl ?_
                refine s_loadR (b := r17) (j := 0) (x := t16.1.1) s52_ rfl ?_
                refine s_loadR (b := r17) (j := 1) (x := t16.1.2.1) s52_ rfl ?_
                refine s_loadR (b := r17) (j := 2) (x := t16.1.2.2.1) s52_ rfl ?_
                obtain ⟨r71_, hr72_, hx68_⟩ := Option.bind_eq_some_iff.1 hx68_
                refine s_call (tronageref20_Same_sim fuel (a_0 := (x_0.1, x_0.2.1, x_0.2.2.1, ())) (b_1 := (t16.1.1, t16.1.2.1, t16.1.2.2.1, ())) (k1_.mono (((le10_.trans le28_).trans le36_).trans le42_)) k45_ s52_ hr72_) ?_
                rintro _ h73_ ⟨f74_, t26, le76_, rfl, rfl, s75_⟩
                refine ⟨t26, rfl, ?_⟩
                have s77_ := s75_.at1
                have s78_ := s77_.at1
                obtain rfl := Option.some.inj hx68_
                exact s_out (t26, ()) rfl ⟨f74_, le76_, rfl, s78_⟩
              · have s79_ := s52_.at1
                have s80_ := s79_.at1
                obtain rfl := Option.some.inj hx68_
                exact s_out (false, ()) rfl ⟨f40_, (Sub.refl _), rfl, s80_⟩
          · have s83_ := s52_.at1
            have s84_ := s83_.at1
            obtain rfl := Option.some.inj hx68_
            exact s_out (false, ()) rfl ⟨f40_, (Sub.refl _), rfl, s84_⟩
        · rintro z19 h86_ ⟨f87_, le88_, rfl, s89_⟩
          try dsimp only at hd
          obtain rfl := Option.some.inj hd
          have s90_ := s89_.tail
          have s91_ := s90_.tail
          exact finOf_back ⟨f87_, z19.1, ((((le10_.trans le28_).trans le36_).trans le42_).trans le88_), rfl, rfl, s91_⟩

noncomputable def tronagelaw20_ExprAgain_D (fuel : Nat) (s_0 : ByteArray) : Option Bool :=
  (tronagelaw20_awake_D fuel).bind fun t1 =>
  cond (decide (((ByteArray.size s_0 : Nat) : Int) > (300 : Int)))
  (some t1)
  ((expr_Read_D fuel s_0).bind fun t2 =>
    cond (t2.2.2.2.1 != (0 : Int))
    ((cond t1
      (cond (decide (t2.2.2.2.2 ≥ (0 : Int)))
        (cond (decide (t2.2.2.2.2 ≤ ((ByteArray.size s_0 : Nat) : Int)))
          ((tronageref20_Same_D fuel (Ex.mk t2.1 t2.2.1 t2.2.2.1) (Ex.mk (0 : Int) (0 : Int) ([] : List Ex))).bind fun t8 =>
            cond t8
            (cond (t2.2.2.2.1 == (30 : Int))
              (some true)
              (cond (t2.2.2.2.1 == (13 : Int))
                (some true)
                (cond (t2.2.2.2.1 == (12 : Int))
                  (cond (t2.2.2.2.2 == (0 : Int))
                    (some (decide (((ByteArray.size s_0 : Nat) : Int) > (200 : Int))))
                    (some false))
                  (some false))))
            (some false))
          (some false))
        (some false))
      (some false)).bind fun z4 =>
      some z4)
    ((expr_Show_D fuel (Ex.mk t2.1 t2.2.1 t2.2.2.1)).bind fun t12 =>
      (expr_Read_D fuel t12).bind fun t13 =>
      (cond t1
      (cond (t2.2.2.2.2 == (0 : Int))
        ((expr_Right_D fuel (Ex.mk t2.1 t2.2.1 t2.2.2.1)).bind fun t19 =>
          cond t19
          (cond (t13.2.2.2.1 == (13 : Int))
            (some true)
            (cond (t13.2.2.2.1 == (12 : Int))
              (some true)
              (cond (t13.2.2.2.1 == (0 : Int))
                ((tronageref20_Same_D fuel (Ex.mk t2.1 t2.2.1 t2.2.2.1) (Ex.mk t13.1 t13.2.1 t13.2.2.1)).bind fun t26 =>
                  some t26)
                (some false))))
          (some false))
        (some false))
      (some false)).bind fun z15 =>
      some z15))
theorem tronagelaw20_ExprAgain_sim (fuel : Nat) {φ : Snap} {h : Heap} {F : List Chk} {s_0 : ByteArray} (gk : Glob φ)  (s0 : St φ (F) h) {r : Bool} (hd : tronagelaw20_ExprAgain_D fuel s_0 = some r) :
    CallsH Tryd.prog 9 [(.string s_0)] h (Back fun v h' => ∃ ψ : Snap, ∃ y : Bool, Sub φ ψ ∧ v = ((.one (.atom .bool)) : Sh).val y ∧ y = r ∧ St ψ (F) h') := by
  refine calls_of mixed Tryd.func9 ?_
  rw [tronagelaw20_ExprAgain_den]
  unfold tronagelaw20_ExprAgain_T
  unfold tronagelaw20_ExprAgain_D at hd
  try dsimp only [Ex.kind_mk, Ex.n_mk, Ex.kids_mk] at hd
  obtain ⟨r1_, hr2_, hd⟩ := Option.bind_eq_some_iff.1 hd
  refine s_call (tronagelaw20_awake_sim fuel gk  s0 hr2_) ?_
  rintro _ h3_ ⟨f4_, t1, le6_, rfl, rfl, s5_⟩
  refine ⟨t1, rfl, ?_⟩
  refine s_cond hd rfl (fun hb109_ hd => ?_) (fun hb109_ hd => ?_)
  · obtain rfl := Option.some.inj hd
    exact finOf_back ⟨f4_, t1, le6_, rfl, rfl, s5_⟩
  · obtain ⟨r7_, hr8_, hd⟩ := Option.bind_eq_some_iff.1 hd
    refine s_call (expr_Read_sim fuel  s5_ hr8_) ?_
    rintro _ h9_ ⟨f10_, t2, d13_, le12_, rfl, rfl, k15_, s11_⟩
    refine ⟨t2, rfl, ?_⟩
    try dsimp only at hd
    have n14_ := k15_.length
    refine s_new (vs := [.int .i64 (0 : Int), .int .i64 (0 : Int), .slice none 0 0]) s11_ ?_
    intro r3 h17_ s16_
    refine s_put (b := r3) (j := 0) (v := .int .i64 t2.1.1) s16_ rfl (show (0 : Nat) < 3 by decide) ?_
    intro h19_ s18_
    refine s_put (b := r3) (j := 1) (v := .int .i64 t2.1.2.1) s18_ rfl (show (1 : Nat) < 3 by decide) ?_
    intro h21_ s20_
    refine s_put (b := r3) (j := 2) (v := .slice t2.1.2.2.1.1 t2.1.2.2.1.2.1 t2.1.2.2.1.2.2) s20_ rfl (show (2 : Nat) < 3 by decide) ?_
    intro h23_ s22_
    refine s_cond hd rfl (fun hb108_ hd => ?_) (fun hb108_ hd => ?_)
    · obtain ⟨g24_, hx25_, hd⟩ := Option.bind_eq_some_iff.1 hd
      refine s_join (fun (y : Bool × Unit) w_ g => ∃ ψ : Snap, Sub f10_ ψ ∧ y.1 = g ∧ St ψ (⟨Rep.raw 25, [.pointer (some ⟨r3, 0, none⟩)], [.int .i64 t2.1.1, .int .i64 t2.1.2.1, .slice t2.1.2.2.1.1 t2.1.2.2.1.2.1 t2.1.2.2.1.2.2]⟩ :: F) w_) (g := g24_) ?_ ?_
      · refine s_cond hx25_ rfl (fun hb39_ hx25_ => ?_) (fun hb39_ hx25_ => ?_)
        · refine s_cond hx25_ rfl (fun hb38_ hx25_ => ?_) (fun hb38_ hx25_ => ?_)
          · refine s_cond hx25_ rfl (fun hb37_ hx25_ => ?_) (fun hb37_ hx25_ => ?_)
            · refine s_loadR (b := r3) (j := 0) (x := t2.1.1) s22_ rfl ?_
              refine s_loadR (b := r3) (j := 1) (x := t2.1.2.1) s22_ rfl ?_
              refine s_loadR (b := r3) (j := 2) (x := t2.1.2.2.1) s22_ rfl ?_
              obtain ⟨r26_, hr27_, hx25_⟩ := Option.bind_eq_some_iff.1 hx25_
              refine s_call (tronageref20_Same_sim fuel (a_0 := (t2.1.1, t2.1.2.1, t2.1.2.2.1, ())) (b_1 := ((0 : Int), (0 : Int), ((none, 0, 0) : Slc), ())) k15_ (Ro.SliceIs.nil exRo f10_) s22_ hr27_) ?_
              rintro _ h28_ ⟨f29_, t8, le31_, rfl, rfl, s30_⟩
              refine ⟨t8, rfl, ?_⟩
              refine s_cond hx25_ rfl (fun hb36_ hx25_ => ?_) (fun hb36_ hx25_ => ?_)
              · refine s_cond hx25_ rfl (fun hb35_ hx25_ => ?_) (fun hb35_ hx25_ => ?_)
                · obtain rfl := Option.some.inj hx25_
                  exact s_out (true, ()) rfl ⟨f29_, le31_, rfl, s30_⟩
                · refine s_cond hx25_ rfl (fun hb34_ hx25_ => ?_) (fun hb34_ hx25_ => ?_)
                  · obtain rfl := Option.some.inj hx25_
                    exact s_out (true, ()) rfl ⟨f29_, le31_, rfl, s30_⟩
                  · refine s_cond hx25_ rfl (fun hb33_ hx25_ => ?_) (fun hb33_ hx25_ => ?_)
                    · refine s_cond hx25_ rfl (fun hb32_ hx25_ => ?_) (fun hb32_ hx25_ => ?_)
                      · obtain rfl := Option.some.inj hx25_
                        exact s_out ((decide (((ByteArray.size s_0 : Nat) : Int) > (200 : Int))), ()) rfl ⟨f29_, le31_, rfl, s30_⟩
                      · obtain rfl := Option.some.inj hx25_
                        exact s_out (false, ()) rfl ⟨f29_, le31_, rfl, s30_⟩
                    · obtain rfl := Option.some.inj hx25_
                      exact s_out (false, ()) rfl ⟨f29_, le31_, rfl, s30_⟩
              · obtain rfl := Option.some.inj hx25_
                exact s_out (false, ()) rfl ⟨f29_, le31_, rfl, s30_⟩
            · obtain rfl := Option.some.inj hx25_
              exact s_out (false, ()) rfl ⟨f10_, (Sub.refl _), rfl, s22_⟩
          · obtain rfl := Option.some.inj hx25_
            exact s_out (false, ()) rfl ⟨f10_, (Sub.refl _), rfl, s22_⟩
        · obtain rfl := Option.some.inj hx25_
          exact s_out (false, ()) rfl ⟨f10_, (Sub.refl _), rfl, s22_⟩
      · rintro z4 h40_ ⟨f41_, le42_, rfl, s43_⟩
        try dsimp only at hd
        obtain rfl := Option.some.inj hd
        have s44_ := s43_.tail
        exact finOf_back ⟨f41_, z4.1, ((le6_.trans le12_).trans le42_), rfl, rfl, s44_⟩
    · refine s_loadR (b := r3) (j := 0) (x := t2.1.1) s22_ rfl ?_
      refine s_loadR (b := r3) (j := 1) (x := t2.1.2.1) s22_ rfl ?_
      refine s_loadR (b := r3) (j := 2) (x := t2.1.2.2.1) s22_ rfl ?_
      obtain ⟨r45_, hr46_, hd⟩ := Option.bind_eq_some_iff.1 hd
      refine s_call (expr_Show_sim fuel (x_0 := (t2.1.1, t2.1.2.1, t2.1.2.2.1, ())) (gk.mono (le6_.trans le12_)) k15_ s22_ hr46_) ?_
      rintro _ h47_ ⟨f48_, t12, le50_, rfl, rfl, s49_⟩
      refine ⟨t12, rfl, ?_⟩
      obtain ⟨r51_, hr52_, hd⟩ := Option.bind_eq_some_iff.1 hd
      refine s_call (expr_Read_sim fuel  s49_ hr52_) ?_
      rintro _ h53_ ⟨f54_, t13, d57_, le56_, rfl, rfl, k59_, s55_⟩
      refine ⟨t13, rfl, ?_⟩
      try dsimp only at hd
      have n58_ := k59_.length
      refine s_new (vs := [.int .i64 (0 : Int), .int .i64 (0 : Int), .slice none 0 0]) s55_ ?_
      intro r14 h61_ s60_
      refine s_put (b := r14) (j := 0) (v := .int .i64 t13.1.1) s60_ rfl (show (0 : Nat) < 3 by decide) ?_
      intro h63_ s62_
      refine s_put (b := r14) (j := 1) (v := .int .i64 t13.1.2.1) s62_ rfl (show (1 : Nat) < 3 by decide) ?_
      intro h65_ s64_
      refine s_put (b := r14) (j := 2) (v := .slice t13.1.2.2.1.1 t13.1.2.2.1.2.1 t13.1.2.2.1.2.2) s64_ rfl (show (2 : Nat) < 3 by decide) ?_
      intro h67_ s66_
      obtain ⟨g68_, hx69_, hd⟩ := Option.bind_eq_some_iff.1 hd
      refine s_join (fun (y : Bool × Unit) w_ g => ∃ ψ : Snap, Sub f54_ ψ ∧ y.1 = g ∧ St ψ (⟨Rep.raw 25, [.pointer (some ⟨r14, 0, none⟩)], [.int .i64 t13.1.1, .int .i64 t13.1.2.1, .slice t13.1.2.2.1.1 t13.1.2.2.1.2.1 t13.1.2.2.1.2.2]⟩ :: ⟨Rep.raw 25, [.pointer (some ⟨r3, 0, none⟩)], [.int .i64 t2.1.1, .int .i64 t2.1.2.1, .slice t2.1.2.2.1.1 t2.1.2.2.1.2.1 t2.1.2.2.1.2.2]⟩ :: F) w_) (g := g68_) ?_ ?_
      · refine s_cond hx69_ rfl (fun hb101_ hx69_ => ?_) (fun hb101_ hx69_ => ?_)
        · refine s_cond hx69_ rfl (fun hb98_ hx69_ => ?_) (fun hb98_ hx69_ => ?_)
          · refine s_loadR (b := r3) (j := 0) (x := t2.1.1) s66_.at1 rfl ?_
            refine s_loadR (b := r3) (j := 1) (x := t2.1.2.1) s66_.at1 rfl ?_
            refine s_loadR (b := r3) (j := 2) (x := t2.1.2.2.1) s66_.at1 rfl ?_
            obtain ⟨r70_, hr71_, hx69_⟩ := Option.bind_eq_some_iff.1 hx69_
            refine s_call (expr_Right_sim fuel (x_0 := (t2.1.1, t2.1.2.1, t2.1.2.2.1, ())) (k15_.mono (le50_.trans le56_)) s66_ hr71_) ?_
            rintro _ h72_ ⟨f73_, t19, le75_, rfl, rfl, s74_⟩
            refine ⟨t19, rfl, ?_⟩
            refine s_cond hx69_ rfl (fun hb95_ hx69_ => ?_) (fun hb95_ hx69_ => ?_)
            · refine s_cond hx69_ rfl (fun hb92_ hx69_ => ?_) (fun hb92_ hx69_ => ?_)
              · have s76_ := s74_.at1
                have s77_ := s76_.at1
                obtain rfl := Option.some.inj hx69_
                exact s_out (true, ()) rfl ⟨f73_, le75_, rfl, s77_⟩
              · refine s_cond hx69_ rfl (fun hb91_ hx69_ => ?_) (fun hb91_ hx69_ => ?_)
                · have s78_ := s74_.at1
                  have s79_ := s78_.at1
                  obtain rfl := Option.some.inj hx69_
                  exact s_out (true, ()) rfl ⟨f73_, le75_, rfl, s79_⟩
                · refine s_cond hx69_ rfl (fun hb90_ hx69_ => ?_) (fun hb90_ hx69_ => ?_)
                  · refine s_loadR (b := r3) (j := 0) (x := t2.1.1) s74_.at1 rfl ?_
                    refine s_loadR (b := r3) (j := 1) (x := t2.1.2.1) s74_.at1 rfl ?_
                    refine s_loadR (b := r3) (j := 2) (x := t2.1.2.2.1) s74_.at1 rfl ?_
                    refine s_loadR (b := r14) (j := 0) (x := t13.1.1) s74_ rfl ?_
                    refine s_loadR (b := r14) (j := 1) (x := t13.1.2.1) s74_ rfl ?_
                    refine s_loadR (b := r14) (j := 2) (x := t13.1.2.2.1) s74_ rfl ?_
                    obtain ⟨r80_, hr81_, hx69_⟩ := Option.bind_eq_some_iff.1 hx69_
                    refine s_call (tronageref20_Same_sim fuel (a_0 := (t2.1.1, t2.1.2.1, t2.1.2.2.1, ())) (b_1 := (t13.1.1, t13.1.2.1, t13.1.2.2.1, ())) (k15_.mono ((le50_.trans le56_).trans le75_)) (k59_.mono le75_) s74_ hr81_) ?_
                    rintro _ h82_ ⟨f83_, t26, le85_, rfl, rfl, s84_⟩
                    refine ⟨t26, rfl, ?_⟩
                    have s86_ := s84_.at1
                    have s87_ := s86_.at1
                    obtain rfl := Option.some.inj hx69_
                    exact s_out (t26, ()) rfl ⟨f83_, (le75_.trans le85_), rfl, s87_⟩
                  · have s88_ := s74_.at1
                    have s89_ := s88_.at1
                    obtain rfl := Option.some.inj hx69_
                    exact s_out (false, ()) rfl ⟨f73_, le75_, rfl, s89_⟩
            · have s93_ := s74_.at1
              have s94_ := s93_.at1
              obtain rfl := Option.some.inj hx69_
              exact s_out (false, ()) rfl ⟨f73_, le75_, rfl, s94_⟩
          · have s96_ := s66_.at1
            have s97_ := s96_.at1
            obtain rfl := Option.some.inj hx69_
            exact s_out (false, ()) rfl ⟨f54_, (Sub.refl _), rfl, s97_⟩
        · have s99_ := s66_.at1
          have s100_ := s99_.at1
          obtain rfl := Option.some.inj hx69_
          exact s_out (false, ()) rfl ⟨f54_, (Sub.refl _), rfl, s100_⟩
      · rintro z15 h102_ ⟨f103_, le104_, rfl, s105_⟩
        try dsimp only at hd
        obtain rfl := Option.some.inj hd
        have s106_ := s105_.tail
        have s107_ := s106_.tail
        exact finOf_back ⟨f103_, z15.1, ((((le6_.trans le12_).trans le50_).trans le56_).trans le104_), rfl, rfl, s107_⟩

end Go.Proofs.YtkhfdckieocciaaDoor
