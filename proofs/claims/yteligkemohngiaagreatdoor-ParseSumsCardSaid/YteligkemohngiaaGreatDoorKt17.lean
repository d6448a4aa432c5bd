/-
  SmA, SmB, CmM, EngR, EngQ, SmL, put together.
  Conditions: none; each part tells its own.
-/
import Derived.Test.YteligkemohngiaaGreatDoorKt13
import Derived.Test.YteligkemohngiaaGreatDoorKt15
import Derived.Test.YteligkemohngiaaGreatDoorKt16
import Derived.Test.YteligkemohngiaaGreatDoorKt12
import Derived.Test.YteligkemohngiaaGreatDoorKt11
import Derived.Test.YteligkemohngiaaGreatDoorKt10
import Derived.Test.YteligkemohngiaaGreatDoorKt9
import Derived.Test.YteligkemohngiaaGreatDoorKt8
import Derived.Test.YteligkemohngiaaGreatDoorKt7
import Derived.OpenShut
import Derived.LaidLaws
import GoSem.ClaimJoined
import Derived.WalkKit
import Derived.ProofKit
import Derived.ShutString
import Derived.ChangeOld
import Derived.Below
import Derived.Test.YteligkemohngiaaGreatDoorRows
import Derived.MakeChecks
/-
  SUMS: the calls of the law: awake, wide, Build, Parse of a sum, Same.
  Conditions: the program's variables hold what the row lists; the numbers are below 2^32.
-/
namespace Go.Proofs.YteligkemohngiaaGreatDoor
open Go Go.Eng
set_option linter.unusedVariables false
set_option maxRecDepth 100000
theorem mixed : Tryz.prog.follows .mixedOrders = true := by kernel_rfl
abbrev GlobA (φ : Snap) : Prop := ∀ S : Go.B.Sg, @Go.B.GlobB S Go.B.ls0 φ
theorem up_gk {φ ψ : Snap} (gk : GlobA φ) (hs : Sub φ ψ) : GlobA ψ := fun S => @Go.B.GlobB.up S _ _ _ (gk S) hs
abbrev AT : Type := Int × Int × Int × Int × Int × ByteArray × (Option Addr × Nat × Nat) × (Option Addr × Nat × Nat) × Int × Int × Unit
abbrev aggOf (a : AT) : Value := .agg #[(.int .i64 a.1), (.int .i64 a.2.1), (.int .i64 a.2.2.1), (.int .i64 a.2.2.2.1), (.int .i64 a.2.2.2.2.1), (.string a.2.2.2.2.2.1), (.slice a.2.2.2.2.2.2.1.1 a.2.2.2.2.2.2.1.2.1 a.2.2.2.2.2.2.1.2.2), (.slice a.2.2.2.2.2.2.2.1.1 a.2.2.2.2.2.2.2.1.2.1 a.2.2.2.2.2.2.2.1.2.2), (.int .i64 a.2.2.2.2.2.2.2.2.1), (.int .i64 a.2.2.2.2.2.2.2.2.2.1)]
abbrev cellsOf (a : AT) : List Value := [.int .i64 a.1, .int .i64 a.2.1, .int .i64 a.2.2.1, .int .i64 a.2.2.2.1, .int .i64 a.2.2.2.2.1, .string a.2.2.2.2.2.1, sv a.2.2.2.2.2.2.1, sv a.2.2.2.2.2.2.2.1, .int .i64 a.2.2.2.2.2.2.2.2.1, .int .i64 a.2.2.2.2.2.2.2.2.2.1]
abbrev QT : Type := Int × Int × Int × Int × Int × Int × Unit
abbrev quoV (q : QT) : Value := .agg #[(.int .i64 q.1), (.int .i64 q.2.1), (.int .i64 q.2.2.1), (.int .i64 q.2.2.2.1), (.int .i64 q.2.2.2.2.1), (.int .i64 q.2.2.2.2.2.1)]
abbrev wideT : QT := (2000, 300, 9000, 10000, 1000, 100000, ())
/-- A sum's answer. -/
abbrev sumT (t : List Nat) (v : Int) : AT := (6, 0, 0, 0, 0, Go.B.ofL t, (none, 0, 0), (none, 0, 0), 1, v, ())
theorem sums_all : ∀ k, k < 20 → Go.B.sumsAt k = true
  | 0, _ => Go.B.sums0
  | 1, _ => Go.B.sums1
  | 2, _ => Go.B.sums2
  | 3, _ => Go.B.sums3
  | 4, _ => Go.B.sums4
  | 5, _ => Go.B.sums5
  | 6, _ => Go.B.sums6
  | 7, _ => Go.B.sums7
  | 8, _ => Go.B.sums8
  | 9, _ => Go.B.sums9
  | 10, _ => Go.B.sums10
  | 11, _ => Go.B.sums11
  | 12, _ => Go.B.sums12
  | 13, _ => Go.B.sums13
  | 14, _ => Go.B.sums14
  | 15, _ => Go.B.sums15
  | 16, _ => Go.B.sums16
  | 17, _ => Go.B.sums17
  | 18, _ => Go.B.sums18
  | 19, _ => Go.B.sums19
  | k + 20, h => by omega
theorem tree_bytes : ∀ k, ∀ b ∈ Go.B.treeS k, b < 256
  | 0 => by decide
  | k + 1 => fun b hb => by
    unfold Go.B.treeS at hb
    simp only [List.mem_append] at hb
    rcases hb with (hb | hb) | hb
    · simp at hb; omega
    · exact tree_bytes k b hb
    · simp at hb; omega
section
variable (l : List Nat) (hf : Go.B.Few l)
theorem recOk : @Go.B.RecOk (Go.B.sgOf l hf) Tryz.prog Go.B.rec0 := @Go.B.rec0_ok (Go.B.sgOf l hf) (Go.B.ora_ok l hf)
variable {φ : Snap} {h : Heap} {F : List Chk}
theorem quo_rv [Go.B.Sg] {ρ : Go.B.Place} (q : QT) : Go.B.RV ρ (.agg [.int .i64 q.1, .int .i64 q.2.1, .int .i64 q.2.2.1, .int .i64 q.2.2.2.1, .int .i64 q.2.2.2.2.1, .int .i64 q.2.2.2.2.2.1]) (quoV q) :=
  .agg (.cons (.int _ _) (.cons (.int _ _) (.cons (.int _ _) (.cons (.int _ _) (.cons (.int _ _) (.cons (.int _ _) .nil)))))) (fun a ha => by simp at ha; rcases ha with rfl | rfl | rfl | rfl | rfl | rfl <;> rfl)
theorem rv_sl [Go.B.Sg] {ρ : Go.B.Place} {a : Go.B.AV} {v : Value} (hs : Go.B.isSl a = true) (h : Go.B.RV ρ a v) : ∃ t : Slc, v = .slice t.1 t.2.1 t.2.2 := by
  cases h <;> first | exact ⟨(_, _, _), rfl⟩ | cases hs
theorem rv_txt [Go.B.Sg] {ρ : Go.B.Place} {t : List Nat} {v : Value} (h : Go.B.RV ρ (.str t) v) : ∃ s : ByteArray, v = .string s ∧ Go.B.strL s = t := by
  cases h with
  | str e => exact ⟨_, rfl, e⟩
theorem rvs6 [Go.B.Sg] {ρ : Go.B.Place} {a b c d e f : Go.B.AV} {xs : List Value} (h1 : Go.B.RVs ρ [a, b, c, d, e, f] xs) : ∃ u1 u2 u3 u4 u5 u6, xs = [u1, u2, u3, u4, u5, u6] ∧ Go.B.RV ρ a u1 ∧ Go.B.RV ρ b u2 ∧ Go.B.RV ρ c u3 ∧ Go.B.RV ρ d u4 ∧ Go.B.RV ρ e u5 ∧ Go.B.RV ρ f u6 := by
  cases h1 with
  | cons a1 h1 => cases h1 with
  | cons a2 h1 => cases h1 with
  | cons a3 h1 => cases h1 with
  | cons a4 h1 => cases h1 with
  | cons a5 h1 => cases h1 with
  | cons a6 h1 => cases h1; exact ⟨_, _, _, _, _, _, rfl, a1, a2, a3, a4, a5, a6⟩
theorem rvs10 [Go.B.Sg] {ρ : Go.B.Place} {a b c d e f g i j k : Go.B.AV} {xs : List Value} (h1 : Go.B.RVs ρ [a, b, c, d, e, f, g, i, j, k] xs) : ∃ u1 u2 u3 u4 u5 u6 u7 u8 u9 u10, xs = [u1, u2, u3, u4, u5, u6, u7, u8, u9, u10] ∧ Go.B.RV ρ a u1 ∧ Go.B.RV ρ b u2 ∧ Go.B.RV ρ c u3 ∧ Go.B.RV ρ d u4 ∧ Go.B.RV ρ e u5 ∧ Go.B.RV ρ f u6 ∧ Go.B.RV ρ g u7 ∧ Go.B.RV ρ i u8 ∧ Go.B.RV ρ j u9 ∧ Go.B.RV ρ k u10 := by
  cases h1 with
  | cons a1 h1 => cases h1 with
  | cons a2 h1 => cases h1 with
  | cons a3 h1 => cases h1 with
  | cons a4 h1 =>
    obtain ⟨_, _, _, _, _, _, rfl, b1, b2, b3, b4, b5, b6⟩ := rvs6 h1
    exact ⟨_, _, _, _, _, _, _, _, _, _, rfl, a1, a2, a3, a4, b1, b2, b3, b4, b5, b6⟩
theorem rv_sum {ρ : Go.B.Place} {k : Nat} {v : Value} (h : @Go.B.RV (Go.B.sgOf l hf) ρ (Go.B.ansA k) v) : v = aggOf (sumT (Go.B.treeS k) (Go.B.sumB l k)) := by
  letI : Go.B.Sg := Go.B.sgOf l hf
  unfold Go.B.ansA at h
  obtain ⟨x, rfl, h1⟩ := Go.B.rv_agg h
  obtain ⟨u1, u2, u3, u4, u5, u6, u7, u8, u9, u10, rfl, a1, a2, a3, a4, a5, a6, a7, a8, a9, a10⟩ := rvs10 h1
  cases a1
  cases a2
  cases a3
  cases a4
  cases a5
  obtain ⟨s, rfl, hs⟩ := rv_txt a6
  cases a7
  cases a8
  cases a9
  cases a10
  have e2 : Go.B.strL (Go.B.ofL (Go.B.treeS k)) = Go.B.treeS k := Go.B.strL_ofL (tree_bytes k)
  have : s = Go.B.ofL (Go.B.treeS k) := Go.B.strL_inj' (hs.trans e2.symm)
  subst this
  rw [show Go.B.Sg.int (8 * k + 3) = Go.B.intS l (8 * k + 3) from rfl, Go.B.int_sum]
/-! ## the calls -/
include hf in
theorem aw_sim (gk : GlobA φ) (s0 : St φ F h) : CallsH Tryz.prog 5 [] h (Back fun v h' => v = .bool true ∧ ∃ ψ, Sub φ ψ ∧ St ψ F h') := by
  letI : Go.B.Sg := Go.B.sgOf l hf
  obtain ⟨A', h0⟩ := Go.B.isB_ok Go.B.said
  refine (Go.B.made (recOk l hf) (by decide) h0 ⟨_, Tryz.func5, by kernel_rfl⟩ (vs := []) .nil (gk _) s0).mono fun e h' ⟨v, ψ, ρ', he, hs, st, hr, _⟩ => ?_
  cases hr
  exact ⟨_, he, rfl, ψ, hs, st⟩
include hf in
theorem texts_sim (gk : GlobA φ) (s0 : St φ F h) : CallsH Tryz.prog 18 [.slice none 0 0, .slice none 0 0] h (Back fun v h' => v = .bool true ∧ ∃ ψ, Sub φ ψ ∧ St ψ F h') := by
  letI : Go.B.Sg := Go.B.sgOf l hf
  obtain ⟨A', h0⟩ := Go.B.isB_ok Go.B.saidT
  refine (Go.B.made (recOk l hf) (by decide) h0 ⟨_, Tryz.func18, by kernel_rfl⟩ (vs := [.slice none 0 0, .slice none 0 0]) (.cons .nils (.cons .nils .nil)) (gk _) s0).mono fun e h' ⟨v, ψ, ρ', he, hs, st, hr, _⟩ => ?_
  cases hr
  exact ⟨_, he, rfl, ψ, hs, st⟩
include hf in
theorem clash_sim (gk : GlobA φ) (s0 : St φ F h) : CallsH Tryz.prog 19 [.slice none 0 0, .slice none 0 0] h (Back fun v h' => v = .bool true ∧ ∃ ψ, Sub φ ψ ∧ St ψ F h') := by
  letI : Go.B.Sg := Go.B.sgOf l hf
  obtain ⟨A', h0⟩ := Go.B.isB_ok Go.B.saidC
  refine (Go.B.made (recOk l hf) (by decide) h0 ⟨_, Tryz.func19, by kernel_rfl⟩ (vs := [.slice none 0 0, .slice none 0 0]) (.cons .nils (.cons .nils .nil)) (gk _) s0).mono fun e h' ⟨v, ψ, ρ', he, hs, st, hr, _⟩ => ?_
  cases hr
  exact ⟨_, he, rfl, ψ, hs, st⟩
include hf in
theorem wide_sim (gk : GlobA φ) (s0 : St φ F h) : CallsH Tryz.prog 7 [] h (Back fun v h' => v = quoV wideT ∧ ∃ ψ, Sub φ ψ ∧ St ψ F h') := by
  letI : Go.B.Sg := Go.B.sgOf l hf
  obtain ⟨A', h0⟩ := Go.B.isWide_ok Go.B.saidW
  refine (Go.B.made (recOk l hf) (by decide) h0 ⟨_, Tryz.func7, by kernel_rfl⟩ (vs := []) .nil (gk _) s0).mono fun e h' ⟨v, ψ, ρ', he, hs, st, hr, _⟩ => ?_
  refine ⟨_, he, ?_, ψ, hs, st⟩
  unfold Go.B.wideA at hr
  obtain ⟨x, rfl, h1⟩ := Go.B.rv_agg hr
  obtain ⟨u1, u2, u3, u4, u5, u6, rfl, a1, a2, a3, a4, a5, a6⟩ := rvs6 h1
  cases a1
  cases a2
  cases a3
  cases a4
  cases a5
  cases a6
  rfl
/-- The grammar of sums, built. -/
def UnitOk (ψ : Snap) (u : Addr) : Prop := ∃ ρ : Go.B.Place, @Go.B.MadeB (Go.B.sgOf l hf) Go.B.litA ψ ρ ∧ @Go.B.RV (Go.B.sgOf l hf) ρ Go.B.litU (.pointer (some u))
theorem UnitOk.up {φ ψ : Snap} {u : Addr} (hu : UnitOk l hf φ u) (hs : Sub φ ψ) : UnitOk l hf ψ u := by
  obtain ⟨ρ, h1, h2⟩ := hu
  exact ⟨ρ, @Go.B.MadeB.up (Go.B.sgOf l hf) _ _ _ _ h1 hs, h2⟩
abbrev sumS : ByteArray := ⟨#[37, 116, 111, 107, 101, 110, 32, 78, 32, 91, 48, 45, 57, 93, 43, 32, 37, 116, 111, 107, 101, 110, 32, 80, 32, 34, 43, 34, 32, 37, 108, 101, 102, 116, 32, 80, 32, 37, 37, 32, 69, 32, 58, 32, 69, 32, 80, 32, 69, 32, 123, 36, 49, 32, 43, 32, 36, 51, 125, 32, 124, 32, 78, 32, 59]⟩
theorem litU_is : Go.B.litU = .ptr (Go.B.litP Go.B.litU) (Go.B.litO Go.B.litU) := by rfl
theorem build_sim (gk : GlobA φ) (s0 : St φ F h) : CallsH Tryz.prog 6 [.string sumS, quoV wideT] h (Back fun v h' => ∃ (u : Addr) (x : AT) (ψ : Snap), v = .tuple #[.pointer (some u), aggOf x] ∧ Sub φ ψ ∧ UnitOk l hf ψ u ∧ St ψ F h') := by
  letI : Go.B.Sg := Go.B.sgOf l hf
  obtain ⟨a, b, c, d, e, f, s, t, g, j, A, h0, hs, ht, hp⟩ := Go.B.chkU_ok Go.B.saidU
  refine (Go.B.made (recOk l hf) (by decide) h0 ⟨_, Tryz.func6, by kernel_rfl⟩ (vs := [.string sumS, quoV wideT]) (.cons (.str rfl) (.cons (quo_rv wideT) .nil)) (gk _) s0).mono fun e2 h' ⟨v, ψ, ρ', he, hs2, st, hr, hm⟩ => ?_
  cases hr with
  | @tup _ x h1 =>
  obtain ⟨x⟩ := x
  obtain ⟨v1, v2, hx, r1, r2⟩ := Go.B.rvs2 h1
  cases hx
  obtain ⟨y, rfl, r3⟩ := Go.B.rv_agg r2
  obtain ⟨u1, u2, u3, u4, u5, u6, u7, u8, u9, u10, rfl, a1, a2, a3, a4, a5, a6, a7, a8, a9, a10⟩ := rvs10 r3
  cases a1
  cases a2
  cases a3
  cases a4
  cases a5
  obtain ⟨z, rfl, _⟩ := rv_txt a6
  obtain ⟨t7, rfl⟩ := rv_sl hs a7
  obtain ⟨t8, rfl⟩ := rv_sl ht a8
  cases a9
  cases a10
  cases r1 with
  | @ptr _ p o hp1 =>
  refine ⟨_, he, ⟨p.b, p.off + Go.B.litO Go.B.litU, none⟩, (a, b, c, d, e, z, t7, t8, g, j, ()), ψ, rfl, hs2, ⟨Go.B.keepR Go.B.litI ρ', hm.part Go.B.litI Go.B.lit64 Go.B.litLt Go.B.litLe hp, ?_⟩, st⟩
  rw [litU_is]
  exact (Go.B.RV.ptr _ hp1).keepR Go.B.litPin
theorem parse_sim {u : Addr} (hu : UnitOk l hf φ u) {k : Nat} (hk : k < 20) (s0 : St φ F h) : CallsH Tryz.prog 8 [.pointer (some u), .string (Go.B.ofL (Go.B.textB l (2 * k + 1))), quoV wideT] h (Back fun v h' => v = aggOf (sumT (Go.B.treeS k) (Go.B.sumB l k)) ∧ St φ F h') := by
  letI : Go.B.Sg := Go.B.sgOf l hf
  obtain ⟨ρ, hm, hr⟩ := hu
  obtain ⟨A', h0⟩ := Go.B.isSum_ok (sums_all k hk)
  have h4 : Go.B.RV ρ (.symS (4 * (2 * k + 1))) (.string (Go.B.ofL (Go.B.textB l (2 * k + 1)))) := by
    have := Go.B.RV.symS (ρ := ρ) (4 * (2 * k + 1))
    rw [show Go.B.Sg.str (4 * (2 * k + 1)) = Go.B.strS l (4 * (2 * k + 1)) from rfl] at this
    unfold Go.B.strS at this
    rw [if_pos (by omega), show 4 * (2 * k + 1) / 4 = 2 * k + 1 by omega] at this
    exact this
  exact (Go.B.usedB (recOk l hf) hm h0 ⟨_, Tryz.func8, by kernel_rfl⟩ (vs := [.pointer (some u), .string (Go.B.ofL (Go.B.textB l (2 * k + 1))), quoV wideT]) (.cons hr (.cons h4 (.cons (quo_rv wideT) .nil))) s0).mono fun e h' ⟨v, ρ', he, st, hr'⟩ => ⟨_, he, rv_sum l hf hr', st⟩
end
end Go.Proofs.YteligkemohngiaaGreatDoor

/-
  SUMS: the law: Same, digits, the text and the tree, all joined.
  Conditions: the program's variables hold what the row lists; the numbers are below 2^32.
-/
namespace Go.Proofs.YteligkemohngiaaGreatDoor
open Go Go.Eng
set_option linter.unusedVariables false
set_option maxRecDepth 100000
open Go.B (ofL dig textB treeS tok sumB Few)
/-! ## plain -/
theorem ofL_app (a b : List Nat) : ofL a ++ ofL b = ofL (a ++ b) := by
  have h : (ofL a ++ ofL b).data.toList = (ofL (a ++ b)).data.toList := by
    rw [ByteArray.data_append, Array.toList_append, Go.B.ofL_list, Go.B.ofL_list, Go.B.ofL_list, List.map_append]
  cases h1 : ofL a ++ ofL b
  cases h2 : ofL (a ++ b)
  rw [h1, h2] at h
  congr 1
  exact Array.toList_inj.1 h
theorem dig_step (r : Nat) : dig r = (if r / 10 = 0 then [] else dig (r / 10)) ++ [48 + r % 10] := by
  by_cases h : r < 10
  · rw [Go.B.dig_small h, if_pos (by omega), show r % 10 = r by omega]
    rfl
  · rw [Go.B.dig_big h, if_neg (by omega)]
theorem dig_cut (d : Nat) (h : d < 10) : ByteArray.extract ⟨#[48, 49, 50, 51, 52, 53, 54, 55, 56, 57]⟩ d (d + 1) = ofL [48 + d] := by
  have : ∀ d : Fin 10, ByteArray.extract ⟨#[48, 49, 50, 51, 52, 53, 54, 55, 56, 57]⟩ d.val (d.val + 1) = ofL [48 + d.val] := by decide +kernel
  exact this ⟨d, h⟩
theorem tree_len (k : Nat) : (treeS k).length = 5 + 12 * k := by
  induction k with
  | zero => rfl
  | succ k ih =>
    unfold treeS
    simp only [List.length_append, ih, List.length_cons, List.length_nil]
    omega
theorem ofL_nil (l : List Nat) : (ByteArray.toList (ofL l) == ByteArray.toList ⟨#[]⟩) = decide (l = []) := by
  rw [ByteArray.toList_eq, ByteArray.toList_eq, Go.B.ofL_list]
  cases l with
  | nil => rfl
  | cons x l => rfl
def textN (l : List Nat) : Nat → List Nat
  | 0 => []
  | i + 1 => textB l (2 * i + 1)
def sumN (l : List Nat) : Nat → Int
  | 0 => 0
  | i + 1 => sumB l i
theorem text_step (l : List Nat) (i : Nat) : textB l (2 * i) ++ dig (l.getD i 0) = textN l (i + 1) := by
  show _ = textB l (2 * i) ++ tok l (2 * i)
  rw [Go.B.tok_even l (by omega), show 2 * i / 2 = i by omega]
theorem text_plus (l : List Nat) (i : Nat) : textN l (i + 1) ++ [43] = textB l (2 * (i + 1)) := by
  show textB l (2 * i + 1) ++ [43] = textB l (2 * i + 1) ++ tok l (2 * i + 1)
  rw [Go.B.tok_odd l (by omega)]
theorem sum_step (l : List Nat) (hf : Few l) (i : Nat) : IntKind.wrap .i64 (sumN l i + (l.getD i 0 : Nat)) = sumN l (i + 1) := by
  cases i with
  | zero =>
    show IntKind.wrap .i64 (0 + (l.getD 0 0 : Nat)) = ((l.getD 0 0 : Nat) : Int)
    have := Go.B.few_at hf 0
    rw [Go.B.wrap_small (by omega) (by omega), Int.zero_add]
  | succ i => rfl
abbrev ST : Type := Int × ByteArray × Int × ByteArray × Unit
abbrev stN (l : List Nat) (i : Nat) : ST := (((i : Nat) : Int), ofL (treeS (i - 1)), sumN l i, ofL (textN l i), ())
section
variable (l : List Nat) (hf : Few l)
variable {φ : Snap} {h : Heap} {F : List Chk}
include hf in
theorem same_sim (gk : GlobA φ) (t : List Nat) (v : Int) (s0 : St φ F h) : CallsH Tryz.prog 9 [aggOf (sumT t v), aggOf (sumT t v)] h (Back fun r h' => r = .bool true ∧ ∃ ψ, Sub φ ψ ∧ St ψ F h') := by
  refine calls_den mixed Tryz.func9 (tronageref23_Same_den (sumT t v) (sumT t v)) ?_
  refine s_new (vs := cellsOf (sumT t v)) s0 fun r1 g1 s1 => ?_
  refine s_new (vs := cellsOf (sumT t v)) s1 fun r2 g2 s2 => ?_
  refine s_join (fun (y : Bool × Unit) w (_ : Unit) => y.1 = true ∧ ∃ ψ, Sub φ ψ ∧ St ψ (cW 33 r2 (cellsOf (sumT t v)) :: cW 33 r1 (cellsOf (sumT t v)) :: F) w) (g := ()) ?_ ?_
  · refine s_loadR (x := (6 : Int)) s2.at1 rfl (s_loadR (x := (6 : Int)) s2 rfl (t_true rfl ?_))
    refine s_loadR (x := (0 : Int)) s2.at1 rfl (s_loadR (x := (0 : Int)) s2 rfl (t_true rfl ?_))
    refine s_loadR (x := (0 : Int)) s2.at1 rfl (s_loadR (x := (0 : Int)) s2.at1 rfl (s_loadR (x := (0 : Int)) s2 rfl (s_loadR (x := (0 : Int)) s2 rfl (t_true rfl ?_))))
    refine s_loadR (x := (0 : Int)) s2.at1 rfl (s_loadR (x := (0 : Int)) s2 rfl (t_true rfl ?_))
    refine s_loadR (x := ofL t) s2.at1 rfl (s_loadR (x := ofL t) s2 rfl (t_true (beq_self_eq_true _) ?_))
    refine s_loadR (x := (1 : Int)) s2.at1 rfl (s_loadR (x := v) s2.at1 rfl (s_loadR (x := (1 : Int)) s2 rfl (s_loadR (x := v) s2 rfl (t_true (by simp) ?_))))
    refine s_loadR (x := (none, 0, 0)) s2.at1 rfl (s_loadR (x := (none, 0, 0)) s2 rfl ?_)
    refine s_call (texts_sim l hf gk s2) ?_
    rintro _ g3 ⟨rfl, ψ1, le1, s3⟩
    refine ⟨true, rfl, t_true rfl ?_⟩
    refine s_loadR (x := (none, 0, 0)) s3.at1 rfl (s_loadR (x := (none, 0, 0)) s3 rfl ?_)
    refine s_call (clash_sim l hf (up_gk gk le1) s3) ?_
    rintro _ g4 ⟨rfl, ψ2, le2, s4⟩
    refine ⟨true, rfl, ?_⟩
    exact s_out (true, ()) rfl ⟨rfl, ψ2, le1.trans le2, s4⟩
  rintro ⟨z, _⟩ w ⟨hz, ψ, le, s5⟩
  have hz : z = true := hz
  subst hz
  exact finOf_back ⟨rfl, ψ, le, s5.tail.tail⟩
include hf in
set_option maxHeartbeats 2000000 in
theorem sums_sim (gk : GlobA φ) {p : Option Addr} {n c : Nat} (hc : CellsS φ p (l.map fun (x : Nat) => Value.int .u32 (x : Int))) (hn : l.length = n) (s0 : St φ F h) : CallsH Tryz.prog 3 [.slice p n c] h (Back fun v h' => ∃ ψ : Snap, ∃ y : Bool, Sub φ ψ ∧ v = ((.one (.atom .bool)) : Sh).val y ∧ y = true ∧ St ψ F h') := by
  refine calls_den mixed Tryz.func3 (tronagelaw24_ParseSums_den p n c) ?_
  refine s_call (aw_sim l hf gk s0) ?_
  rintro _ g1 ⟨rfl, ψ1, le1, s1⟩
  refine ⟨true, rfl, ?_⟩
  refine s_join (fun (y : Bool × Unit) w (_ : Unit) => (y.1 = false → 1 ≤ n ∧ n ≤ 20) ∧ w = g1) (g := ()) (t_cond (fun _ => s_out (true, ()) rfl ⟨fun e => (by cases e), rfl⟩) fun h1 => s_out (decide ((n : Int) > (20 : Int)), ()) rfl ⟨fun e => ⟨by have := of_decide_eq_false h1; omega, by have := of_decide_eq_false e; omega⟩, rfl⟩) ?_
  rintro ⟨z, _⟩ _ ⟨hz, rfl⟩
  refine t_cond (fun _ => finOf_back ⟨ψ1, true, le1, rfl, rfl, s1⟩) fun hz' => ?_
  obtain ⟨hn1, hn2⟩ := hz hz'
  clear hz hz'
  refine s_call (wide_sim l hf (up_gk gk le1) s1) ?_
  rintro _ g2 ⟨rfl, ψ2, le2, s2⟩
  refine ⟨wideT, rfl, ?_⟩
  have le12 := le1.trans le2
  refine s_call (build_sim l hf (up_gk gk le12) s2) ?_
  rintro _ g3 ⟨u, x, ψ3, rfl, le3, uo, s3⟩
  refine ⟨(some u, x, ()), rfl, ?_⟩
  have le13 := le12.trans le3
  refine s_new (vs := cellsOf (0, 0, 0, 0, 0, ⟨#[]⟩, (none, 0, 0), (none, 0, 0), 0, 0, ())) s3 fun r5 g4 s4 => ?_
  refine s_put s4 rfl (by simp) fun w1 t1 => ?_
  iterate 9 refine s_put t1 rfl (by simp) fun w1 t1 => ?_
  have s5 : St ψ3 (cW 33 r5 (cellsOf x) :: F) w1 := t1
  clear t1
  refine t_false rfl ?_
  have hc1 : ∀ (i : Nat) (v : Value), (l.map fun (x : Nat) => Value.int .u32 (x : Int))[i]? = some v → ∃ a, p = some a ∧ cellH w1 (a.add i) = some v := fun i v hv => by
    obtain ⟨a, ha, hb⟩ := hc i v hv
    exact ⟨a, ha, cellS_heap s5.sub (cellS_mono le13 hb)⟩
  have hmax : IntKind.max .i64 = 9223372036854775807 := rfl
  refine s_block (fun (y : ST) w (_ : Unit) => w1 = w ∧ y = stN l n) (g := ()) ?_ ?_
  · refine t_loop (fun (y : ST) w => w1 = w ∧ ∃ i : Nat, i ≤ n ∧ y = stN l i) (fun y _ => n - y.1.toNat) (stN l 0) rfl ⟨rfl, 0, Nat.zero_le _, rfl⟩ ?_
    rintro _ _ ⟨rfl, i, hi, rfl⟩
    refine t_cond (fun hlt => ?_) fun hge => ?_
    · have hlt : i < n := by
        have : ((i : Nat) : Int) < ((n : Nat) : Int) := of_decide_eq_true hlt
        omega
      have hpi := Go.B.posB_max hf (2 * i)
      have hlen : (textB l (2 * i)).length ≤ 400 := by show Go.B.posB l (2 * i) ≤ 400; omega
      refine s_join (fun (y : ByteArray × ByteArray × Unit) w' (_ : Unit) => w1 = w' ∧ y = (ofL (treeS i), ofL (textB l (2 * i)), ())) (g := ()) ?_ ?_
      · refine t_cond (fun hpos => ?_) fun hzero => ?_
        · obtain ⟨j, rfl⟩ : ∃ j, i = j + 1 := ⟨i - 1, by
            have : ((i : Nat) : Int) > 0 := of_decide_eq_true hpos
            omega⟩
          have e1 : ofL (textN l (j + 1)) ++ ⟨#[43]⟩ = ofL (textB l (2 * (j + 1))) := by
            rw [show (⟨#[43]⟩ : ByteArray) = ofL [43] from rfl, ofL_app, text_plus]
          have e2 : (⟨#[40, 69, 32]⟩ : ByteArray) ++ ofL (treeS j) = ofL ([40, 69, 32] ++ treeS j) := by
            rw [show (⟨#[40, 69, 32]⟩ : ByteArray) = ofL [40, 69, 32] from rfl, ofL_app]
          have e3 : (⟨#[40, 69, 32]⟩ : ByteArray) ++ ofL (treeS j) ++ ⟨#[32, 80, 32, 40, 69, 32, 78, 41, 41]⟩ = ofL (treeS (j + 1)) := by
            rw [e2, show (⟨#[32, 80, 32, 40, 69, 32, 78, 41, 41]⟩ : ByteArray) = ofL [32, 80, 32, 40, 69, 32, 78, 41, 41] from rfl, ofL_app]
            rfl
          have z1 : (ofL (textN l (j + 1))).size ≤ 400 := by
            rw [Go.B.ofL_size]
            have := congrArg List.length (text_plus l j)
            rw [List.length_append] at this
            omega
          have z2 : (ofL (treeS j)).size = 5 + 12 * j := by rw [Go.B.ofL_size, tree_len]
          have z3 : ((⟨#[40, 69, 32]⟩ : ByteArray) ++ ofL (treeS j)).size = 8 + 12 * j := by
            rw [e2, Go.B.ofL_size, List.length_append, tree_len]
            simp only [List.length_cons, List.length_nil]
            omega
          refine t_chk (show (((ofL (textN l (j + 1))).size + 1 : Nat) : Int) ≤ IntKind.max .i64 by omega) ?_
          refine t_chk (show ((3 + (ofL (treeS j)).size : Nat) : Int) ≤ IntKind.max .i64 by omega) ?_
          refine t_chk (show ((((⟨#[40, 69, 32]⟩ : ByteArray) ++ ofL (treeS j)).size + 9 : Nat) : Int) ≤ IntKind.max .i64 by omega) ?_
          exact s_out (_, _, ()) rfl ⟨rfl, by rw [← e1, ← e3]; rfl⟩
        · have : i = 0 := by
            have : ¬ ((i : Nat) : Int) > 0 := of_decide_eq_false hzero
            omega
          subst this
          exact s_out (_, _, ()) rfl ⟨rfl, rfl⟩
      rintro _ _ ⟨rfl, rfl⟩
      have hli : l[i]? = some (l.getD i 0) := by
        rw [List.getD_eq_getElem?_getD, List.getElem?_eq_getElem (by omega)]
        rfl
      have hx := Go.B.few_at hf i
      have hmap : (l.map fun (x : Nat) => Value.int .u32 (x : Int))[i]? = some (.int .u32 ((l.getD i 0 : Nat) : Int)) := by rw [List.getElem?_map, hli]; rfl
      have e4 := text_step l i
      have e5 := sum_step l hf i
      generalize l.getD i 0 = x at hx hmap e4 e5
      obtain ⟨a, ha, hcell⟩ := hc1 i _ hmap
      refine t_deref a ha ?_
      refine t_chk ⟨by show (0 : Int) ≤ ((i : Nat) : Int); omega, by show ((i : Nat) : Int) < ((n : Nat) : Int); omega⟩ ?_
      refine s_load (x := (x : Int)) (by rw [show (Int.toNat ((i : Nat) : Int) * 1) = i by simp]; exact hcell) rfl ?_
      have hwx : IntKind.wrap .i64 (x : Int) = (x : Int) := Go.B.wrap_small (by omega) (by omega)
      have hdl : (dig x).length ≤ 10 := Go.B.dig_len x 9 (Nat.lt_of_lt_of_le hx (by decide))
      refine s_block (fun (y : Int × ByteArray × Unit) w' (_ : Unit) => w1 = w' ∧ y.2.1 = ofL (dig x)) (g := ()) ?_ ?_
      · refine t_loop (fun (y : Int × ByteArray × Unit) w' => w1 = w' ∧ ∃ (r : Nat) (sl : List Nat), y = ((r : Int), ofL sl, ()) ∧ r ≤ x ∧ ((sl = [] ∧ r = x) ∨ (sl ≠ [] ∧ dig x = (if r = 0 then [] else dig r) ++ sl))) (fun y _ => 2 * y.1.toNat + (if y.2.1.size = 0 then 1 else 0)) ((x : Int), ofL [], ()) (by rw [hwx]; rfl) ⟨rfl, x, [], rfl, Nat.le_refl _, .inl ⟨rfl, rfl⟩⟩ ?_
        rintro _ _ ⟨rfl, r, sl, rfl, hrx, hs⟩
        refine s_join (fun (y : Bool × Unit) w'' (_ : Unit) => w1 = w'' ∧ y.1 = decide (0 < r ∨ sl = [])) (g := ()) ?_ ?_
        · refine t_cond (fun hp => ?_) fun hp => ?_
          · have : ((r : Nat) : Int) > 0 := of_decide_eq_true hp
            exact s_out (true, ()) rfl ⟨rfl, (decide_eq_true (.inl (by omega))).symm⟩
          · have : ¬ ((r : Nat) : Int) > 0 := of_decide_eq_false hp
            refine s_out (_, ()) rfl ⟨rfl, ?_⟩
            show (ByteArray.toList (ofL sl) == ByteArray.toList ⟨#[]⟩) = _
            rw [ofL_nil]
            have : ¬ 0 < r := by omega
            simp [this]
        rintro ⟨z, _⟩ _ ⟨rfl, hz⟩
        have hz : z = decide (0 < r ∨ sl = []) := hz
        subst hz
        refine t_cond (fun hgo => ?_) fun hno => ?_
        · have hgo : 0 < r ∨ sl = [] := of_decide_eq_true hgo
          have m1 : Int.tmod (r : Int) 10 = ((r % 10 : Nat) : Int) := by rw [Int.tmod_eq_emod_of_nonneg (by omega)]; omega
          have m2 : Int.tdiv (r : Int) 10 = ((r / 10 : Nat) : Int) := by rw [Int.tdiv_eq_ediv_of_nonneg (by omega)]; omega
          have m3 : IntKind.wrap .i64 (Int.tmod (r : Int) 10 + 1) = ((r % 10 + 1 : Nat) : Int) := by rw [m1, Go.B.wrap_small (by omega) (by omega)]; omega
          have m4 : IntKind.wrap .i64 (Int.tdiv (r : Int) 10) = ((r / 10 : Nat) : Int) := by rw [m2, Go.B.wrap_small (by omega) (by omega)]
          have m5 : ByteArray.extract ⟨#[48, 49, 50, 51, 52, 53, 54, 55, 56, 57]⟩ (Int.toNat (Int.tmod (r : Int) 10)) (Int.toNat (IntKind.wrap .i64 (Int.tmod (r : Int) 10 + 1))) ++ ofL sl = ofL ((48 + r % 10) :: sl) := by
            rw [m3, m1, Int.toNat_natCast, Int.toNat_natCast, dig_cut _ (Nat.mod_lt _ (by decide)), ofL_app]
            rfl
          have hsl : sl.length ≤ 10 := by
            rcases hs with ⟨h1, _⟩ | ⟨_, h1⟩
            · rw [h1]; exact Nat.zero_le _
            · have := congrArg List.length h1
              rw [List.length_append] at this
              omega
          have z5 : (ByteArray.extract ⟨#[48, 49, 50, 51, 52, 53, 54, 55, 56, 57]⟩ (Int.toNat (Int.tmod (r : Int) 10)) (Int.toNat (IntKind.wrap .i64 (Int.tmod (r : Int) 10 + 1)))).size + (ofL sl).size = sl.length + 1 := by
            rw [← ByteArray.size_append, m5, Go.B.ofL_size]
            rfl
          refine t_chk (by decide) (t_chk (by decide) ?_)
          refine t_chk ⟨by show (0 : Int) ≤ Int.tmod (r : Int) 10; omega, by show Int.tmod (r : Int) 10 ≤ IntKind.wrap .i64 (Int.tmod (r : Int) 10 + 1); omega, by
            show IntKind.wrap .i64 (Int.tmod (r : Int) 10 + 1) ≤ ((10 : Nat) : Int)
            have : r % 10 < 10 := Nat.mod_lt _ (by decide)
            omega⟩ ?_
          refine t_chk (by
            show ((_ + _ : Nat) : Int) ≤ IntKind.max .i64
            rw [z5]
            omega) (t_chk (by decide) ?_)
          refine loopQ_out (_, _, ()) rfl ⟨rfl, r / 10, (48 + r % 10) :: sl, ?_, by omega, .inr ⟨by simp, ?_⟩⟩ ?_
          · show (IntKind.wrap .i64 (Int.tdiv (r : Int) 10), _, ()) = _
            rw [m4]
            exact congrArg (fun b => (((r / 10 : Nat) : Int), b, ())) m5
          · rcases hs with ⟨rfl, rfl⟩ | ⟨h1, h2⟩
            · exact dig_step r
            · have hr0 : r ≠ 0 := fun e => by
                rcases hgo with g | g
                · omega
                · exact h1 g
              rw [h2, if_neg hr0, dig_step r, List.append_assoc]
              rfl
          · show 2 * (IntKind.wrap .i64 (Int.tdiv (r : Int) 10)).toNat + (if ByteArray.size _ = 0 then 1 else 0) < 2 * ((r : Nat) : Int).toNat + (if (ofL sl).size = 0 then 1 else 0)
            rw [m4, Int.toNat_natCast, Int.toNat_natCast]
            have z6 : (ByteArray.extract ⟨#[48, 49, 50, 51, 52, 53, 54, 55, 56, 57]⟩ (Int.toNat (Int.tmod (r : Int) 10)) (Int.toNat (IntKind.wrap .i64 (Int.tmod (r : Int) 10 + 1))) ++ ofL sl).size = sl.length + 1 := by rw [m5, Go.B.ofL_size]; rfl
            rw [if_neg (by
              show ¬ ByteArray.size (_ ++ _) = 0
              rw [z6]
              omega)]
            rcases hgo with g | g
            · omega
            · subst g
              rw [if_pos (by rfl)]
              omega
        · have hno : ¬ (0 < r ∨ sl = []) := of_decide_eq_false hno
          refine s_brk ?_
          unfold loopQ
          refine meetB_brk (_, _, ()) rfl ⟨rfl, ?_⟩
          show ofL sl = ofL (dig x)
          rcases hs with ⟨h1, _⟩ | ⟨_, h1⟩
          · exact (hno (.inr h1)).elim
          · rw [h1, if_pos (by omega)]
            rfl
      rintro ⟨y1, y2, _⟩ _ ⟨rfl, hy⟩
      have hy : y2 = ofL (dig x) := hy
      subst hy
      refine t_chk (by
        show (((ofL (textB l (2 * i))).size + (ofL (dig x)).size : Nat) : Int) ≤ IntKind.max .i64
        rw [Go.B.ofL_size, Go.B.ofL_size]
        omega) ?_
      refine loopQ_out (_, _, _, _, ()) rfl ⟨rfl, i + 1, by omega, ?_⟩ ?_
      · show (IntKind.wrap .i64 (((i : Nat) : Int) + 1), ofL (treeS i), IntKind.wrap .i64 (sumN l i + IntKind.wrap .i64 (x : Int)), ofL (textB l (2 * i)) ++ ofL (dig x), ()) = stN l (i + 1)
        rw [hwx, e5, ofL_app, e4, Go.B.wrap_small (by omega) (by omega)]
        rfl
      · show n - (IntKind.wrap .i64 (((i : Nat) : Int) + 1)).toNat < n - ((i : Nat) : Int).toNat
        rw [Go.B.wrap_small (by omega) (by omega)]
        omega
    · have : ¬ ((i : Nat) : Int) < ((n : Nat) : Int) := of_decide_eq_false hge
      have : i = n := by omega
      subst this
      refine s_brk ?_
      unfold loopQ
      exact meetB_brk (stN l i) rfl ⟨rfl, rfl⟩
  rintro _ _ ⟨rfl, rfl⟩
  obtain ⟨k, rfl⟩ : ∃ k, n = k + 1 := ⟨n - 1, by omega⟩
  refine s_call (wide_sim l hf (up_gk gk le13) s5) ?_
  rintro _ g6 ⟨rfl, ψ4, le4, s6⟩
  refine ⟨wideT, rfl, ?_⟩
  have le14 := le13.trans le4
  refine s_call (parse_sim l hf (UnitOk.up l hf uo le4) (k := k) (by omega) s6) ?_
  rintro _ g7 ⟨rfl, s7⟩
  refine ⟨sumT (treeS k) (sumB l k), rfl, ?_⟩
  refine s_new (vs := cellsOf (0, 0, 0, 0, 0, ⟨#[]⟩, (none, 0, 0), (none, 0, 0), 0, 0, ())) s7 fun r16 g8 s8 => ?_
  refine s_put s8 rfl (by simp) fun w2 t1 => ?_
  iterate 9 refine s_put t1 rfl (by simp) fun w2 t1 => ?_
  have s9 : St ψ4 (cW 33 r16 (cellsOf (sumT (treeS k) (sumB l k))) :: cW 33 r5 (cellsOf x) :: F) w2 := t1
  clear t1
  refine s_join (fun (y : Bool × Unit) w (_ : Unit) => y.1 = true ∧ ∃ ψ, Sub φ ψ ∧ St ψ F w) (g := ()) (t_true rfl ?_) ?_
  · refine s_loadR (x := (6 : Int)) s9 rfl ?_
    refine s_loadR (x := (0 : Int)) s9 rfl ?_
    refine s_loadR (x := (0 : Int)) s9 rfl ?_
    refine s_loadR (x := (0 : Int)) s9 rfl ?_
    refine s_loadR (x := (0 : Int)) s9 rfl ?_
    refine s_loadR (x := ofL (treeS k)) s9 rfl ?_
    refine s_loadR (x := (none, 0, 0)) s9 rfl ?_
    refine s_loadR (x := (none, 0, 0)) s9 rfl ?_
    refine s_loadR (x := (1 : Int)) s9 rfl ?_
    refine s_loadR (x := sumB l k) s9 rfl ?_
    refine s_call (same_sim l hf (up_gk gk le14) (treeS k) (sumB l k) s9) ?_
    rintro _ g9 ⟨rfl, ψ5, le5, s10⟩
    refine ⟨true, rfl, ?_⟩
    exact s_out (true, ()) rfl ⟨rfl, ψ5, le14.trans le5, s10.tail.tail⟩
  rintro ⟨z, _⟩ w ⟨hz, ψ, le, s11⟩
  have hz : z = true := hz
  subst hz
  exact finOf_back ⟨ψ, true, le, rfl, rfl, s11⟩
end
end Go.Proofs.YteligkemohngiaaGreatDoor

/-
  THE ABSTRACT MACHINE, PART MM: what a row lists of the program's variables, as abstract cells.
  Conditions: none; it speaks of any program.
-/
namespace Go.B
open Go Go.Eng
set_option maxRecDepth 100000
set_option linter.unusedVariables false
set_option linter.unusedSectionVars false
variable [Sg]
/-- pieces at their places, one behind the other -/
def joinA : Nat → List (Nat × List AV) → Option (List AV)
  | _, [] => some []
  | p, x :: r => bif x.1 == p then (joinA (p + x.2.length) r).map (x.2 ++ ·) else none
def all2 {α β : Type} (f : α → Option β) : List α → Option (List β)
  | [] => some []
  | a :: l => (f a).bind fun b => (all2 f l).map (b :: ·)
def arrA {α : Type} (sz : Nat) : Nat → List α → List ((Nat × Unit) × α)
  | _, [] => []
  | i, a :: l => ((i * sz, ()), a) :: arrA sz (i + 1) l
/-- A datum's cells. -/
def dA {H : Type} (P : Program) : Nat → TypeId → DataW H → Option (List AV)
  | 0, _, _ => none
  | n + 1, t, d => match P.underlying t, d with
    | some .bool, .lit (.bool b) => some [.bool b]
    | some (.int _), .lit (.int k z) => some [.int k z]
    | some .string, .lit (.string s) => some [.str (s.map (·.toNat))]
    | some (.array m e), .agg ds => (all2 (fun x => (dA P n e x.2).map fun l => (x.1.1, l)) (arrA (P.cellsOf e) 0 ds)).bind (joinA 0)
    | some (.struct fs), .agg ds => (all2 (fun (x : Field × DataW H) => (dA P n x.1.type x.2).map fun l => (x.1.offset, l)) (fs.toList.zip ds)).bind (joinA 0)
    | _, _ => none
/-- The cells from a place on. -/
def OkA (cs : List Value) (p : Nat) (l : List AV) : Prop := ∀ (j : Nat) a, l[j]? = some a → plainA a = true ∧ ∃ v, cs[p + j]? = some v ∧ ∀ ρ, RV ρ a v
theorem join_ok {cs : List Value} : ∀ {L : List (Nat × List AV)} {p : Nat} {m : List AV}, joinA p L = some m → (∀ x ∈ L, OkA cs x.1 x.2) → OkA cs p m := by
  intro L
  induction L with
  | nil => intro p m h _ j a ha; cases h; simp at ha
  | cons x L ih =>
    intro p m h hx
    unfold joinA at h
    cases hp : (x.1 == p) with
    | false => rw [hp] at h; cases h
    | true =>
      rw [hp, cond_true, Option.map_eq_some_iff] at h
      obtain ⟨m', h1, rfl⟩ := h
      have hp : x.1 = p := by simpa using hp
      subst hp
      have k1 := hx x (List.mem_cons_self ..)
      have k2 := ih h1 fun y hy => hx y (List.mem_cons_of_mem _ hy)
      intro j a ha
      rcases Nat.lt_or_ge j x.2.length with g | g
      · rw [List.getElem?_append_left g] at ha; exact k1 j a ha
      · rw [List.getElem?_append_right g] at ha
        have := k2 _ a ha
        rw [show x.1 + x.2.length + (j - x.2.length) = x.1 + j by omega] at this
        exact this
theorem all2_mem {α β : Type} {f : α → Option β} : ∀ {l : List α} {m : List β}, all2 f l = some m → ∀ b ∈ m, ∃ a ∈ l, f a = some b := by
  intro l
  induction l with
  | nil => intro m h b hb; cases h; cases hb
  | cons a l ih =>
    intro m h b hb
    unfold all2 at h
    rw [Option.bind_eq_some_iff] at h
    obtain ⟨c, h1, h2⟩ := h
    rw [Option.map_eq_some_iff] at h2
    obtain ⟨m', h3, rfl⟩ := h2
    rcases List.mem_cons.1 hb with rfl | hb
    · exact ⟨a, List.mem_cons_self .., h1⟩
    · obtain ⟨x, h4, h5⟩ := ih h3 b hb
      exact ⟨x, List.mem_cons_of_mem _ h4, h5⟩
theorem arr_mem {α : Type} {sz : Nat} : ∀ {l : List α} {i : Nat} {x : (Nat × Unit) × α}, x ∈ arrA sz i l → ∃ k, l[k]? = some x.2 ∧ x.1.1 = (i + k) * sz := by
  intro l
  induction l with
  | nil => intro i x h; cases h
  | cons a l ih =>
    intro i x h
    rcases List.mem_cons.1 h with rfl | h
    · exact ⟨0, rfl, rfl⟩
    · obtain ⟨k, h1, h2⟩ := ih h
      exact ⟨k + 1, by simpa using h1, by rw [h2]; congr 1; omega⟩
theorem OkA.up {cs : List Value} {o n : Nat} {l : List AV} (h : OkA ((cs.drop o).take n) 0 l) : OkA cs o l := fun j a ha => by
  obtain ⟨h1, v, h2, h3⟩ := h j a ha
  refine ⟨h1, v, ?_, h3⟩
  rw [Nat.zero_add, List.getElem?_take] at h2
  split at h2
  · rw [List.getElem?_drop] at h2; exact h2
  · cases h2
/-- What is read as a datum is its cells. -/
theorem dA_ok {H : Type} {enc : TypeId × Value → H} {P : Program} {w : World} {base : Nat} {sp : Nat → Bool} {held : Bool} : ∀ (n : Nat) (t : TypeId) (d : DataW H) (l : List AV), dA P n t d = some l → ∀ fuel cs p, DataW.trod enc P w base sp held fuel t cs = some (d, p) → OkA cs 0 l := by
  have one : ∀ {a : AV} {v : Value}, plainA a = true → (∀ ρ, RV ρ a v) → OkA [v] 0 [a] := fun {a v} h1 h2 j b hb => by
    cases j with
    | zero => simp at hb; subst hb; exact ⟨h1, v, rfl, h2⟩
    | succ j => simp at hb
  intro n
  induction n with
  | zero => intro t d l h; cases h
  | succ n ih =>
    intro t d l h fuel cs p ht
    unfold dA at h
    split at h
    · rename_i b hu
      cases h
      obtain ⟨b', rfl, hx⟩ := DataW.trod_bool hu ht
      cases hx
      exact one rfl fun ρ => .bool b
    · rename_i k0 k z hu
      cases h
      obtain ⟨z', rfl, hx, _⟩ := DataW.trod_int hu ht
      cases hx
      exact one rfl fun ρ => .int _ _
    · rename_i s hu
      cases h
      obtain ⟨s', rfl, hx, _⟩ := DataW.trod_string hu ht
      cases hx
      exact one rfl fun ρ => .str rfl
    · rename_i m e ds hu
      rw [Option.bind_eq_some_iff] at h
      obtain ⟨L, h1, h2⟩ := h
      obtain ⟨xs, m', rfl, hx, _, hlen, hel⟩ := DataW.trod_array hu ht
      refine join_ok h2 fun x hxm => ?_
      obtain ⟨y, hy, hf⟩ := all2_mem h1 x hxm
      rw [Option.map_eq_some_iff] at hf
      obtain ⟨l', h3, rfl⟩ := hf
      obtain ⟨k, h4, h5⟩ := arr_mem hy
      rw [Nat.zero_add] at h5
      simp only [Prod.mk.injEq, DataW.agg.injEq] at hx
      rw [hx.1, List.getElem?_map, Option.map_eq_some_iff] at h4
      obtain ⟨z, h6, h7⟩ := h4
      have hk : k < m := by
        rw [← hlen]
        rcases Nat.lt_or_ge k xs.length with g | g
        · exact g
        · rw [List.getElem?_eq_none g] at h6; cases h6
      have h8 := hel k hk
      rw [h6] at h8
      obtain ⟨z1, z2⟩ := z
      have h7 : z1 = y.2 := h7
      subst h7
      have := (ih _ _ _ h3 _ _ _ h8).up
      rw [← h5] at this
      exact this
    · rename_i fs ds hu
      rw [Option.bind_eq_some_iff] at h
      obtain ⟨L, h1, h2⟩ := h
      obtain ⟨xs, m', rfl, hx, _, hlen, hel⟩ := DataW.trod_struct hu ht
      refine join_ok h2 fun x hxm => ?_
      obtain ⟨y, hy, hf⟩ := all2_mem h1 x hxm
      rw [Option.map_eq_some_iff] at hf
      obtain ⟨l', h3, rfl⟩ := hf
      obtain ⟨k, hk⟩ := List.getElem?_of_mem hy
      rw [List.getElem?_zip_eq_some] at hk
      obtain ⟨h4, h5⟩ := hk
      simp only [Prod.mk.injEq, DataW.agg.injEq] at hx
      rw [hx.1, List.getElem?_map, Option.map_eq_some_iff] at h5
      obtain ⟨z, h6, h7⟩ := h5
      have h8 := hel k y.1 (by simpa using h4)
      rw [h6] at h8
      obtain ⟨z1, z2⟩ := z
      have h7 : z1 = y.2 := h7
      subst h7
      exact (ih _ _ _ h3 _ _ _ h8).up
    · cases h
/-- The variables' cells, as a row lists them. -/
def lsOf (P : Program) (laid : List (String × DataW Unit)) (m : Nat) : List (Option (List AV)) := (List.range m).map fun g => (laid.find? fun x => P.globalNamed x.1 == some g).bind fun x => ((P.globals[g]?).map (·.type)).bind fun t => dA P 5 t x.2
theorem laidVars_mem {P : Program} {w : World} {x : String × DataW Unit} : ∀ {laid : List (String × DataW Unit)} {ps : List MemPlace}, DataW.LaidVars P w laid ps → x ∈ laid → ∃ g t cs fuel p, P.globalNamed x.1 = some g ∧ (P.globals[g]?).map (·.type) = some t ∧ w.var? P x.1 = some cs ∧ DataW.trod (fun _ => ()) P w 0 (fun _ => true) false fuel t cs.toList = some (x.2, p) := by
  intro laid
  induction laid with
  | nil => intro ps _ h; cases h
  | cons y laid ih =>
    intro ps h hx
    obtain ⟨n, d⟩ := y
    obtain ⟨g, t, cs, fuel, p, q, h1, h2, h3, h4, h5, _⟩ := h
    rcases List.mem_cons.1 hx with rfl | hx
    · exact ⟨g, t, cs, fuel, p, h1, h2, h3, h4⟩
    · exact ih h5 hx
theorem laid_ok {P : Program} {laid : List (String × DataW Unit)} {w : World} (h : laidMet P laid w) {m : Nat} {ls : List (Option (List AV))} (hls : lsOf P laid m = ls) : ∀ (g : Nat) l, ls[g]? = some (some l) → Laid w.heap g l := by
  intro g l hg
  subst hls
  unfold lsOf at hg
  rw [List.getElem?_map, Option.map_eq_some_iff] at hg
  obtain ⟨g', hg', h1⟩ := hg
  have : g' = g := by
    rw [List.getElem?_range] at hg'
    · exact (Option.some.inj hg').symm
    · rcases Nat.lt_or_ge g m with k | k
      · exact k
      · rw [List.getElem?_eq_none (by simpa using k)] at hg'; cases hg'
  subst this
  rw [Option.bind_eq_some_iff] at h1
  obtain ⟨x, h2, h3⟩ := h1
  rw [Option.bind_eq_some_iff] at h3
  obtain ⟨t, h4, h5⟩ := h3
  have hn := List.find?_some h2
  have hn : P.globalNamed x.1 = some g' := by simpa using hn
  obtain ⟨ps, hv, _⟩ := h
  obtain ⟨g2, t2, cs, fuel, p, k1, k2, k3, k4⟩ := laidVars_mem hv (List.mem_of_find?_eq_some h2)
  rw [hn] at k1
  cases k1
  rw [h4] at k2
  cases k2
  have hok := dA_ok 5 t x.2 l h5 _ _ _ k4
  unfold World.var? at k3
  rw [hn, Option.bind_some] at k3
  have k3 : (match w.heap[g']? with | some (.cells cs _ _) => some cs | _ => none) = some cs := k3
  split at k3
  · rename_i c ty f hc
    cases k3
    refine ⟨_, ty, f, hc, fun j a ha => ?_⟩
    obtain ⟨q1, v, q2, q3⟩ := hok j a ha
    exact ⟨q1, v, by rw [Nat.zero_add] at q2; simpa using q2, q3⟩
  · cases k3
end Go.B

/-
  THE ENGINE, PART R: what a row's reading of an argument says of the heap; from a law's tree to the row's walk.
  Conditions: none; it speaks of any program.
-/
namespace Go.Eng
open Go Go.RowKit

/-- What can be read: the cells of a value of a type. -/
def Reads (P : Program) (h : Heap) : Nat → TypeId → List Value → Prop
  | 0, _, _ => False
  | n + 1, t, cs => match P.underlying t with
    | some .bool => ∃ b, cs = [.bool b]
    | some (.int k) => ∃ x, cs = [.int k x] ∧ (Lit.int k x).wf = true
    | some .string => ∃ s, cs = [.string s] ∧ s.size ≤ maxLen
    | some (.slice e) => ∃ p len cap, cs = [.slice p len cap] ∧ len ≤ cap ∧ cap ≤ maxLen ∧ (p = none → len = 0 ∧ cap = 0) ∧
        ∀ i, i < len → ∃ cs', cs'.length = P.cellsOf e ∧ (∀ j v, cs'[j]? = some v → ∃ a, p = some a ∧ cellH h (a.add (i * P.cellsOf e + j)) = some v) ∧ Reads P h n e cs'
    | some (.struct fs) => cs.length = P.cellsOf t ∧ ∀ f ∈ fs.toList, Reads P h n f.type ((cs.drop f.offset).take (P.cellsOf f.type))
    | _ => True

theorem mapM_some_mem {α β : Type} {f : α → Option β} : ∀ {l : List α} {r : List β}, l.mapM f = some r → ∀ a ∈ l, ∃ b, f a = some b := by
  intro l
  induction l with
  | nil => intro r _ a ha; cases ha
  | cons x l ih =>
    intro r h a ha
    rw [List.mapM_cons] at h
    cases hx : f x with
    | none => simp [hx] at h
    | some b =>
      cases hl : l.mapM f with
      | none => simp [hx, hl] at h
      | some bs =>
        rcases List.mem_cons.1 ha with rfl | ha
        · exact ⟨b, hx⟩
        · exact ih hl a ha

theorem reads_of_trod {H : Type} {enc : TypeId × Value → H} {P : Program} {w : World} {base : Nat} {spare : Nat → Bool} {held : Bool} : ∀ (fuel : Nat) (t : TypeId) (cs : List Value) (x : DataW H × List MemPlace),
    DataW.trod enc P w base spare held fuel t cs = some x → Reads P w.heap fuel t cs := by
  intro fuel
  induction fuel with
  | zero => intro t cs x h; simp [DataW.trod] at h
  | succ n ih =>
    intro t cs x h
    have h0 := h
    rw [DataW.trod_step] at h
    unfold DataW.trodStep at h
    unfold Reads
    split <;> rename_i hd <;> try trivial
    · rw [hd] at h
      split at h <;> first | cases h | skip
      all_goals rename_i h1; first | cases h1 | skip
      all_goals first | exact ⟨_, rfl⟩ | skip
    · rw [hd] at h
      split at h <;> first | cases h | skip
      all_goals rename_i h1; first | cases h1 | skip
      split at h
      · rename_i hk; obtain ⟨rfl, hw⟩ := hk; exact ⟨_, rfl, hw⟩
      · cases h
    · rw [hd] at h
      split at h <;> first | cases h | skip
      all_goals rename_i h1; first | cases h1 | skip
      split at h
      · rename_i hs; exact ⟨_, rfl, hs⟩
      · cases h
    · rename_i e
      rcases DataW.trod_slice hd h0 with ⟨rfl, _⟩ | ⟨a, len, cap, elems, rest, m, hm, rfl, _, _, hl, hc, hlen, hel, _⟩
      · exact ⟨none, 0, 0, rfl, Nat.le_refl _, Nat.zero_le _, fun _ => ⟨rfl, rfl⟩, fun i hi => by omega⟩
      · cases hm
        refine ⟨some a, len, cap, rfl, hl, hc, (fun h => by cases h), fun i hi => ?_⟩
        have h2 := hel i hi
        rw [List.getElem?_eq_getElem (by omega), Option.bind_eq_some_iff] at h2
        obtain ⟨cs', h3, h4⟩ := h2
        obtain ⟨_, h5, h6⟩ := World.cells?_some h3
        refine ⟨cs', h5, fun j v hj => ⟨a, rfl, ?_⟩, ih _ _ _ h4⟩
        have hjl : j < P.cellsOf e := by
          rcases Nat.lt_or_ge j cs'.length with g | g
          · omega
          · rw [List.getElem?_eq_none g] at hj; cases hj
        have := h6 j hjl
        rw [hj, add_add] at this
        exact this
    · rename_i fs
      rw [hd] at h
      dsimp only at h
      by_cases hlen : cs.length = P.cellsOf t
      · rw [if_pos hlen, Option.map_eq_some_iff] at h
        obtain ⟨xs, h2, _⟩ := h
        refine ⟨hlen, fun f hf => ?_⟩
        obtain ⟨y, hy⟩ := mapM_some_mem h2 f hf
        exact ih _ _ _ hy
      · rw [if_neg hlen] at h; cases h

theorem reads_of_Trod {H : Type} {enc : TypeId × Value → H} {P : Program} {w : World} {base : Nat} {spare : Nat → Bool} {held : Bool} {t : TypeId} {v : Value} {d : DataW H} {ps : List MemPlace}
    (h : DataW.Trod enc P w base spare held t v d ps) : ∃ n, Reads P w.heap n t v.cells.toList := by
  obtain ⟨fuel, hf⟩ := h
  exact ⟨fuel, reads_of_trod fuel t _ _ hf⟩

/-- What a law's call promises. -/
def Truth (h : Heap) (v : Value) (h' : Heap) : Prop := v = .bool true ∧ Keep [] h h'
theorem law_walk {P : Program} {f : FuncId} {args : Array Value} {w : World} (H : CallsH P f args.toList w.heap (Back (Truth w.heap))) :
    Calls P f args w fun e w' => e = .returned (.bool true) ∧ Below w.heap.size w w' := by
  have := H w rfl
  rw [Array.toArray_toList] at this
  refine this.mono fun e w' he => ?_
  obtain ⟨hs, he⟩ := he
  cases e with
  | returned v =>
    obtain ⟨v', hv, rfl, hk⟩ := he
    cases hv
    exact ⟨rfl, hs.os, hs.tape, hs.output, hk.1, fun k hk' => hk.2 k hk' (by simp)⟩
  | panicked c => obtain ⟨v', hv, _⟩ := he; cases hv
  | outgrown => exact he.elim

/-! ## what a reading gives, type by type -/
section
variable {P : Program} {h : Heap}
theorem reads_string {n : Nat} {t : TypeId} {cs : List Value} (ht : P.underlying t = some .string) (H : Reads P h n t cs) : ∃ s, cs = [.string s] ∧ s.size ≤ maxLen := by
  cases n with
  | zero => exact H.elim
  | succ n => unfold Reads at H; rw [ht] at H; exact H
theorem reads_int {n : Nat} {t : TypeId} {k : IntKind} {cs : List Value} (ht : P.underlying t = some (.int k)) (H : Reads P h n t cs) : ∃ x, cs = [.int k x] ∧ (Lit.int k x).wf = true := by
  cases n with
  | zero => exact H.elim
  | succ n => unfold Reads at H; rw [ht] at H; exact H
theorem reads_slice {n : Nat} {t e : TypeId} {cs : List Value} (ht : P.underlying t = some (.slice e)) (H : Reads P h n t cs) :
    ∃ m p len cap, cs = [.slice p len cap] ∧ len ≤ cap ∧ cap ≤ maxLen ∧ (p = none → len = 0 ∧ cap = 0) ∧
      ∀ i, i < len → ∃ cs', cs'.length = P.cellsOf e ∧ (∀ j v, cs'[j]? = some v → ∃ a, p = some a ∧ cellH h (a.add (i * P.cellsOf e + j)) = some v) ∧ Reads P h m e cs' := by
  cases n with
  | zero => exact H.elim
  | succ n =>
    unfold Reads at H
    rw [ht] at H
    obtain ⟨p, len, cap, h1, h2⟩ := H
    exact ⟨n, p, len, cap, h1, h2⟩
theorem reads_struct {n : Nat} {t : TypeId} {fs : Array Field} {cs : List Value} (ht : P.underlying t = some (.struct fs)) (H : Reads P h n t cs) :
    ∃ m, cs.length = P.cellsOf t ∧ ∀ f ∈ fs.toList, Reads P h m f.type ((cs.drop f.offset).take (P.cellsOf f.type)) := by
  cases n with
  | zero => exact H.elim
  | succ n =>
    unfold Reads at H
    rw [ht] at H
    exact ⟨n, H⟩

/-- A slice whose elements are read one by one: the elements as a list, the cells where they lie. -/
theorem choose_list {α : Type} {p : Nat → α → Prop} : ∀ (n : Nat), (∀ i, i < n → ∃ x, p i x) → ∃ l : List α, l.length = n ∧ ∀ i x, l[i]? = some x → p i x := by
  intro n
  induction n with
  | zero => intro _; exact ⟨[], rfl, fun i x hx => by simp at hx⟩
  | succ n ih =>
    intro H
    obtain ⟨l, hl, hp⟩ := ih fun i hi => H i (by omega)
    obtain ⟨x, hx⟩ := H n (by omega)
    refine ⟨l ++ [x], by simp [hl], fun i y hy => ?_⟩
    rcases Nat.lt_trichotomy i l.length with g | g | g
    · rw [List.getElem?_append_left g] at hy; exact hp i y hy
    · subst g; simp at hy; subst hy; rw [hl]; exact hx
    · rw [List.getElem?_eq_none (by simp; omega)] at hy; cases hy

theorem reads_strings {n : Nat} {t e : TypeId} {p : Option Addr} {len cap : Nat} (ht : P.underlying t = some (.slice e)) (he : P.underlying e = some .string) (hc : P.cellsOf e = 1) (H : Reads P h n t [.slice p len cap]) :
    len ≤ cap ∧ cap ≤ maxLen ∧ ∃ l : List ByteArray, l.length = len ∧ CellsAt h p (l.map Value.string) := by
  obtain ⟨m, p', len', cap', h1, h2, h3, _, h4⟩ := reads_slice ht H
  simp only [List.cons.injEq, Value.slice.injEq, and_true] at h1
  obtain ⟨rfl, rfl, rfl⟩ := h1
  obtain ⟨l, hl, hp⟩ := choose_list (p := fun i (s : ByteArray) => ∃ a, p = some a ∧ cellH h (a.add i) = some (.string s)) len (fun i hi => by
    obtain ⟨cs', g1, g2, g3⟩ := h4 i hi
    obtain ⟨s, rfl, _⟩ := reads_string he g3
    obtain ⟨a, ha, hcell⟩ := g2 0 _ rfl
    exact ⟨s, a, ha, by simpa [hc] using hcell⟩)
  refine ⟨h2, h3, l, hl, fun i v hv => ?_⟩
  rw [List.getElem?_map, Option.map_eq_some_iff] at hv
  obtain ⟨s, hs, rfl⟩ := hv
  exact hp i s hs
theorem reads_ints {n : Nat} {t e : TypeId} {k : IntKind} {p : Option Addr} {len cap : Nat} (ht : P.underlying t = some (.slice e)) (he : P.underlying e = some (.int k)) (hc : P.cellsOf e = 1) (H : Reads P h n t [.slice p len cap]) :
    len ≤ cap ∧ cap ≤ maxLen ∧ ∃ l : List Int, l.length = len ∧ CellsAt h p (l.map fun x => .int k x) ∧ ∀ x ∈ l, (Lit.int k x).wf = true := by
  obtain ⟨m, p', len', cap', h1, h2, h3, _, h4⟩ := reads_slice ht H
  simp only [List.cons.injEq, Value.slice.injEq, and_true] at h1
  obtain ⟨rfl, rfl, rfl⟩ := h1
  obtain ⟨l, hl, hp⟩ := choose_list (p := fun i (x : Int) => (∃ a, p = some a ∧ cellH h (a.add i) = some (.int k x)) ∧ (Lit.int k x).wf = true) len (fun i hi => by
    obtain ⟨cs', g1, g2, g3⟩ := h4 i hi
    obtain ⟨x, rfl, hx⟩ := reads_int he g3
    obtain ⟨a, ha, hcell⟩ := g2 0 _ rfl
    exact ⟨x, ⟨a, ha, by simpa [hc] using hcell⟩, hx⟩)
  refine ⟨h2, h3, l, hl, fun i v hv => ?_, fun x hx => ?_⟩
  · rw [List.getElem?_map, Option.map_eq_some_iff] at hv
    obtain ⟨s, hs, rfl⟩ := hv
    exact (hp i s hs).1
  · obtain ⟨i, hi⟩ := List.getElem?_of_mem hx
    exact (hp i x hi).2
end
end Go.Eng

/-
  THE ENGINE, PART Q: what a row's reading gives, as plain things; from D to the row's walk.
  Conditions: none; it speaks of any program.
-/
namespace Go.Eng
open Go

/-- All that is read of a type stands for a thing. -/
def ReadsTo {α : Type} (P : Program) (h : Heap) (t : TypeId) (r : Ro α) (G : α → Prop) : Prop := ∀ n cs, Reads P h n t cs → ∃ x, r.is (snap h) cs x ∧ G x
theorem readsTo_int {P : Program} {h : Heap} {t : TypeId} {k : IntKind} (ht : P.underlying t = some (.int k)) : ReadsTo P h t (Ro.int k) fun x => (Lit.int k x).wf = true := fun n cs H => by
  obtain ⟨x, rfl, hx⟩ := reads_int ht H
  exact ⟨x, rfl, hx⟩
theorem readsTo_string {P : Program} {h : Heap} {t : TypeId} (ht : P.underlying t = some .string) : ReadsTo P h t Ro.str fun s => s.size ≤ maxLen := fun n cs H => by
  obtain ⟨x, rfl, hx⟩ := reads_string ht H
  exact ⟨x, rfl, hx⟩
theorem readsTo_bool {P : Program} {h : Heap} {t : TypeId} (ht : P.underlying t = some .bool) : ReadsTo P h t Ro.bool fun _ => True := fun n cs H => by
  cases n with
  | zero => exact H.elim
  | succ n =>
    unfold Reads at H
    rw [ht] at H
    obtain ⟨b, rfl⟩ := H
    exact ⟨b, rfl, trivial⟩
theorem readsTo_slice {α : Type} {P : Program} {h : Heap} {t e : TypeId} {r : Ro α} {G : α → Prop} (ht : P.underlying t = some (.slice e)) (hc : P.cellsOf e = r.sz) (he : ReadsTo P h e r G) :
    ReadsTo P h t (Ro.list r) fun l => l.length ≤ maxLen ∧ ∀ x ∈ l, G x := fun n cs H => by
  obtain ⟨m, p, len, cap, rfl, h1, h2, h3, h4⟩ := reads_slice ht H
  obtain ⟨l, hl, hp⟩ := choose_list (p := fun i (x : List Value × α) => r.is (snap h) x.1 x.2 ∧ G x.2 ∧ ∀ j v, x.1[j]? = some v → ∃ a, p = some a ∧ cellH h (a.add (i * r.sz + j)) = some v) len (fun i hi => by
    obtain ⟨cs', g1, g2, g3⟩ := h4 i hi
    obtain ⟨x, hx, hG⟩ := he m cs' g3
    exact ⟨(cs', x), hx, hG, fun j v hv => by have := g2 j v hv; rw [hc] at this; exact this⟩)
  have key : ∀ k, k ≤ len → ∃ vs, r.All (snap h) vs ((l.take k).map (·.2)) ∧ vs.length = k * r.sz ∧ CellsS (snap h) p vs := fun k => by
    induction k with
    | zero => intro _; exact ⟨[], .nil, by simp, fun i v hv => by simp at hv⟩
    | succ k ih =>
      intro hk
      obtain ⟨vs, a1, a2, a3⟩ := ih (by omega)
      have hkl : k < l.length := by omega
      obtain ⟨b1, b2, b3⟩ := hp k l[k] (List.getElem?_eq_getElem hkl)
      refine ⟨vs ++ l[k].1, ?_, by rw [List.length_append, a2, r.len b1, Nat.add_mul, Nat.one_mul], fun i v hv => ?_⟩
      · rw [List.take_add_one, List.getElem?_eq_getElem hkl, List.map_append]
        exact a1.append (.one b1)
      · rcases Nat.lt_or_ge i vs.length with g | g
        · rw [List.getElem?_append_left g] at hv; exact a3 i v hv
        · rw [List.getElem?_append_right g] at hv
          obtain ⟨a, ha, hcell⟩ := b3 _ v hv
          refine ⟨a, ha, ?_⟩
          rw [cellS_snap, show i = k * r.sz + (i - vs.length) by omega]
          exact hcell
  obtain ⟨vs, a1, a2, a3⟩ := key len (Nat.le_refl _)
  rw [List.take_of_length_le (by omega)] at a1
  refine ⟨l.map (·.2), ⟨(p, len, cap), rfl, by simp [hl], h1, h2, fun hp0 => ?_, vs, a1, a3⟩, by simp; omega, fun x hx => ?_⟩
  · have := (h3 hp0).1
    have : l = [] := List.eq_nil_of_length_eq_zero (by omega)
    rw [this]; rfl
  · obtain ⟨y, hy, rfl⟩ := List.mem_map.1 hx
    obtain ⟨i, hi⟩ := List.getElem?_of_mem hy
    exact (hp i y hi).2.1
theorem readsTo_mono {α : Type} {P : Program} {h : Heap} {t : TypeId} {r : Ro α} {G G' : α → Prop} (H : ReadsTo P h t r G) (hG : ∀ x, G x → G' x) : ReadsTo P h t r G' := fun n cs hr => by
  obtain ⟨x, h1, h2⟩ := H n cs hr
  exact ⟨x, h1, hG x h2⟩
/-- A slice that came in. -/
theorem slice_of {α : Type} {P : Program} {h : Heap} {t : TypeId} {r : Ro α} {G : List α → Prop} (H : ReadsTo P h t (Ro.list r) G) {n : Nat} {p : Option Addr} {len cap : Nat} (hr : Reads P h n t [.slice p len cap]) : ∃ l, Ro.SliceIs r (snap h) (p, len, cap) l ∧ G l := by
  obtain ⟨l, ⟨t', e, hs⟩, hG⟩ := H n _ hr
  obtain ⟨p', n', c'⟩ := t'
  simp only [List.cons.injEq, Value.slice.injEq, and_true] at e
  obtain ⟨rfl, rfl, rfl⟩ := e
  exact ⟨l, hs, hG⟩
theorem St.start (h : Heap) : St (snap h) [] h := Sub.refl _
/-- What D tells is true, and nothing that was there has turned. -/
theorem truth_of {P : Program} {f : FuncId} {args : List Value} {h : Heap}
    (H : CallsH P f args h (Back fun v h' => ∃ ψ : Snap, ∃ y : Bool, Sub (snap h) ψ ∧ v = ((.one (.atom .bool)) : Sh).val y ∧ y = true ∧ St ψ [] h')) : CallsH P f args h (Back (Truth h)) := by
  refine H.mono fun e h' he => ?_
  obtain ⟨v, hv, ψ, y, hs, hv2, hy, s1⟩ := he
  subst hy
  refine ⟨v, hv, hv2, ?_⟩
  have hs' := hs.trans s1.sub
  refine ⟨?_, fun i hi _ => ?_⟩
  · rcases Nat.lt_or_ge h'.size h.size with g | g
    · have h1 : snap h h'.size = some h[h'.size] := Array.getElem?_eq_getElem g
      have := lt_of_get (hs' _ _ h1)
      omega
    · exact g
  · have h1 : snap h i = some h[i] := Array.getElem?_eq_getElem hi
    have h2 : h'[i]? = some h[i] := hs' _ _ h1
    rw [h2, Array.getElem?_eq_getElem hi]
end Go.Eng

/-
  SUMS: the law ParseSums over heaps.
  Conditions: the arguments' cells are there; the program's variables hold what the row lists.
-/
namespace Go.Proofs.YteligkemohngiaaGreatDoor
open Go Go.Eng
set_option linter.unusedVariables false
set_option maxRecDepth 100000
theorem laid_ls : Go.B.lsOf Tryz.prog Rows.parseSumsRow.laid 9 = Go.B.ls0 := by kernel_rfl
theorem glob_of {W : World} (hL : laidMetH Tryz.prog Rows.parseSumsRow.laid W) : GlobA (snap W.heap) := fun S => by
  rw [MakeChecks.laidMetH_plain _ _ _ (by kernel_rfl)] at hL
  intro h hs g l hg
  obtain ⟨c, ty, f, h1, h2⟩ := Go.B.laid_ok hL laid_ls g l hg
  exact ⟨c, ty, f, hs g _ h1, h2⟩
theorem wf32 {x : Int} (h : (Lit.int .u32 x).wf = true) : 0 ≤ x ∧ x < 4294967296 := by
  simp only [Lit.wf, Bool.and_eq_true, decide_eq_true_eq] at h
  have e1 : IntKind.min .u32 = 0 := rfl
  have e2 : IntKind.max .u32 = 4294967295 := rfl
  omega
theorem parseSums {h : Heap} {n : Nat} {p : Option Addr} {len cap : Nat} (gk : GlobA (snap h)) (hr : Reads Tryz.prog h n 22 [.slice p len cap]) :
    CallsH Tryz.prog 3 [.slice p len cap] h (Back (Truth h)) := by
  obtain ⟨_, _, l, hl, hc, hw⟩ := reads_ints Tryz.underlying22 Tryz.underlying39 (by kernel_rfl) hr
  have hf : Go.B.Few (l.map Int.toNat) := fun x hx => by
    obtain ⟨y, hy, rfl⟩ := List.mem_map.1 hx
    have := wf32 (hw y hy)
    omega
  refine truth_of (sums_sim (l.map Int.toNat) hf gk (fun i v hv => ?_) (by rw [List.length_map]; exact hl) (St.start h))
  rw [List.map_map, List.getElem?_map, Option.map_eq_some_iff] at hv
  obtain ⟨y, hy, rfl⟩ := hv
  have h1 := wf32 (hw y (List.mem_of_getElem? hy))
  obtain ⟨a, ha, hcell⟩ := hc i (.int .u32 y) (by rw [List.getElem?_map, hy]; rfl)
  refine ⟨a, ha, ?_⟩
  rw [cellS_snap, hcell]
  show some (Value.int .u32 y) = some (Value.int .u32 ((y.toNat : Nat) : Int))
  rw [Int.toNat_of_nonneg h1.1]
end Go.Proofs.YteligkemohngiaaGreatDoor
