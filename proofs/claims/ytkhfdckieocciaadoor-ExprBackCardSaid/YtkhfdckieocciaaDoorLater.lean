/-
  THE CALL THAT Read DEFERS: it recovers, and tells what was wrong.
  Conditions: none.
-/
import Derived.Test.YtkhfdckieocciaaDoorBase
import Derived.KernelRfl
namespace Go.Proofs.YtkhfdckieocciaaDoor
open Go Go.Eng
set_option maxRecDepth 100000
theorem assert_none (K : Value → Heap → Prop) (X : Value → Heap → Prop) (h : Heap) :
    semWp Tryd.prog (Instr.typeAssert .nilIface 20 41 true) K X h = K (.tuple #[.agg #[.int .i64 0, .int .i64 0], .bool false]) h := by kernel_rfl
theorem assert_some (code at_ : Int) (K : Value → Heap → Prop) (X : Value → Heap → Prop) (h : Heap) :
    semWp Tryd.prog (Instr.typeAssert (.iface 41 (.agg #[.int .i64 code, .int .i64 at_])) 20 41 true) K X h = K (.tuple #[.agg #[.int .i64 code, .int .i64 at_], .bool true]) h := by kernel_rfl
theorem read1_none {φ : Snap} {h : Heap} {F : List Chk} {a b c : Nat} (s0 : St φ F h) :
    CallsDH Tryd.prog 24 [.pointer (some ⟨a, 0, none⟩), .pointer (some ⟨b, 0, none⟩), .pointer (some ⟨c, 0, none⟩)] .returning h (fun e u' h' => u' = .returning ∧ e = .ret (.tuple #[]) ∧ St φ F h') := by
  refine callsDH_rec (v := .nilIface) (u' := .returning) mixed Tryd.func24 (.inr ⟨rfl, rfl, rfl⟩) ?_
  rw [expr_Read_1_none_den]
  unfold expr_Read_1_none_T
  refine t_sem ?_
  rw [assert_none]
  refine ⟨((0, 0, ()), false, ()), rfl, ?_⟩
  refine s_new (vs := [.int .i64 0, .int .i64 0]) s0 ?_
  intro r2 h1 s1
  refine s_put (b := r2) (j := 0) (v := .int .i64 0) s1 rfl (show (0 : Nat) < 2 by decide) ?_
  intro h2 s2
  refine s_put (b := r2) (j := 1) (v := .int .i64 0) s2 rfl (show (1 : Nat) < 2 by decide) ?_
  intro h3 s3
  refine s_join (γ := Unit) (fun _ w_ _ => St φ F w_) (g := ()) ?_ ?_
  · refine t_false rfl ?_
    exact s_out () rfl s3.tail
  · intro z h4 s4
    exact ⟨rfl, rfl, s4⟩
theorem read1_some {φ : Snap} {h : Heap} {F : List Chk} {a b c : Nat} {code at_ : Int} {v0 v1 v2 v3 v4 : Value}
    (s0 : St φ (⟨Rep.raw 25, [.pointer (some ⟨a, 0, none⟩)], [v0, v1, v2]⟩ :: ⟨Rep.raw 26, [.pointer (some ⟨b, 0, none⟩)], [v3]⟩ :: ⟨Rep.raw 3, [.pointer (some ⟨c, 0, none⟩)], [v4]⟩ :: F) h) :
    CallsDH Tryd.prog 24 [.pointer (some ⟨a, 0, none⟩), .pointer (some ⟨b, 0, none⟩), .pointer (some ⟨c, 0, none⟩)] (.panicking [{ v := .iface 41 (.agg #[.int .i64 code, .int .i64 at_]), recovered := false }]) h
      (fun e u' h' => u' = .panicking [{ v := .iface 41 (.agg #[.int .i64 code, .int .i64 at_]), recovered := true }] ∧ e = .ret (.tuple #[]) ∧
        St φ (⟨Rep.raw 25, [.pointer (some ⟨a, 0, none⟩)], [.int .i64 0, .int .i64 0, .slice none 0 0]⟩ :: ⟨Rep.raw 26, [.pointer (some ⟨b, 0, none⟩)], [.int .i64 code]⟩ :: ⟨Rep.raw 3, [.pointer (some ⟨c, 0, none⟩)], [.int .i64 at_]⟩ :: F) h') := by
  refine callsDH_rec (v := .iface 41 (.agg #[.int .i64 code, .int .i64 at_])) (u' := .panicking [{ v := .iface 41 (.agg #[.int .i64 code, .int .i64 at_]), recovered := true }]) mixed Tryd.func24 (.inl ⟨[], rfl, rfl⟩) ?_
  rw [expr_Read_1_some_den]
  unfold expr_Read_1_some_T
  refine t_sem ?_
  rw [assert_some]
  refine ⟨((code, at_, ()), true, ()), rfl, ?_⟩
  refine s_new (vs := [.int .i64 0, .int .i64 0]) s0 ?_
  intro r2 h1 s1
  refine s_put (b := r2) (j := 0) (v := .int .i64 code) s1 rfl (show (0 : Nat) < 2 by decide) ?_
  intro h2 s2
  refine s_put (b := r2) (j := 1) (v := .int .i64 at_) s2 rfl (show (1 : Nat) < 2 by decide) ?_
  intro h3 s3
  refine s_join (γ := Unit) (fun _ w_ _ => St φ (⟨Rep.raw 25, [.pointer (some ⟨a, 0, none⟩)], [.int .i64 0, .int .i64 0, .slice none 0 0]⟩ :: ⟨Rep.raw 26, [.pointer (some ⟨b, 0, none⟩)], [.int .i64 code]⟩ :: ⟨Rep.raw 3, [.pointer (some ⟨c, 0, none⟩)], [.int .i64 at_]⟩ :: F) w_) (g := ()) ?_ ?_
  · refine t_true rfl ?_
    refine s_loadR (b := r2) (j := 0) (x := code) s3 rfl ?_
    refine s_loadR (b := r2) (j := 1) (x := at_) s3 rfl ?_
    refine s_put (b := a) (j := 0) (v := .int .i64 0) s3.at1 rfl (show (0 : Nat) < 3 by decide) ?_
    intro h4 s4
    refine s_put (b := a) (j := 1) (v := .int .i64 0) s4 rfl (show (1 : Nat) < 3 by decide) ?_
    intro h5 s5
    refine s_put (b := a) (j := 2) (v := .slice none 0 0) s5 rfl (show (2 : Nat) < 3 by decide) ?_
    intro h6 s6
    refine t_still (St.cell (b := r2) (j := 1) s6.at1 rfl) ?_
    refine t_still (St.cell (b := r2) (j := 0) s6.at1 rfl) ?_
    refine s_put (b := b) (j := 0) (v := .int .i64 code) s6.at2 rfl (show (0 : Nat) < 1 by decide) ?_
    intro h7 s7
    refine t_still (St.cell (b := r2) (j := 1) s7.at2 rfl) ?_
    refine s_put (b := c) (j := 0) (v := .int .i64 at_) s7.at3 rfl (show (0 : Nat) < 1 by decide) ?_
    intro h8 s8
    exact s_out () rfl (s8.at3.tail.at1.at2)
  · intro z h4 s4
    exact ⟨rfl, rfl, s4⟩
end Go.Proofs.YtkhfdckieocciaaDoor
