/-
  None, Walk, LawN, CmM, EngR, EngQ, LawA, put together.
  Conditions: none; each part tells its own.
-/
import Derived.Test.YteligkemohngiaaGreatDoorKn1
import Derived.Test.YteligkemohngiaaGreatDoorKn2
import Derived.Test.YteligkemohngiaaGreatDoorKn5
import Derived.Test.YteligkemohngiaaGreatDoorKn4
import Derived.OpenShut
import Derived.LaidLaws
import GoSem.ClaimJoined
import Derived.WalkKit
import Derived.ProofKit
import Derived.ShutString
import Derived.ChangeOld
import Derived.Below
import Derived.Test.YteligkemohngiaaGreatDoorRows
import Derived.MakeChecks
/-
  PARSE: without a unit: New, Answer, Step, Steps, Parse of none.
  Conditions: none.
-/
namespace Go.Proofs.YteligkemohngiaaGreatDoor
open Go Go.Eng
set_option linter.unusedVariables false
set_option maxRecDepth 100000
theorem mixed : Tryz.prog.follows .mixedOrders = true := by kernel_rfl
abbrev GlobA (φ : Snap) : Prop := Go.B.GlobB Go.B.ls0 φ
abbrev AT : Type := Int × Int × Int × Int × Int × ByteArray × (Option Addr × Nat × Nat) × (Option Addr × Nat × Nat) × Int × Int × Unit
abbrev aggOf (a : AT) : Value := .agg #[(.int .i64 a.1), (.int .i64 a.2.1), (.int .i64 a.2.2.1), (.int .i64 a.2.2.2.1), (.int .i64 a.2.2.2.2.1), (.string a.2.2.2.2.2.1), (.slice a.2.2.2.2.2.2.1.1 a.2.2.2.2.2.2.1.2.1 a.2.2.2.2.2.2.1.2.2), (.slice a.2.2.2.2.2.2.2.1.1 a.2.2.2.2.2.2.2.1.2.1 a.2.2.2.2.2.2.2.1.2.2), (.int .i64 a.2.2.2.2.2.2.2.2.1), (.int .i64 a.2.2.2.2.2.2.2.2.2.1)]
abbrev ansT (k c : Int) : AT := (k, c, 0, 0, 0, ⟨#[]⟩, (none, 0, 0), (none, 0, 0), 0, 0, ())
abbrev QT : Type := Int × Int × Int × Int × Int × Int × Unit
abbrev quoV (q : QT) : Value := .agg #[(.int .i64 q.1), (.int .i64 q.2.1), (.int .i64 q.2.2.1), (.int .i64 q.2.2.2.1), (.int .i64 q.2.2.2.2.1), (.int .i64 q.2.2.2.2.2.1)]
abbrev quoC (q : QT) : List Value := [.int .i64 q.1, .int .i64 q.2.1, .int .i64 q.2.2.1, .int .i64 q.2.2.2.1, .int .i64 q.2.2.2.2.1, .int .i64 q.2.2.2.2.2.1]
section
variable {φ : Snap} {h : Heap} {F : List Chk}
/-- slices.Clone of nothing. -/
theorem clone_nil (gk : GlobA φ) (s0 : St φ F h) : CallsH Tryz.prog 23 [.slice none 0 0] h (Back fun v h' => v = .slice none 0 0 ∧ ∃ ψ, Sub φ ψ ∧ St ψ F h') := by
  obtain ⟨A', h0⟩ := Go.B.isNils_ok Go.B.saidC
  refine (Go.B.made Go.B.rec0_ok (by decide) h0 ⟨_, Tryz.func23, by kernel_rfl⟩ (vs := [.slice none 0 0]) (.cons .nils .nil) gk s0).mono fun e h' ⟨v, ψ, ρ', he, hs, st, hr, _⟩ => ?_
  cases hr
  exact ⟨_, he, rfl, ψ, hs, st⟩
abbrev heldZ (n : Int) : Int := if (if (1099511627776 : Int) < n then (1099511627776 : Int) else n) > (0 : Int) then (if (1099511627776 : Int) < n then (1099511627776 : Int) else n) else (0 : Int)
theorem held_sim {n : Int} (s0 : St φ F h) : CallsH Tryz.prog 32 [.int .i64 n] h (Back fun v h' => v = .int .i64 (heldZ n) ∧ St φ F h') :=
  calls_den mixed Tryz.func32 (meter_held_den ..) (finOf_back ⟨rfl, s0⟩)
/-- A meter of which nothing is used. -/
theorem meter_sim {n : Int} (s0 : St φ F h) : CallsH Tryz.prog 20 [.int .i64 n] h (Back fun v h' => ∃ (b : Nat) (ψ : Snap), v = .pointer (some ⟨b, 0, none⟩) ∧ Sub φ ψ ∧ cellS ψ ⟨b, 1, none⟩ = some (.int .i64 0) ∧ St ψ F h') := by
  refine calls_den mixed Tryz.func20 (meter_New_den ..) ?_
  refine s_call (held_sim s0) ?_
  rintro _ h1 ⟨rfl, s1⟩
  refine ⟨heldZ n, rfl, ?_⟩
  refine s_new (vs := [.int .i64 (heldZ n), .int .i64 0, .int .i64 0]) s1 fun r h2 s2 => ?_
  obtain ⟨ψ, le, hc, s3⟩ := s2.blk
  refine finOf_back ⟨r, ψ, rfl, le, ?_, s3⟩
  obtain ⟨a, ha, hv⟩ := hc 1 _ rfl
  cases ha
  exact hv
/-- A parser without a unit: its answer, its meter. -/
structure NoUnit (ψ : Snap) (b : Nat) : Prop where
  ans : ∀ (j : Nat) v, ([.int .i64 10, .int .i64 0, .int .i64 0, .int .i64 0, .int .i64 0, .string ⟨#[]⟩, .slice none 0 0, .slice none 0 0, .int .i64 0, .int .i64 0] : List Value)[j]? = some v → cellS ψ ⟨b, 11 + j, none⟩ = some v
  met : ∃ m : Nat, cellS ψ ⟨b, 3, none⟩ = some (.pointer (some ⟨m, 0, none⟩)) ∧ cellS ψ ⟨m, 1, none⟩ = some (.int .i64 0)
theorem NoUnit.up {ψ ψ' : Snap} {b : Nat} (n : NoUnit ψ b) (hs : Sub ψ ψ') : NoUnit ψ' b :=
  ⟨fun j v hv => cellS_mono hs (n.ans j v hv), by obtain ⟨m, h1, h2⟩ := n.met; exact ⟨m, cellS_mono hs h1, cellS_mono hs h2⟩⟩
theorem new_sim {text : ByteArray} {q : QT} (s0 : St φ F h) : CallsH Tryz.prog 10 [.pointer none, .string text, quoV q] h (Back fun v h' => ∃ (b : Nat) (ψ : Snap), v = .pointer (some ⟨b, 0, none⟩) ∧ Sub φ ψ ∧ NoUnit ψ b ∧ St ψ F h') := by
  refine calls_den mixed Tryz.func10 (parse_New_den ..) ?_
  refine s_new (vs := quoC q) s0 fun r1 g1 s1 => ?_
  obtain ⟨ψ0, le0, hc, s1⟩ := s1.blk
  have at0 : ∀ (j : Nat) v, (quoC q)[j]? = some v → cellS ψ0 ⟨r1, j, none⟩ = some v := fun j v hv => by
    obtain ⟨a, ha, hcv⟩ := hc j v hv
    cases ha
    rw [add_mk, Nat.zero_add] at hcv
    exact hcv
  refine s_load (x := q.2.2.2.2.1) (cellS_heap s1.sub (at0 4 _ rfl)) rfl ?_
  refine s_load (x := q.1) (cellS_heap s1.sub (at0 0 _ rfl)) rfl ?_
  refine s_load (x := q.2.2.2.1) (cellS_heap s1.sub (at0 3 _ rfl)) rfl ?_
  refine s_load (x := q.2.2.2.2.2.1) (cellS_heap s1.sub (at0 5 _ rfl)) rfl ?_
  refine s_call (meter_sim s1) ?_
  rintro _ g2 ⟨m1, ψ1, rfl, le1, c1, s2⟩
  refine ⟨some ⟨m1, 0, none⟩, rfl, ?_⟩
  refine t_still (cellS_heap s2.sub (cellS_mono le1 (at0 5 _ rfl))) (t_still (cellS_heap s2.sub (cellS_mono le1 (at0 3 _ rfl))) (t_still (cellS_heap s2.sub (cellS_mono le1 (at0 4 _ rfl))) ?_))
  refine s_call (meter_sim s2) ?_
  rintro _ g3 ⟨m2, ψ2, rfl, le2, c2, s3⟩
  refine ⟨some ⟨m2, 0, none⟩, rfl, ?_⟩
  have le12 := le1.trans le2
  refine t_still (cellS_heap s3.sub (cellS_mono le12 (at0 5 _ rfl))) (t_still (cellS_heap s3.sub (cellS_mono le12 (at0 4 _ rfl))) ?_)
  refine s_call (meter_sim s3) ?_
  rintro _ g4 ⟨m3, ψ3, rfl, le3, c3, s4⟩
  refine ⟨some ⟨m3, 0, none⟩, rfl, ?_⟩
  have le13 := le12.trans le3
  refine t_still (cellS_heap s4.sub (cellS_mono le13 (at0 4 _ rfl))) ?_
  refine s_new (vs := [.pointer none, .string text, .int .i64 q.2.2.2.2.1, .pointer (some ⟨m1, 0, none⟩), .pointer (some ⟨m2, 0, none⟩), .pointer (some ⟨m3, 0, none⟩), .pointer none, .slice none 0 0, .pointer none, .pointer none, .nilFunc, .int .i64 0, .int .i64 0, .int .i64 0, .int .i64 0, .int .i64 0, .string ⟨#[]⟩, .slice none 0 0, .slice none 0 0, .int .i64 0, .int .i64 0]) s4 fun r9 g5 s5 => ?_
  refine t_true rfl ?_
  refine s_put s5 rfl (by simp) fun g6 s6 => ?_
  refine s_put s6 rfl (by simp) fun g6 s6 => ?_
  refine s_put s6 rfl (by simp) fun g6 s6 => ?_
  refine s_put s6 rfl (by simp) fun g6 s6 => ?_
  refine s_put s6 rfl (by simp) fun g6 s6 => ?_
  refine s_put s6 rfl (by simp) fun g6 s6 => ?_
  refine s_put s6 rfl (by simp) fun g6 s6 => ?_
  refine s_put s6 rfl (by simp) fun g6 s6 => ?_
  refine s_put s6 rfl (by simp) fun g6 s6 => ?_
  refine s_put s6 rfl (by simp) fun g6 s6 => ?_
  obtain ⟨ψ4, le4, hc4, s7⟩ := s6.blk
  have at4 : ∀ (j : Nat) v, ([.pointer none, .string text, .int .i64 q.2.2.2.2.1, .pointer (some ⟨m1, 0, none⟩), .pointer (some ⟨m2, 0, none⟩), .pointer (some ⟨m3, 0, none⟩), .pointer none, .slice none 0 0, .pointer none, .pointer none, .nilFunc, .int .i64 10, .int .i64 0, .int .i64 0, .int .i64 0, .int .i64 0, .string ⟨#[]⟩, .slice none 0 0, .slice none 0 0, .int .i64 0, .int .i64 0] : List Value)[j]? = some v → cellS ψ4 ⟨r9, j, none⟩ = some v := fun j v hv => by
    obtain ⟨a, ha, hcv⟩ := hc4 j v hv
    cases ha
    rw [add_mk, Nat.zero_add] at hcv
    exact hcv
  refine finOf_back ⟨r9, ψ4, rfl, le0.trans (le13.trans le4), ⟨fun j v hv => at4 (11 + j) v ?_, m1, at4 3 _ rfl, cellS_mono (le2.trans (le3.trans le4)) c1⟩, s7⟩
  rw [Nat.add_comm]
  exact hv
theorem answer_sim (gk : GlobA φ) {b : Nat} (n : NoUnit φ b) (s0 : St φ F h) : CallsH Tryz.prog 11 [.pointer (some ⟨b, 0, none⟩)] h (Back fun v h' => v = aggOf (ansT 10 0) ∧ ∃ ψ, Sub φ ψ ∧ St ψ F h') := by
  refine calls_den mixed Tryz.func11 (parse_Parser_Answer_den ..) ?_
  refine s_new (vs := [.int .i64 0, .int .i64 0, .int .i64 0, .int .i64 0, .int .i64 0, .string ⟨#[]⟩, .slice none 0 0, .slice none 0 0, .int .i64 0, .int .i64 0]) s0 fun r1 g1 s1 => ?_
  refine t_deref _ rfl ?_
  have at1 : ∀ (j : Nat) v, ([.int .i64 10, .int .i64 0, .int .i64 0, .int .i64 0, .int .i64 0, .string ⟨#[]⟩, .slice none 0 0, .slice none 0 0, .int .i64 0, .int .i64 0] : List Value)[j]? = some v → cellH g1 (((⟨b, 0, none⟩ : Addr).add 11).add j) = some v := fun j v hv => by
    have := cellS_heap s1.sub (n.ans j v hv)
    rw [add_mk, add_mk, Nat.zero_add]
    exact this
  refine s_load (x := (10 : Int)) (at1 0 _ rfl) rfl ?_
  refine s_load (x := (0 : Int)) (at1 1 _ rfl) rfl ?_
  refine s_load (x := (0 : Int)) (at1 2 _ rfl) rfl ?_
  refine s_load (x := (0 : Int)) (at1 3 _ rfl) rfl ?_
  refine s_load (x := (0 : Int)) (at1 4 _ rfl) rfl ?_
  refine s_load (x := (⟨#[]⟩ : ByteArray)) (at1 5 _ rfl) rfl ?_
  refine s_load (x := (none, 0, 0)) (at1 6 _ rfl) rfl ?_
  refine s_load (x := (none, 0, 0)) (at1 7 _ rfl) rfl ?_
  refine s_load (x := (0 : Int)) (at1 8 _ rfl) rfl ?_
  refine s_load (x := (0 : Int)) (at1 9 _ rfl) rfl ?_
  refine s_new (vs := [.int .i64 0, .int .i64 0, .int .i64 0, .int .i64 0, .int .i64 0, .string ⟨#[]⟩, .slice none 0 0, .slice none 0 0, .int .i64 0, .int .i64 0]) s1 fun r13 g2 s2 => ?_
  refine s_put s2 rfl (by simp) fun g6 s6 => ?_
  iterate 9 refine s_put s6 rfl (by simp) fun g6 s6 => ?_
  refine s_loadR (x := (none, 0, 0)) s6 rfl ?_
  refine s_call (clone_nil gk s6) ?_
  rintro _ g7 ⟨rfl, ψ1, le1, s7⟩
  refine ⟨(none, 0, 0), rfl, ?_⟩
  refine s_put s7 rfl (by simp) fun g8 s8 => ?_
  refine s_loadR (x := (10 : Int)) s8 rfl ?_
  refine s_loadR (x := (0 : Int)) s8 rfl ?_
  refine s_loadR (x := (0 : Int)) s8 rfl ?_
  refine s_loadR (x := (0 : Int)) s8 rfl ?_
  refine s_loadR (x := (0 : Int)) s8 rfl ?_
  refine s_loadR (x := (⟨#[]⟩ : ByteArray)) s8 rfl ?_
  refine s_loadR (x := (none, 0, 0)) s8 rfl ?_
  refine s_loadR (x := (none, 0, 0)) s8 rfl ?_
  refine s_loadR (x := (0 : Int)) s8 rfl ?_
  refine s_loadR (x := (0 : Int)) s8 rfl ?_
  refine s_put s8.at1 rfl (by simp) fun g9 s9 => ?_
  iterate 9 refine s_put s9 rfl (by simp) fun g9 s9 => ?_
  refine s_loadR (x := (10 : Int)) s9 rfl ?_
  refine s_loadR (x := (0 : Int)) s9 rfl ?_
  refine s_loadR (x := (0 : Int)) s9 rfl ?_
  refine s_loadR (x := (0 : Int)) s9 rfl ?_
  refine s_loadR (x := (0 : Int)) s9 rfl ?_
  refine s_loadR (x := (⟨#[]⟩ : ByteArray)) s9 rfl ?_
  refine s_loadR (x := (none, 0, 0)) s9 rfl ?_
  refine s_loadR (x := (none, 0, 0)) s9 rfl ?_
  refine s_loadR (x := (0 : Int)) s9 rfl ?_
  refine s_loadR (x := (0 : Int)) s9 rfl ?_
  exact finOf_back ⟨rfl, ψ1, le1, s9.tail.tail⟩
theorem step_sim {b : Nat} (n : NoUnit φ b) (s0 : St φ F h) : CallsH Tryz.prog 12 [.pointer (some ⟨b, 0, none⟩)] h (Back fun v h' => v = .bool true ∧ St φ F h') := by
  refine calls_den mixed Tryz.func12 (parse_Parser_Step_den ..) ?_
  refine t_deref _ rfl ?_
  refine s_load (x := (10 : Int)) (by have := cellS_heap s0.sub (n.ans 0 _ rfl); simpa [Addr.add] using this) rfl ?_
  refine t_true rfl ?_
  exact finOf_back ⟨rfl, s0⟩
theorem used_sim {m : Nat} (hm : cellS φ ⟨m, 1, none⟩ = some (.int .i64 0)) (s0 : St φ F h) : CallsH Tryz.prog 25 [.pointer (some ⟨m, 0, none⟩)] h (Back fun v h' => v = .int .i64 0 ∧ St φ F h') := by
  refine calls_den mixed Tryz.func25 (meter_Meter_Used_den ..) ?_
  refine t_deref _ rfl ?_
  refine s_load (x := (0 : Int)) (by have := cellS_heap s0.sub hm; simpa [Addr.add] using this) rfl ?_
  exact finOf_back ⟨rfl, s0⟩
theorem steps_sim {b : Nat} (n : NoUnit φ b) (s0 : St φ F h) : CallsH Tryz.prog 13 [.pointer (some ⟨b, 0, none⟩)] h (Back fun v h' => v = .int .i64 0 ∧ St φ F h') := by
  obtain ⟨m, h1, h2⟩ := n.met
  refine calls_den mixed Tryz.func13 (parse_Parser_Steps_den ..) ?_
  refine t_deref _ rfl ?_
  refine s_load (x := some ⟨m, 0, none⟩) (by have := cellS_heap s0.sub h1; simpa [Addr.add] using this) rfl ?_
  refine s_call (used_sim h2 s0) ?_
  rintro _ g1 ⟨rfl, s1⟩
  refine ⟨(0 : Int), rfl, ?_⟩
  exact finOf_back ⟨rfl, s1⟩
theorem parse_sim (gk : GlobA φ) {text : ByteArray} {q : QT} (s0 : St φ F h) : CallsH Tryz.prog 8 [.pointer none, .string text, quoV q] h (Back fun v h' => v = aggOf (ansT 10 0) ∧ ∃ ψ, Sub φ ψ ∧ St ψ F h') := by
  refine calls_den mixed Tryz.func8 (parse_Parse_den ..) ?_
  refine s_new (vs := quoC q) s0 fun r1 g1 s1 => ?_
  refine s_new (vs := [.int .i64 0, .int .i64 0, .int .i64 0, .int .i64 0, .int .i64 0, .string ⟨#[]⟩, .slice none 0 0, .slice none 0 0, .int .i64 0, .int .i64 0]) s1 fun r2 g2 s2 => ?_
  refine s_loadR (x := q.1) s2.at1 rfl ?_
  refine s_loadR (x := q.2.1) s2.at1 rfl ?_
  refine s_loadR (x := q.2.2.1) s2.at1 rfl ?_
  refine s_loadR (x := q.2.2.2.1) s2.at1 rfl ?_
  refine s_loadR (x := q.2.2.2.2.1) s2.at1 rfl ?_
  refine s_loadR (x := q.2.2.2.2.2.1) s2.at1 rfl ?_
  refine s_call (new_sim s2) ?_
  rintro _ g3 ⟨b, ψ, rfl, le, n, s3⟩
  refine ⟨some ⟨b, 0, none⟩, rfl, ?_⟩
  refine s_block (fun (_ : Unit) w (_ : Unit) => St ψ (cW 33 r2 [.int .i64 0, .int .i64 0, .int .i64 0, .int .i64 0, .int .i64 0, .string ⟨#[]⟩, .slice none 0 0, .slice none 0 0, .int .i64 0, .int .i64 0] :: cW 37 r1 (quoC q) :: F) w) (g := ()) ?_ ?_
  · refine t_loop (fun _ w => w = g3) (fun _ _ => 0) () rfl rfl ?_
    rintro _ w rfl
    refine s_call (step_sim n s3) ?_
    rintro _ g4 ⟨rfl, s4⟩
    refine ⟨true, rfl, ?_⟩
    refine t_false rfl ?_
    refine s_brk ?_
    unfold loopQ
    exact meetB_brk () rfl s4
  rintro _ g4 s4
  refine s_call (answer_sim (gk.up le) n s4) ?_
  rintro _ g5 ⟨rfl, ψ1, le1, s5⟩
  refine ⟨ansT 10 0, rfl, ?_⟩
  refine s_put s5 rfl (by simp) fun g9 s9 => ?_
  iterate 9 refine s_put s9 rfl (by simp) fun g9 s9 => ?_
  refine s_loadR (x := (10 : Int)) s9 rfl ?_
  refine s_loadR (x := (0 : Int)) s9 rfl ?_
  refine s_loadR (x := (0 : Int)) s9 rfl ?_
  refine s_loadR (x := (0 : Int)) s9 rfl ?_
  refine s_loadR (x := (0 : Int)) s9 rfl ?_
  refine s_loadR (x := (⟨#[]⟩ : ByteArray)) s9 rfl ?_
  refine s_loadR (x := (none, 0, 0)) s9 rfl ?_
  refine s_loadR (x := (none, 0, 0)) s9 rfl ?_
  refine s_loadR (x := (0 : Int)) s9 rfl ?_
  refine s_loadR (x := (0 : Int)) s9 rfl ?_
  exact finOf_back ⟨rfl, ψ1, le.trans le1, s9.tail.tail⟩
end
end Go.Proofs.YteligkemohngiaaGreatDoor

/-
  PARSE: the law ParseNone, walked.
  Conditions: the program's variables hold what the row lists.
-/
namespace Go.Proofs.YteligkemohngiaaGreatDoor
open Go Go.Eng
set_option linter.unusedVariables false
set_option maxRecDepth 100000
section
variable {φ : Snap} {h : Heap} {F : List Chk}
theorem rv_str {ρ : Go.B.Place} {l : List Nat} {v : Value} (h : Go.B.RV ρ (.str l) v) : ∃ s : ByteArray, v = .string s ∧ Go.B.strL s = l := by
  cases h with
  | str e => exact ⟨_, rfl, e⟩
theorem rv_sl {ρ : Go.B.Place} {a : Go.B.AV} {v : Value} (hs : Go.B.isSl a = true) (h : Go.B.RV ρ a v) : ∃ t : Slc, v = .slice t.1 t.2.1 t.2.2 := by
  cases h <;> first | exact ⟨(_, _, _), rfl⟩ | cases hs
theorem rv_ans {ρ : Go.B.Place} {k c : Int} {v : Value} (h : Go.B.RV ρ (Go.B.ansA k c) v) : v = aggOf (ansT k c) := by
  unfold Go.B.ansA at h
  cases h with
  | @agg l x h1 h2 =>
    cases x with
    | mk xs =>
      simp only at h1
      cases h1 with
      | cons a1 h1 => cases h1 with
        | cons a2 h1 => cases h1 with
          | cons a3 h1 => cases h1 with
            | cons a4 h1 => cases h1 with
              | cons a5 h1 => cases h1 with
                | cons a6 h1 => cases h1 with
                  | cons a7 h1 => cases h1 with
                    | cons a8 h1 => cases h1 with
                      | cons a9 h1 => cases h1 with
                        | cons a10 h1 =>
                          cases h1
                          cases a1
                          cases a2
                          cases a3
                          cases a4
                          cases a5
                          obtain ⟨s, rfl, hs⟩ := rv_str a6
                          cases a7
                          cases a8
                          cases a9
                          cases a10
                          have : s = ⟨#[]⟩ := Go.B.strL_inj (hs.trans rfl)
                          subst this
                          rfl
theorem ans_rv {ρ : Go.B.Place} (k c : Int) : Go.B.RV ρ (Go.B.ansA k c) (aggOf (ansT k c)) :=
  .agg (.cons (.int _ _) (.cons (.int _ _) (.cons (.int _ _) (.cons (.int _ _) (.cons (.int _ _) (.cons (.str rfl) (.cons .nils (.cons .nils (.cons (.int _ _) (.cons (.int _ _) .nil)))))))))) (fun a ha => by simp at ha; rcases ha with rfl | rfl | rfl | rfl | rfl | rfl <;> rfl)
abbrev wideT : QT := (2000, 300, 9000, 10000, 1000, 100000, ())
theorem quo_rv {ρ : Go.B.Place} (q : QT) : Go.B.RV ρ (.agg [.int .i64 q.1, .int .i64 q.2.1, .int .i64 q.2.2.1, .int .i64 q.2.2.2.1, .int .i64 q.2.2.2.2.1, .int .i64 q.2.2.2.2.2.1]) (quoV q) :=
  .agg (.cons (.int _ _) (.cons (.int _ _) (.cons (.int _ _) (.cons (.int _ _) (.cons (.int _ _) (.cons (.int _ _) .nil)))))) (fun a ha => by simp at ha; rcases ha with rfl | rfl | rfl | rfl | rfl | rfl <;> rfl)
/-! ## the calls -/
theorem aw_sim (gk : GlobA φ) (s0 : St φ F h) : CallsH Tryz.prog 5 [] h (Back fun v h' => v = .bool true ∧ ∃ ψ, Sub φ ψ ∧ St ψ F h') := by
  obtain ⟨A', h0⟩ := Go.B.isB_ok Go.B.said
  refine (Go.B.made Go.B.rec0_ok (by decide) h0 ⟨_, Tryz.func5, by kernel_rfl⟩ (vs := []) .nil gk s0).mono fun e h' ⟨v, ψ, ρ', he, hs, st, hr, _⟩ => ?_
  cases hr
  exact ⟨_, he, rfl, ψ, hs, st⟩
theorem wide_sim (gk : GlobA φ) (s0 : St φ F h) : CallsH Tryz.prog 7 [] h (Back fun v h' => v = quoV wideT ∧ ∃ ψ, Sub φ ψ ∧ St ψ F h') := by
  obtain ⟨A', h0⟩ := Go.B.isWide_ok Go.B.saidW
  refine (Go.B.made Go.B.rec0_ok (by decide) h0 ⟨_, Tryz.func7, by kernel_rfl⟩ (vs := []) .nil gk s0).mono fun e h' ⟨v, ψ, ρ', he, hs, st, hr, _⟩ => ?_
  refine ⟨_, he, ?_, ψ, hs, st⟩
  unfold Go.B.wideA at hr
  cases hr with
  | @agg l x h1 h2 =>
    cases x with
    | mk xs =>
      simp only at h1
      cases h1 with
      | cons a1 h1 => cases h1 with
        | cons a2 h1 => cases h1 with
          | cons a3 h1 => cases h1 with
            | cons a4 h1 => cases h1 with
              | cons a5 h1 => cases h1 with
                | cons a6 h1 =>
                  cases h1
                  cases a1
                  cases a2
                  cases a3
                  cases a4
                  cases a5
                  cases a6
                  rfl
theorem same_sim (gk : GlobA φ) {k c : Int} (hs : Go.B.isB (Go.B.run 9 [Go.B.ansA k c, Go.B.ansA k c] (Go.B.glob0 Go.B.ls0)) = true) (s0 : St φ F h) : CallsH Tryz.prog 9 [aggOf (ansT k c), aggOf (ansT k c)] h (Back fun v h' => v = .bool true ∧ ∃ ψ, Sub φ ψ ∧ St ψ F h') := by
  obtain ⟨A', h0⟩ := Go.B.isB_ok hs
  refine (Go.B.made Go.B.rec0_ok (by decide) h0 ⟨_, Tryz.func9, by kernel_rfl⟩ (vs := [aggOf (ansT k c), aggOf (ansT k c)]) (.cons (ans_rv k c) (.cons (ans_rv k c) .nil)) gk s0).mono fun e h' ⟨v, ψ, ρ', he, hs, st, hr, _⟩ => ?_
  cases hr
  exact ⟨_, he, rfl, ψ, hs, st⟩
/-- The grammar of sums, built: what any too long text is answered by it. -/
structure UnitOk (ψ : Snap) (u : Addr) : Prop where
  long : ∀ (s : ByteArray) (l : List Nat), Go.B.strL s = Go.B.appN (Go.B.rep [0] 1001) l → ∀ {h : Heap} {F : List Chk} {ψ' : Snap}, Sub ψ ψ' → St ψ' F h →
    CallsH Tryz.prog 8 [.pointer (some u), .string s, quoV wideT] h (Back fun v h' => v = aggOf (ansT 8 12) ∧ St ψ' F h') ∧
    CallsH Tryz.prog 8 [.pointer (some u), .string s, quoV (1, 0, 0, 0, 0, 0, ())] h (Back fun v h' => v = aggOf (ansT 8 12) ∧ St ψ' F h')
abbrev sumS : ByteArray := ⟨#[37, 116, 111, 107, 101, 110, 32, 78, 32, 91, 48, 45, 57, 93, 43, 32, 37, 116, 111, 107, 101, 110, 32, 80, 32, 34, 43, 34, 32, 37, 108, 101, 102, 116, 32, 80, 32, 37, 37, 32, 69, 32, 58, 32, 69, 32, 80, 32, 69, 32, 123, 36, 49, 32, 43, 32, 36, 51, 125, 32, 124, 32, 78, 32, 59]⟩
theorem build_sim (gk : GlobA φ) (s0 : St φ F h) : CallsH Tryz.prog 6 [.string sumS, quoV wideT] h (Back fun v h' => ∃ (u : Addr) (x : AT) (ψ : Snap), v = .tuple #[.pointer (some u), aggOf x] ∧ Sub φ ψ ∧ UnitOk ψ u ∧ St ψ F h') := by
  obtain ⟨i, o, a, b, c, d, e, f, s, t, g, j, A, h0, hs, ht, _⟩ := Go.B.chkU_ok (Go.B.saidU [])
  have hlong : ∀ l, (∃ A', Go.B.run 8 [.ptr i o, Go.B.longA l, Go.B.wideA] (Go.B.frz A) = .ok (Go.B.ansA 8 12) A') ∧ ∃ A', Go.B.run 8 [.ptr i o, Go.B.longA l, Go.B.stepsA] (Go.B.frz A) = .ok (Go.B.ansA 8 12) A' := fun l => by
    obtain ⟨i', o', a', b', c', d', e', f', s', t', g', j', A', h0', _, _, h1, h2⟩ := Go.B.chkU_ok (Go.B.saidU l)
    rw [h0] at h0'
    simp only [Go.B.Res.ok.injEq, Go.B.AV.tup.injEq, List.cons.injEq, Go.B.AV.ptr.injEq, and_true] at h0'
    obtain ⟨⟨⟨rfl, rfl⟩, _⟩, rfl⟩ := h0'
    exact ⟨h1, h2⟩
  refine (Go.B.made Go.B.rec0_ok (by decide) h0 ⟨_, Tryz.func6, by kernel_rfl⟩ (vs := [.string sumS, quoV wideT]) (.cons (.str rfl) (.cons (quo_rv wideT) .nil)) gk s0).mono fun e2 h' ⟨v, ψ, ρ', he, hs2, st, hr, hm⟩ => ?_
  cases hr with
  | @tup l x h1 =>
    cases x with
    | mk xs =>
      simp only at h1
      cases h1 with
      | cons a1 h1 => cases h1 with
        | cons a2 h1 =>
          cases h1
          cases a1 with
          | @ptr _ p _ hp =>
            cases a2 with
            | @agg l2 x2 h3 h4 =>
              cases x2 with
              | mk ys =>
                simp only at h3
                cases h3 with
                | cons b1 h3 => cases h3 with
                  | cons b2 h3 => cases h3 with
                    | cons b3 h3 => cases h3 with
                      | cons b4 h3 => cases h3 with
                        | cons b5 h3 => cases h3 with
                          | cons b6 h3 => cases h3 with
                            | cons b7 h3 => cases h3 with
                              | cons b8 h3 => cases h3 with
                                | cons b9 h3 => cases h3 with
                                  | cons b10 h3 =>
                                    cases h3
                                    cases b1
                                    cases b2
                                    cases b3
                                    cases b4
                                    cases b5
                                    obtain ⟨z, rfl, _⟩ := rv_str b6
                                    obtain ⟨t7, rfl⟩ := rv_sl hs b7
                                    obtain ⟨t8, rfl⟩ := rv_sl ht b8
                                    cases b9
                                    cases b10
                                    refine ⟨_, he, ⟨p.b, p.off + o, none⟩, (a, b, c, d, e, z, t7, t8, g, j, ()), ψ, rfl, hs2, ⟨fun sv l hsv {h2 F2 ψ'} hle st2 => ?_⟩, st⟩
                                    obtain ⟨⟨A1, q1⟩, A2, q2⟩ := hlong l
                                    refine ⟨(Go.B.used Go.B.rec0_ok (hm.up hle) q1 ⟨_, Tryz.func8, by kernel_rfl⟩ (vs := [.pointer (some ⟨p.b, p.off + o, none⟩), .string sv, quoV wideT]) (.cons (.ptr o hp) (.cons (.str hsv) (.cons (quo_rv wideT) .nil))) st2).mono fun e3 h3 ⟨v3, ρ3, he3, st3, hr3⟩ => ⟨_, he3, rv_ans hr3, st3⟩,
                                      (Go.B.used Go.B.rec0_ok (hm.up hle) q2 ⟨_, Tryz.func8, by kernel_rfl⟩ (vs := [.pointer (some ⟨p.b, p.off + o, none⟩), .string sv, quoV (1, 0, 0, 0, 0, 0, ())]) (.cons (.ptr o hp) (.cons (.str hsv) (.cons (quo_rv (1, 0, 0, 0, 0, 0, ())) .nil))) st2).mono fun e3 h3 ⟨v3, ρ3, he3, st3, hr3⟩ => ⟨_, he3, rv_ans hr3, st3⟩⟩
end
end Go.Proofs.YteligkemohngiaaGreatDoor

/-
  PARSE: the law ParseNone.
  Conditions: the program's variables hold what the row lists.
-/
namespace Go.Proofs.YteligkemohngiaaGreatDoor
open Go Go.Eng
set_option linter.unusedVariables false
set_option maxRecDepth 100000
section
variable {φ : Snap} {h : Heap} {F : List Chk}
theorem mkByte : MakeT Tryz.prog 46 5 (.int .u8 0) := ⟨Tryz.underlying46, ⟨Tryz.t5, by kernel_rfl, rfl, ⟨_, rfl, rfl⟩, by decide⟩⟩
abbrev ansC (k c : Int) : List Value := [.int .i64 k, .int .i64 c, .int .i64 0, .int .i64 0, .int .i64 0, .string ⟨#[]⟩, .slice none 0 0, .slice none 0 0, .int .i64 0, .int .i64 0]
abbrev cellsOf (a : AT) : List Value := [.int .i64 a.1, .int .i64 a.2.1, .int .i64 a.2.2.1, .int .i64 a.2.2.2.1, .int .i64 a.2.2.2.2.1, .string a.2.2.2.2.2.1, sv a.2.2.2.2.2.2.1, sv a.2.2.2.2.2.2.2.1, .int .i64 a.2.2.2.2.2.2.2.2.1, .int .i64 a.2.2.2.2.2.2.2.2.2.1]
/-- Bytes that are all 0. -/
abbrev zerosS (n : Nat) : ByteArray := ⟨((List.replicate n (0 : Int)).map fun x => UInt8.ofNat x.toNat).toArray⟩
theorem zeros_str (n : Nat) : toStr (List.replicate n (0 : Int)) = some (zerosS n) := by
  unfold toStr
  have : (List.replicate n (0 : Int)).all isByte = true := by
    rw [List.all_eq_true]
    intro x hx
    rw [List.eq_of_mem_replicate hx]
    decide
  rw [if_pos this]
theorem rep_zeros : ∀ n, Go.B.rep [0] n = List.replicate n 0 := by
  intro n
  induction n with
  | zero => rfl
  | succ n ih =>
    show Go.B.appN [0] (Go.B.rep [0] n) = _
    rw [ih, Go.B.appN_eq]
    rfl
theorem zeros_long (m : Nat) (text : ByteArray) : Go.B.strL (zerosS (1001 + m) ++ text) = Go.B.appN (Go.B.rep [0] 1001) (List.replicate m 0 ++ Go.B.strL text) := by
  rw [Go.B.appN_eq, rep_zeros, ← List.append_assoc, List.replicate_append_replicate]
  unfold Go.B.strL
  rw [ByteArray.data_append, Array.toList_append, List.map_append]
  congr 1
  show List.map _ (List.map _ (List.replicate (1001 + m) (0 : Int))) = _
  rw [List.map_map, List.map_replicate]
  rfl
theorem zeros_size (n : Nat) : (zerosS n).size = n := by
  show (zerosS n).data.size = n
  simp
theorem none_sim (gk : GlobA φ) {text : ByteArray} {q : QT} {more : Int} (hm : 0 ≤ more ∧ more < 256) (s0 : St φ F h) : CallsH Tryz.prog 4 [.string text, quoV q, .int .u8 more] h (Back fun v h' => ∃ ψ : Snap, ∃ y : Bool, Sub φ ψ ∧ v = ((.one (.atom .bool)) : Sh).val y ∧ y = true ∧ St ψ F h') := by
  refine calls_den mixed Tryz.func4 (tronagelaw24_ParseNone_den ..) ?_
  refine s_new (vs := quoC q) s0 fun r1 g1 s1 => ?_
  refine s_call (aw_sim gk s1) ?_
  rintro _ g2 ⟨rfl, ψ1, le1, s2⟩
  refine ⟨true, rfl, ?_⟩
  refine t_cond (fun _ => finOf_back ⟨ψ1, true, le1, rfl, rfl, s2.tail⟩) fun hsz => ?_
  have hsz : text.size ≤ 60 := by have := of_decide_eq_false hsz; omega
  refine s_loadR (x := q.1) s2 rfl ?_
  refine s_loadR (x := q.2.1) s2 rfl ?_
  refine s_loadR (x := q.2.2.1) s2 rfl ?_
  refine s_loadR (x := q.2.2.2.1) s2 rfl ?_
  refine s_loadR (x := q.2.2.2.2.1) s2 rfl ?_
  refine s_loadR (x := q.2.2.2.2.2.1) s2 rfl ?_
  refine s_call (new_sim s2) ?_
  rintro _ g3 ⟨b, ψ2, rfl, le2, nu, s3⟩
  refine ⟨some ⟨b, 0, none⟩, rfl, ?_⟩
  have le12 := le1.trans le2
  refine s_call (wide_sim (gk.up le12) s3) ?_
  rintro _ g4 ⟨rfl, ψ3, le3, s4⟩
  refine ⟨wideT, rfl, ?_⟩
  have le13 := le12.trans le3
  refine s_call (build_sim (gk.up le13) s4) ?_
  rintro _ g5 ⟨u, x, ψ4, rfl, le4, uo, s5⟩
  refine ⟨(some u, x, ()), rfl, ?_⟩
  have le14 := le13.trans le4
  refine s_new (vs := ansC 0 0) s5 fun r12 g6 s6 => ?_
  refine s_put s6 rfl (by simp) fun w1 t1 => ?_
  iterate 9 refine s_put t1 rfl (by simp) fun w1 t1 => ?_
  have s7 : St ψ4 (cW 33 r12 (cellsOf x) :: cW 37 r1 (quoC q) :: F) w1 := t1
  clear t1
  refine s_join (fun (y : Bool × Unit) w (_ : Unit) => y.1 = false ∧ w = w1) (g := ()) (t_false rfl (s_out (false, ()) rfl ⟨rfl, rfl⟩)) ?_
  rintro ⟨z, _⟩ _ ⟨hz, rfl⟩
  have hz : z = false := hz
  subst hz
  refine t_false rfl ?_
  refine s_call (answer_sim (gk.up le14) (nu.up (le3.trans le4)) s7) ?_
  rintro _ g8 ⟨rfl, ψ5, le5, s8⟩
  refine ⟨ansT 10 0, rfl, ?_⟩
  have le15 := le14.trans le5
  refine s_new (vs := ansC 0 0) s8 fun r15 g9 s9 => ?_
  refine s_put s9 rfl (by simp) fun w1 t1 => ?_
  iterate 9 refine s_put t1 rfl (by simp) fun w1 t1 => ?_
  have s10 : St ψ5 (cW 33 r15 (ansC 10 0) :: cW 33 r12 (cellsOf x) :: cW 37 r1 (quoC q) :: F) w1 := t1
  clear t1
  obtain ⟨m, rfl⟩ : ∃ m : Nat, more = (m : Int) := ⟨more.toNat, by omega⟩
  have e1 : IntKind.wrap .i64 ((1001 : Int) + IntKind.wrap .i64 (m : Int)) = ((1001 + m : Nat) : Int) := by
    rw [IntWalk.i64_in (m : Int) (by constructor <;> omega), IntWalk.i64_in _ (by constructor <;> omega)]
    omega
  refine s_make (r := Ro.int .u8) (x := (0 : Int)) (n := ((1001 + m : Nat) : Int)) (l := List.replicate (1001 + m) (0 : Int)) mkByte s10 rfl e1 (by unfold mkRow; rw [if_pos ⟨by omega, by omega⟩]; rfl) fun t16 g10 s11 => ?_
  refine s_toString (x := zerosS (1001 + m)) Tryz.underlying46 Tryz.underlying5 Tryz.underlying9 s11.bytes (zeros_str _) ?_
  refine t_chk (by
    rw [zeros_size]
    have : IntKind.max .i64 = 9223372036854775807 := rfl
    omega) ?_
  refine s_call (wide_sim (gk.up le15) s11) ?_
  rintro _ g11 ⟨rfl, ψ6, le6, s12⟩
  refine ⟨wideT, rfl, ?_⟩
  have le56 := le5.trans le6
  have le16 := le15.trans le6
  refine s_call ((uo.long _ _ (zeros_long m text) le56 s12).1) ?_
  rintro _ g12 ⟨rfl, s13⟩
  refine ⟨ansT 8 12, rfl, ?_⟩
  refine s_new (vs := ansC 0 0) s13 fun r20 g13 s14 => ?_
  refine s_put s14 rfl (by simp) fun w1 t1 => ?_
  iterate 9 refine s_put t1 rfl (by simp) fun w1 t1 => ?_
  refine s_call ((uo.long _ _ (zeros_long m text) le56 t1).2) ?_
  clear t1
  rintro _ g14 ⟨rfl, s15⟩
  refine ⟨ansT 8 12, rfl, ?_⟩
  refine s_new (vs := ansC 0 0) s15 fun r22 g15 s16 => ?_
  refine s_put s16 rfl (by simp) fun w1 t1 => ?_
  iterate 9 refine s_put t1 rfl (by simp) fun w1 t1 => ?_
  refine s_new (vs := ansC 0 0) t1 fun r23 g16 s17 => ?_
  clear t1
  refine s_put s17 rfl (by simp) fun w1 t1 => ?_
  iterate 9 refine s_put t1 rfl (by simp) fun w1 t1 => ?_
  have s18 : St ψ6 (cW 33 r23 (ansC 8 12) :: cW 33 r22 (ansC 8 12) :: cW 33 r20 (ansC 8 12) :: cR 5 (Ro.int .u8) t16 (List.replicate (1001 + m) (0 : Int)) :: cW 33 r15 (ansC 10 0) :: cW 33 r12 (cellsOf x) :: cW 37 r1 (quoC q) :: F) w1 := t1
  clear t1
  refine s_join (fun (y : Bool × Unit) w (_ : Unit) => y.1 = true ∧ ∃ ψ, Sub φ ψ ∧ St ψ (cW 33 r23 (ansC 8 12) :: cW 33 r22 (ansC 8 12) :: cW 33 r20 (ansC 8 12) :: cR 5 (Ro.int .u8) t16 (List.replicate (1001 + m) (0 : Int)) :: cW 33 r15 (ansC 10 0) :: cW 33 r12 (cellsOf x) :: cW 37 r1 (quoC q) :: F) w) (g := ()) ?_ ?_
  · refine t_true rfl ?_
    refine s_loadR (x := (10 : Int)) s18.at4 rfl ?_
    refine s_loadR (x := (0 : Int)) s18.at4 rfl ?_
    refine s_loadR (x := (0 : Int)) s18.at4 rfl ?_
    refine s_loadR (x := (0 : Int)) s18.at4 rfl ?_
    refine s_loadR (x := (0 : Int)) s18.at4 rfl ?_
    refine s_loadR (x := (⟨#[]⟩ : ByteArray)) s18.at4 rfl ?_
    refine s_loadR (x := (none, 0, 0)) s18.at4 rfl ?_
    refine s_loadR (x := (none, 0, 0)) s18.at4 rfl ?_
    refine s_loadR (x := (0 : Int)) s18.at4 rfl ?_
    refine s_loadR (x := (0 : Int)) s18.at4 rfl ?_
    refine s_call (same_sim (gk.up le16) Go.B.saidS s18) ?_
    rintro _ g17 ⟨rfl, ψ7, le7, s19⟩
    refine ⟨true, rfl, ?_⟩
    refine t_true rfl ?_
    have nu7 := nu.up (le3.trans (le4.trans (le56.trans le7)))
    refine s_call (step_sim nu7 s19) ?_
    rintro _ g18 ⟨rfl, s20⟩
    refine ⟨true, rfl, ?_⟩
    refine t_true rfl ?_
    refine s_call (steps_sim nu7 s20) ?_
    rintro _ g19 ⟨rfl, s21⟩
    refine ⟨(0 : Int), rfl, ?_⟩
    refine t_true rfl ?_
    have le17 := le16.trans le7
    refine s_loadR (x := q.1) s21.at6 rfl ?_
    refine s_loadR (x := q.2.1) s21.at6 rfl ?_
    refine s_loadR (x := q.2.2.1) s21.at6 rfl ?_
    refine s_loadR (x := q.2.2.2.1) s21.at6 rfl ?_
    refine s_loadR (x := q.2.2.2.2.1) s21.at6 rfl ?_
    refine s_loadR (x := q.2.2.2.2.2.1) s21.at6 rfl ?_
    refine s_loadR (x := (10 : Int)) s21.at4 rfl ?_
    refine s_loadR (x := (0 : Int)) s21.at4 rfl ?_
    refine s_loadR (x := (0 : Int)) s21.at4 rfl ?_
    refine s_loadR (x := (0 : Int)) s21.at4 rfl ?_
    refine s_loadR (x := (0 : Int)) s21.at4 rfl ?_
    refine s_loadR (x := (⟨#[]⟩ : ByteArray)) s21.at4 rfl ?_
    refine s_loadR (x := (none, 0, 0)) s21.at4 rfl ?_
    refine s_loadR (x := (none, 0, 0)) s21.at4 rfl ?_
    refine s_loadR (x := (0 : Int)) s21.at4 rfl ?_
    refine s_loadR (x := (0 : Int)) s21.at4 rfl ?_
    refine s_call (parse_sim (gk.up le17) s21) ?_
    rintro _ g20 ⟨rfl, ψ8, le8, s22⟩
    refine ⟨ansT 10 0, rfl, ?_⟩
    have le18 := le17.trans le8
    refine t_still (St.cell (j := 0) s22.at4 rfl) ?_
    refine t_still (St.cell (j := 1) s22.at4 rfl) ?_
    refine t_still (St.cell (j := 2) s22.at4 rfl) ?_
    refine t_still (St.cell (j := 3) s22.at4 rfl) ?_
    refine t_still (St.cell (j := 4) s22.at4 rfl) ?_
    refine t_still (St.cell (j := 5) s22.at4 rfl) ?_
    refine t_still (St.cell (j := 6) s22.at4 rfl) ?_
    refine t_still (St.cell (j := 7) s22.at4 rfl) ?_
    refine t_still (St.cell (j := 8) s22.at4 rfl) ?_
    refine t_still (St.cell (j := 9) s22.at4 rfl) ?_
    refine s_call (same_sim (gk.up le18) Go.B.saidS s22) ?_
    rintro _ g21 ⟨rfl, ψ9, le9, s23⟩
    refine ⟨true, rfl, ?_⟩
    refine t_true rfl ?_
    have le19 := le18.trans le9
    refine s_loadR (x := (8 : Int)) s23.at2 rfl ?_
    refine s_loadR (x := (12 : Int)) s23.at2 rfl ?_
    refine s_loadR (x := (0 : Int)) s23.at2 rfl ?_
    refine s_loadR (x := (0 : Int)) s23.at2 rfl ?_
    refine s_loadR (x := (0 : Int)) s23.at2 rfl ?_
    refine s_loadR (x := (⟨#[]⟩ : ByteArray)) s23.at2 rfl ?_
    refine s_loadR (x := (none, 0, 0)) s23.at2 rfl ?_
    refine s_loadR (x := (none, 0, 0)) s23.at2 rfl ?_
    refine s_loadR (x := (0 : Int)) s23.at2 rfl ?_
    refine s_loadR (x := (0 : Int)) s23.at2 rfl ?_
    refine s_loadR (x := (8 : Int)) s23 rfl ?_
    refine s_loadR (x := (12 : Int)) s23 rfl ?_
    refine s_loadR (x := (0 : Int)) s23 rfl ?_
    refine s_loadR (x := (0 : Int)) s23 rfl ?_
    refine s_loadR (x := (0 : Int)) s23 rfl ?_
    refine s_loadR (x := (⟨#[]⟩ : ByteArray)) s23 rfl ?_
    refine s_loadR (x := (none, 0, 0)) s23 rfl ?_
    refine s_loadR (x := (none, 0, 0)) s23 rfl ?_
    refine s_loadR (x := (0 : Int)) s23 rfl ?_
    refine s_loadR (x := (0 : Int)) s23 rfl ?_
    refine s_call (same_sim (gk.up le19) Go.B.saidT s23) ?_
    rintro _ g22 ⟨rfl, ψ10, le10, s24⟩
    refine ⟨true, rfl, ?_⟩
    refine t_true rfl ?_
    have le110 := le19.trans le10
    refine s_loadR (x := (8 : Int)) s24.at1 rfl ?_
    refine s_loadR (x := (12 : Int)) s24.at1 rfl ?_
    refine s_loadR (x := (0 : Int)) s24.at1 rfl ?_
    refine s_loadR (x := (0 : Int)) s24.at1 rfl ?_
    refine s_loadR (x := (0 : Int)) s24.at1 rfl ?_
    refine s_loadR (x := (⟨#[]⟩ : ByteArray)) s24.at1 rfl ?_
    refine s_loadR (x := (none, 0, 0)) s24.at1 rfl ?_
    refine s_loadR (x := (none, 0, 0)) s24.at1 rfl ?_
    refine s_loadR (x := (0 : Int)) s24.at1 rfl ?_
    refine s_loadR (x := (0 : Int)) s24.at1 rfl ?_
    refine s_loadR (x := (8 : Int)) s24 rfl ?_
    refine s_loadR (x := (12 : Int)) s24 rfl ?_
    refine s_loadR (x := (0 : Int)) s24 rfl ?_
    refine s_loadR (x := (0 : Int)) s24 rfl ?_
    refine s_loadR (x := (0 : Int)) s24 rfl ?_
    refine s_loadR (x := (⟨#[]⟩ : ByteArray)) s24 rfl ?_
    refine s_loadR (x := (none, 0, 0)) s24 rfl ?_
    refine s_loadR (x := (none, 0, 0)) s24 rfl ?_
    refine s_loadR (x := (0 : Int)) s24 rfl ?_
    refine s_loadR (x := (0 : Int)) s24 rfl ?_
    refine s_call (same_sim (gk.up le110) Go.B.saidT s24) ?_
    rintro _ g23 ⟨rfl, ψ11, le11, s25⟩
    refine ⟨true, rfl, ?_⟩
    exact s_out (true, ()) rfl ⟨rfl, ψ11, le110.trans le11, s25⟩
  · rintro ⟨z, _⟩ w ⟨hz, ψ, le, st⟩
    have hz : z = true := hz
    subst hz
    exact finOf_back ⟨ψ, true, le, rfl, rfl, st.tail.tail.tail.tail.tail.tail.tail⟩
end
end Go.Proofs.YteligkemohngiaaGreatDoor

/-
  THE ABSTRACT MACHINE, PART MM: what a row lists of the program's variables, as abstract cells.
  Conditions: none; it speaks of any program.
-/
namespace Go.B
open Go Go.Eng
set_option maxRecDepth 100000
set_option linter.unusedVariables false
/-- pieces at their places, one behind the other -/
def joinA : Nat → List (Nat × List AV) → Option (List AV)
  | _, [] => some []
  | p, x :: r => bif x.1 == p then (joinA (p + x.2.length) r).map (x.2 ++ ·) else none
def all2 {α β : Type} (f : α → Option β) : List α → Option (List β)
  | [] => some []
  | a :: l => (f a).bind fun b => (all2 f l).map (b :: ·)
def arrA {α : Type} (sz : Nat) : Nat → List α → List ((Nat × Unit) × α)
  | _, [] => []
  | i, a :: l => ((i * sz, ()), a) :: arrA sz (i + 1) l
/-- A datum's cells. -/
def dA {H : Type} (P : Program) : Nat → TypeId → DataW H → Option (List AV)
  | 0, _, _ => none
  | n + 1, t, d => match P.underlying t, d with
    | some .bool, .lit (.bool b) => some [.bool b]
    | some (.int _), .lit (.int k z) => some [.int k z]
    | some .string, .lit (.string s) => some [.str (s.map (·.toNat))]
    | some (.array m e), .agg ds => (all2 (fun x => (dA P n e x.2).map fun l => (x.1.1, l)) (arrA (P.cellsOf e) 0 ds)).bind (joinA 0)
    | some (.struct fs), .agg ds => (all2 (fun (x : Field × DataW H) => (dA P n x.1.type x.2).map fun l => (x.1.offset, l)) (fs.toList.zip ds)).bind (joinA 0)
    | _, _ => none
/-- The cells from a place on. -/
def OkA (cs : List Value) (p : Nat) (l : List AV) : Prop := ∀ (j : Nat) a, l[j]? = some a → plainA a = true ∧ ∃ v, cs[p + j]? = some v ∧ ∀ ρ, RV ρ a v
theorem join_ok {cs : List Value} : ∀ {L : List (Nat × List AV)} {p : Nat} {m : List AV}, joinA p L = some m → (∀ x ∈ L, OkA cs x.1 x.2) → OkA cs p m := by
  intro L
  induction L with
  | nil => intro p m h _ j a ha; cases h; simp at ha
  | cons x L ih =>
    intro p m h hx
    unfold joinA at h
    cases hp : (x.1 == p) with
    | false => rw [hp] at h; cases h
    | true =>
      rw [hp, cond_true, Option.map_eq_some_iff] at h
      obtain ⟨m', h1, rfl⟩ := h
      have hp : x.1 = p := by simpa using hp
      subst hp
      have k1 := hx x (List.mem_cons_self ..)
      have k2 := ih h1 fun y hy => hx y (List.mem_cons_of_mem _ hy)
      intro j a ha
      rcases Nat.lt_or_ge j x.2.length with g | g
      · rw [List.getElem?_append_left g] at ha; exact k1 j a ha
      · rw [List.getElem?_append_right g] at ha
        have := k2 _ a ha
        rw [show x.1 + x.2.length + (j - x.2.length) = x.1 + j by omega] at this
        exact this
theorem all2_mem {α β : Type} {f : α → Option β} : ∀ {l : List α} {m : List β}, all2 f l = some m → ∀ b ∈ m, ∃ a ∈ l, f a = some b := by
  intro l
  induction l with
  | nil => intro m h b hb; cases h; cases hb
  | cons a l ih =>
    intro m h b hb
    unfold all2 at h
    rw [Option.bind_eq_some_iff] at h
    obtain ⟨c, h1, h2⟩ := h
    rw [Option.map_eq_some_iff] at h2
    obtain ⟨m', h3, rfl⟩ := h2
    rcases List.mem_cons.1 hb with rfl | hb
    · exact ⟨a, List.mem_cons_self .., h1⟩
    · obtain ⟨x, h4, h5⟩ := ih h3 b hb
      exact ⟨x, List.mem_cons_of_mem _ h4, h5⟩
theorem arr_mem {α : Type} {sz : Nat} : ∀ {l : List α} {i : Nat} {x : (Nat × Unit) × α}, x ∈ arrA sz i l → ∃ k, l[k]? = some x.2 ∧ x.1.1 = (i + k) * sz := by
  intro l
  induction l with
  | nil => intro i x h; cases h
  | cons a l ih =>
    intro i x h
    rcases List.mem_cons.1 h with rfl | h
    · exact ⟨0, rfl, rfl⟩
    · obtain ⟨k, h1, h2⟩ := ih h
      exact ⟨k + 1, by simpa using h1, by rw [h2]; congr 1; omega⟩
theorem OkA.up {cs : List Value} {o n : Nat} {l : List AV} (h : OkA ((cs.drop o).take n) 0 l) : OkA cs o l := fun j a ha => by
  obtain ⟨h1, v, h2, h3⟩ := h j a ha
  refine ⟨h1, v, ?_, h3⟩
  rw [Nat.zero_add, List.getElem?_take] at h2
  split at h2
  · rw [List.getElem?_drop] at h2; exact h2
  · cases h2
/-- What is read as a datum is its cells. -/
theorem dA_ok {H : Type} {enc : TypeId × Value → H} {P : Program} {w : World} {base : Nat} {sp : Nat → Bool} {held : Bool} : ∀ (n : Nat) (t : TypeId) (d : DataW H) (l : List AV), dA P n t d = some l → ∀ fuel cs p, DataW.trod enc P w base sp held fuel t cs = some (d, p) → OkA cs 0 l := by
  have one : ∀ {a : AV} {v : Value}, plainA a = true → (∀ ρ, RV ρ a v) → OkA [v] 0 [a] := fun {a v} h1 h2 j b hb => by
    cases j with
    | zero => simp at hb; subst hb; exact ⟨h1, v, rfl, h2⟩
    | succ j => simp at hb
  intro n
  induction n with
  | zero => intro t d l h; cases h
  | succ n ih =>
    intro t d l h fuel cs p ht
    unfold dA at h
    split at h
    · rename_i b hu
      cases h
      obtain ⟨b', rfl, hx⟩ := DataW.trod_bool hu ht
      cases hx
      exact one rfl fun ρ => .bool b
    · rename_i k0 k z hu
      cases h
      obtain ⟨z', rfl, hx, _⟩ := DataW.trod_int hu ht
      cases hx
      exact one rfl fun ρ => .int _ _
    · rename_i s hu
      cases h
      obtain ⟨s', rfl, hx, _⟩ := DataW.trod_string hu ht
      cases hx
      exact one rfl fun ρ => .str rfl
    · rename_i m e ds hu
      rw [Option.bind_eq_some_iff] at h
      obtain ⟨L, h1, h2⟩ := h
      obtain ⟨xs, m', rfl, hx, _, hlen, hel⟩ := DataW.trod_array hu ht
      refine join_ok h2 fun x hxm => ?_
      obtain ⟨y, hy, hf⟩ := all2_mem h1 x hxm
      rw [Option.map_eq_some_iff] at hf
      obtain ⟨l', h3, rfl⟩ := hf
      obtain ⟨k, h4, h5⟩ := arr_mem hy
      rw [Nat.zero_add] at h5
      simp only [Prod.mk.injEq, DataW.agg.injEq] at hx
      rw [hx.1, List.getElem?_map, Option.map_eq_some_iff] at h4
      obtain ⟨z, h6, h7⟩ := h4
      have hk : k < m := by
        rw [← hlen]
        rcases Nat.lt_or_ge k xs.length with g | g
        · exact g
        · rw [List.getElem?_eq_none g] at h6; cases h6
      have h8 := hel k hk
      rw [h6] at h8
      obtain ⟨z1, z2⟩ := z
      have h7 : z1 = y.2 := h7
      subst h7
      have := (ih _ _ _ h3 _ _ _ h8).up
      rw [← h5] at this
      exact this
    · rename_i fs ds hu
      rw [Option.bind_eq_some_iff] at h
      obtain ⟨L, h1, h2⟩ := h
      obtain ⟨xs, m', rfl, hx, _, hlen, hel⟩ := DataW.trod_struct hu ht
      refine join_ok h2 fun x hxm => ?_
      obtain ⟨y, hy, hf⟩ := all2_mem h1 x hxm
      rw [Option.map_eq_some_iff] at hf
      obtain ⟨l', h3, rfl⟩ := hf
      obtain ⟨k, hk⟩ := List.getElem?_of_mem hy
      rw [List.getElem?_zip_eq_some] at hk
      obtain ⟨h4, h5⟩ := hk
      simp only [Prod.mk.injEq, DataW.agg.injEq] at hx
      rw [hx.1, List.getElem?_map, Option.map_eq_some_iff] at h5
      obtain ⟨z, h6, h7⟩ := h5
      have h8 := hel k y.1 (by simpa using h4)
      rw [h6] at h8
      obtain ⟨z1, z2⟩ := z
      have h7 : z1 = y.2 := h7
      subst h7
      exact (ih _ _ _ h3 _ _ _ h8).up
    · cases h
/-- The variables' cells, as a row lists them. -/
def lsOf (P : Program) (laid : List (String × DataW Unit)) (m : Nat) : List (Option (List AV)) := (List.range m).map fun g => (laid.find? fun x => P.globalNamed x.1 == some g).bind fun x => ((P.globals[g]?).map (·.type)).bind fun t => dA P 5 t x.2
theorem laidVars_mem {P : Program} {w : World} {x : String × DataW Unit} : ∀ {laid : List (String × DataW Unit)} {ps : List MemPlace}, DataW.LaidVars P w laid ps → x ∈ laid → ∃ g t cs fuel p, P.globalNamed x.1 = some g ∧ (P.globals[g]?).map (·.type) = some t ∧ w.var? P x.1 = some cs ∧ DataW.trod (fun _ => ()) P w 0 (fun _ => true) false fuel t cs.toList = some (x.2, p) := by
  intro laid
  induction laid with
  | nil => intro ps _ h; cases h
  | cons y laid ih =>
    intro ps h hx
    obtain ⟨n, d⟩ := y
    obtain ⟨g, t, cs, fuel, p, q, h1, h2, h3, h4, h5, _⟩ := h
    rcases List.mem_cons.1 hx with rfl | hx
    · exact ⟨g, t, cs, fuel, p, h1, h2, h3, h4⟩
    · exact ih h5 hx
theorem laid_ok {P : Program} {laid : List (String × DataW Unit)} {w : World} (h : laidMet P laid w) {m : Nat} {ls : List (Option (List AV))} (hls : lsOf P laid m = ls) : ∀ (g : Nat) l, ls[g]? = some (some l) → Laid w.heap g l := by
  intro g l hg
  subst hls
  unfold lsOf at hg
  rw [List.getElem?_map, Option.map_eq_some_iff] at hg
  obtain ⟨g', hg', h1⟩ := hg
  have : g' = g := by
    rw [List.getElem?_range] at hg'
    · exact (Option.some.inj hg').symm
    · rcases Nat.lt_or_ge g m with k | k
      · exact k
      · rw [List.getElem?_eq_none (by simpa using k)] at hg'; cases hg'
  subst this
  rw [Option.bind_eq_some_iff] at h1
  obtain ⟨x, h2, h3⟩ := h1
  rw [Option.bind_eq_some_iff] at h3
  obtain ⟨t, h4, h5⟩ := h3
  have hn := List.find?_some h2
  have hn : P.globalNamed x.1 = some g' := by simpa using hn
  obtain ⟨ps, hv, _⟩ := h
  obtain ⟨g2, t2, cs, fuel, p, k1, k2, k3, k4⟩ := laidVars_mem hv (List.mem_of_find?_eq_some h2)
  rw [hn] at k1
  cases k1
  rw [h4] at k2
  cases k2
  have hok := dA_ok 5 t x.2 l h5 _ _ _ k4
  unfold World.var? at k3
  rw [hn, Option.bind_some] at k3
  have k3 : (match w.heap[g']? with | some (.cells cs _ _) => some cs | _ => none) = some cs := k3
  split at k3
  · rename_i c ty f hc
    cases k3
    refine ⟨_, ty, f, hc, fun j a ha => ?_⟩
    obtain ⟨q1, v, q2, q3⟩ := hok j a ha
    exact ⟨q1, v, by rw [Nat.zero_add] at q2; simpa using q2, q3⟩
  · cases k3
end Go.B

/-
  THE ENGINE, PART R: what a row's reading of an argument says of the heap; from a law's tree to the row's walk.
  Conditions: none; it speaks of any program.
-/
namespace Go.Eng
open Go Go.RowKit

/-- What can be read: the cells of a value of a type. -/
def Reads (P : Program) (h : Heap) : Nat → TypeId → List Value → Prop
  | 0, _, _ => False
  | n + 1, t, cs => match P.underlying t with
    | some .bool => ∃ b, cs = [.bool b]
    | some (.int k) => ∃ x, cs = [.int k x] ∧ (Lit.int k x).wf = true
    | some .string => ∃ s, cs = [.string s] ∧ s.size ≤ maxLen
    | some (.slice e) => ∃ p len cap, cs = [.slice p len cap] ∧ len ≤ cap ∧ cap ≤ maxLen ∧ (p = none → len = 0 ∧ cap = 0) ∧
        ∀ i, i < len → ∃ cs', cs'.length = P.cellsOf e ∧ (∀ j v, cs'[j]? = some v → ∃ a, p = some a ∧ cellH h (a.add (i * P.cellsOf e + j)) = some v) ∧ Reads P h n e cs'
    | some (.struct fs) => cs.length = P.cellsOf t ∧ ∀ f ∈ fs.toList, Reads P h n f.type ((cs.drop f.offset).take (P.cellsOf f.type))
    | _ => True

theorem mapM_some_mem {α β : Type} {f : α → Option β} : ∀ {l : List α} {r : List β}, l.mapM f = some r → ∀ a ∈ l, ∃ b, f a = some b := by
  intro l
  induction l with
  | nil => intro r _ a ha; cases ha
  | cons x l ih =>
    intro r h a ha
    rw [List.mapM_cons] at h
    cases hx : f x with
    | none => simp [hx] at h
    | some b =>
      cases hl : l.mapM f with
      | none => simp [hx, hl] at h
      | some bs =>
        rcases List.mem_cons.1 ha with rfl | ha
        · exact ⟨b, hx⟩
        · exact ih hl a ha

theorem reads_of_trod {H : Type} {enc : TypeId × Value → H} {P : Program} {w : World} {base : Nat} {spare : Nat → Bool} {held : Bool} : ∀ (fuel : Nat) (t : TypeId) (cs : List Value) (x : DataW H × List MemPlace),
    DataW.trod enc P w base spare held fuel t cs = some x → Reads P w.heap fuel t cs := by
  intro fuel
  induction fuel with
  | zero => intro t cs x h; simp [DataW.trod] at h
  | succ n ih =>
    intro t cs x h
    have h0 := h
    rw [DataW.trod_step] at h
    unfold DataW.trodStep at h
    unfold Reads
    split <;> rename_i hd <;> try trivial
    · rw [hd] at h
      split at h <;> first | cases h | skip
      all_goals rename_i h1; first | cases h1 | skip
      all_goals first | exact ⟨_, rfl⟩ | skip
    · rw [hd] at h
      split at h <;> first | cases h | skip
      all_goals rename_i h1; first | cases h1 | skip
      split at h
      · rename_i hk; obtain ⟨rfl, hw⟩ := hk; exact ⟨_, rfl, hw⟩
      · cases h
    · rw [hd] at h
      split at h <;> first | cases h | skip
      all_goals rename_i h1; first | cases h1 | skip
      split at h
      · rename_i hs; exact ⟨_, rfl, hs⟩
      · cases h
    · rename_i e
      rcases DataW.trod_slice hd h0 with ⟨rfl, _⟩ | ⟨a, len, cap, elems, rest, m, hm, rfl, _, _, hl, hc, hlen, hel, _⟩
      · exact ⟨none, 0, 0, rfl, Nat.le_refl _, Nat.zero_le _, fun _ => ⟨rfl, rfl⟩, fun i hi => by omega⟩
      · cases hm
        refine ⟨some a, len, cap, rfl, hl, hc, (fun h => by cases h), fun i hi => ?_⟩
        have h2 := hel i hi
        rw [List.getElem?_eq_getElem (by omega), Option.bind_eq_some_iff] at h2
        obtain ⟨cs', h3, h4⟩ := h2
        obtain ⟨_, h5, h6⟩ := World.cells?_some h3
        refine ⟨cs', h5, fun j v hj => ⟨a, rfl, ?_⟩, ih _ _ _ h4⟩
        have hjl : j < P.cellsOf e := by
          rcases Nat.lt_or_ge j cs'.length with g | g
          · omega
          · rw [List.getElem?_eq_none g] at hj; cases hj
        have := h6 j hjl
        rw [hj, add_add] at this
        exact this
    · rename_i fs
      rw [hd] at h
      dsimp only at h
      by_cases hlen : cs.length = P.cellsOf t
      · rw [if_pos hlen, Option.map_eq_some_iff] at h
        obtain ⟨xs, h2, _⟩ := h
        refine ⟨hlen, fun f hf => ?_⟩
        obtain ⟨y, hy⟩ := mapM_some_mem h2 f hf
        exact ih _ _ _ hy
      · rw [if_neg hlen] at h; cases h

theorem reads_of_Trod {H : Type} {enc : TypeId × Value → H} {P : Program} {w : World} {base : Nat} {spare : Nat → Bool} {held : Bool} {t : TypeId} {v : Value} {d : DataW H} {ps : List MemPlace}
    (h : DataW.Trod enc P w base spare held t v d ps) : ∃ n, Reads P w.heap n t v.cells.toList := by
  obtain ⟨fuel, hf⟩ := h
  exact ⟨fuel, reads_of_trod fuel t _ _ hf⟩

/-- What a law's call promises. -/
def Truth (h : Heap) (v : Value) (h' : Heap) : Prop := v = .bool true ∧ Keep [] h h'
theorem law_walk {P : Program} {f : FuncId} {args : Array Value} {w : World} (H : CallsH P f args.toList w.heap (Back (Truth w.heap))) :
    Calls P f args w fun e w' => e = .returned (.bool true) ∧ Below w.heap.size w w' := by
  have := H w rfl
  rw [Array.toArray_toList] at this
  refine this.mono fun e w' he => ?_
  obtain ⟨hs, he⟩ := he
  cases e with
  | returned v =>
    obtain ⟨v', hv, rfl, hk⟩ := he
    cases hv
    exact ⟨rfl, hs.os, hs.tape, hs.output, hk.1, fun k hk' => hk.2 k hk' (by simp)⟩
  | panicked c => obtain ⟨v', hv, _⟩ := he; cases hv
  | outgrown => exact he.elim

/-! ## what a reading gives, type by type -/
section
variable {P : Program} {h : Heap}
theorem reads_string {n : Nat} {t : TypeId} {cs : List Value} (ht : P.underlying t = some .string) (H : Reads P h n t cs) : ∃ s, cs = [.string s] ∧ s.size ≤ maxLen := by
  cases n with
  | zero => exact H.elim
  | succ n => unfold Reads at H; rw [ht] at H; exact H
theorem reads_int {n : Nat} {t : TypeId} {k : IntKind} {cs : List Value} (ht : P.underlying t = some (.int k)) (H : Reads P h n t cs) : ∃ x, cs = [.int k x] ∧ (Lit.int k x).wf = true := by
  cases n with
  | zero => exact H.elim
  | succ n => unfold Reads at H; rw [ht] at H; exact H
theorem reads_slice {n : Nat} {t e : TypeId} {cs : List Value} (ht : P.underlying t = some (.slice e)) (H : Reads P h n t cs) :
    ∃ m p len cap, cs = [.slice p len cap] ∧ len ≤ cap ∧ cap ≤ maxLen ∧ (p = none → len = 0 ∧ cap = 0) ∧
      ∀ i, i < len → ∃ cs', cs'.length = P.cellsOf e ∧ (∀ j v, cs'[j]? = some v → ∃ a, p = some a ∧ cellH h (a.add (i * P.cellsOf e + j)) = some v) ∧ Reads P h m e cs' := by
  cases n with
  | zero => exact H.elim
  | succ n =>
    unfold Reads at H
    rw [ht] at H
    obtain ⟨p, len, cap, h1, h2⟩ := H
    exact ⟨n, p, len, cap, h1, h2⟩
theorem reads_struct {n : Nat} {t : TypeId} {fs : Array Field} {cs : List Value} (ht : P.underlying t = some (.struct fs)) (H : Reads P h n t cs) :
    ∃ m, cs.length = P.cellsOf t ∧ ∀ f ∈ fs.toList, Reads P h m f.type ((cs.drop f.offset).take (P.cellsOf f.type)) := by
  cases n with
  | zero => exact H.elim
  | succ n =>
    unfold Reads at H
    rw [ht] at H
    exact ⟨n, H⟩

/-- A slice whose elements are read one by one: the elements as a list, the cells where they lie. -/
theorem choose_list {α : Type} {p : Nat → α → Prop} : ∀ (n : Nat), (∀ i, i < n → ∃ x, p i x) → ∃ l : List α, l.length = n ∧ ∀ i x, l[i]? = some x → p i x := by
  intro n
  induction n with
  | zero => intro _; exact ⟨[], rfl, fun i x hx => by simp at hx⟩
  | succ n ih =>
    intro H
    obtain ⟨l, hl, hp⟩ := ih fun i hi => H i (by omega)
    obtain ⟨x, hx⟩ := H n (by omega)
    refine ⟨l ++ [x], by simp [hl], fun i y hy => ?_⟩
    rcases Nat.lt_trichotomy i l.length with g | g | g
    · rw [List.getElem?_append_left g] at hy; exact hp i y hy
    · subst g; simp at hy; subst hy; rw [hl]; exact hx
    · rw [List.getElem?_eq_none (by simp; omega)] at hy; cases hy

theorem reads_strings {n : Nat} {t e : TypeId} {p : Option Addr} {len cap : Nat} (ht : P.underlying t = some (.slice e)) (he : P.underlying e = some .string) (hc : P.cellsOf e = 1) (H : Reads P h n t [.slice p len cap]) :
    len ≤ cap ∧ cap ≤ maxLen ∧ ∃ l : List ByteArray, l.length = len ∧ CellsAt h p (l.map Value.string) := by
  obtain ⟨m, p', len', cap', h1, h2, h3, _, h4⟩ := reads_slice ht H
  simp only [List.cons.injEq, Value.slice.injEq, and_true] at h1
  obtain ⟨rfl, rfl, rfl⟩ := h1
  obtain ⟨l, hl, hp⟩ := choose_list (p := fun i (s : ByteArray) => ∃ a, p = some a ∧ cellH h (a.add i) = some (.string s)) len (fun i hi => by
    obtain ⟨cs', g1, g2, g3⟩ := h4 i hi
    obtain ⟨s, rfl, _⟩ := reads_string he g3
    obtain ⟨a, ha, hcell⟩ := g2 0 _ rfl
    exact ⟨s, a, ha, by simpa [hc] using hcell⟩)
  refine ⟨h2, h3, l, hl, fun i v hv => ?_⟩
  rw [List.getElem?_map, Option.map_eq_some_iff] at hv
  obtain ⟨s, hs, rfl⟩ := hv
  exact hp i s hs
theorem reads_ints {n : Nat} {t e : TypeId} {k : IntKind} {p : Option Addr} {len cap : Nat} (ht : P.underlying t = some (.slice e)) (he : P.underlying e = some (.int k)) (hc : P.cellsOf e = 1) (H : Reads P h n t [.slice p len cap]) :
    len ≤ cap ∧ cap ≤ maxLen ∧ ∃ l : List Int, l.length = len ∧ CellsAt h p (l.map fun x => .int k x) ∧ ∀ x ∈ l, (Lit.int k x).wf = true := by
  obtain ⟨m, p', len', cap', h1, h2, h3, _, h4⟩ := reads_slice ht H
  simp only [List.cons.injEq, Value.slice.injEq, and_true] at h1
  obtain ⟨rfl, rfl, rfl⟩ := h1
  obtain ⟨l, hl, hp⟩ := choose_list (p := fun i (x : Int) => (∃ a, p = some a ∧ cellH h (a.add i) = some (.int k x)) ∧ (Lit.int k x).wf = true) len (fun i hi => by
    obtain ⟨cs', g1, g2, g3⟩ := h4 i hi
    obtain ⟨x, rfl, hx⟩ := reads_int he g3
    obtain ⟨a, ha, hcell⟩ := g2 0 _ rfl
    exact ⟨x, ⟨a, ha, by simpa [hc] using hcell⟩, hx⟩)
  refine ⟨h2, h3, l, hl, fun i v hv => ?_, fun x hx => ?_⟩
  · rw [List.getElem?_map, Option.map_eq_some_iff] at hv
    obtain ⟨s, hs, rfl⟩ := hv
    exact (hp i s hs).1
  · obtain ⟨i, hi⟩ := List.getElem?_of_mem hx
    exact (hp i x hi).2
end
end Go.Eng

/-
  THE ENGINE, PART Q: what a row's reading gives, as plain things; from D to the row's walk.
  Conditions: none; it speaks of any program.
-/
namespace Go.Eng
open Go

/-- All that is read of a type stands for a thing. -/
def ReadsTo {α : Type} (P : Program) (h : Heap) (t : TypeId) (r : Ro α) (G : α → Prop) : Prop := ∀ n cs, Reads P h n t cs → ∃ x, r.is (snap h) cs x ∧ G x
theorem readsTo_int {P : Program} {h : Heap} {t : TypeId} {k : IntKind} (ht : P.underlying t = some (.int k)) : ReadsTo P h t (Ro.int k) fun x => (Lit.int k x).wf = true := fun n cs H => by
  obtain ⟨x, rfl, hx⟩ := reads_int ht H
  exact ⟨x, rfl, hx⟩
theorem readsTo_string {P : Program} {h : Heap} {t : TypeId} (ht : P.underlying t = some .string) : ReadsTo P h t Ro.str fun s => s.size ≤ maxLen := fun n cs H => by
  obtain ⟨x, rfl, hx⟩ := reads_string ht H
  exact ⟨x, rfl, hx⟩
theorem readsTo_bool {P : Program} {h : Heap} {t : TypeId} (ht : P.underlying t = some .bool) : ReadsTo P h t Ro.bool fun _ => True := fun n cs H => by
  cases n with
  | zero => exact H.elim
  | succ n =>
    unfold Reads at H
    rw [ht] at H
    obtain ⟨b, rfl⟩ := H
    exact ⟨b, rfl, trivial⟩
theorem readsTo_slice {α : Type} {P : Program} {h : Heap} {t e : TypeId} {r : Ro α} {G : α → Prop} (ht : P.underlying t = some (.slice e)) (hc : P.cellsOf e = r.sz) (he : ReadsTo P h e r G) :
    ReadsTo P h t (Ro.list r) fun l => l.length ≤ maxLen ∧ ∀ x ∈ l, G x := fun n cs H => by
  obtain ⟨m, p, len, cap, rfl, h1, h2, h3, h4⟩ := reads_slice ht H
  obtain ⟨l, hl, hp⟩ := choose_list (p := fun i (x : List Value × α) => r.is (snap h) x.1 x.2 ∧ G x.2 ∧ ∀ j v, x.1[j]? = some v → ∃ a, p = some a ∧ cellH h (a.add (i * r.sz + j)) = some v) len (fun i hi => by
    obtain ⟨cs', g1, g2, g3⟩ := h4 i hi
    obtain ⟨x, hx, hG⟩ := he m cs' g3
    exact ⟨(cs', x), hx, hG, fun j v hv => by have := g2 j v hv; rw [hc] at this; exact this⟩)
  have key : ∀ k, k ≤ len → ∃ vs, r.All (snap h) vs ((l.take k).map (·.2)) ∧ vs.length = k * r.sz ∧ CellsS (snap h) p vs := fun k => by
    induction k with
    | zero => intro _; exact ⟨[], .nil, by simp, fun i v hv => by simp at hv⟩
    | succ k ih =>
      intro hk
      obtain ⟨vs, a1, a2, a3⟩ := ih (by omega)
      have hkl : k < l.length := by omega
      obtain ⟨b1, b2, b3⟩ := hp k l[k] (List.getElem?_eq_getElem hkl)
      refine ⟨vs ++ l[k].1, ?_, by rw [List.length_append, a2, r.len b1, Nat.add_mul, Nat.one_mul], fun i v hv => ?_⟩
      · rw [List.take_add_one, List.getElem?_eq_getElem hkl, List.map_append]
        exact a1.append (.one b1)
      · rcases Nat.lt_or_ge i vs.length with g | g
        · rw [List.getElem?_append_left g] at hv; exact a3 i v hv
        · rw [List.getElem?_append_right g] at hv
          obtain ⟨a, ha, hcell⟩ := b3 _ v hv
          refine ⟨a, ha, ?_⟩
          rw [cellS_snap, show i = k * r.sz + (i - vs.length) by omega]
          exact hcell
  obtain ⟨vs, a1, a2, a3⟩ := key len (Nat.le_refl _)
  rw [List.take_of_length_le (by omega)] at a1
  refine ⟨l.map (·.2), ⟨(p, len, cap), rfl, by simp [hl], h1, h2, fun hp0 => ?_, vs, a1, a3⟩, by simp; omega, fun x hx => ?_⟩
  · have := (h3 hp0).1
    have : l = [] := List.eq_nil_of_length_eq_zero (by omega)
    rw [this]; rfl
  · obtain ⟨y, hy, rfl⟩ := List.mem_map.1 hx
    obtain ⟨i, hi⟩ := List.getElem?_of_mem hy
    exact (hp i y hi).2.1
theorem readsTo_mono {α : Type} {P : Program} {h : Heap} {t : TypeId} {r : Ro α} {G G' : α → Prop} (H : ReadsTo P h t r G) (hG : ∀ x, G x → G' x) : ReadsTo P h t r G' := fun n cs hr => by
  obtain ⟨x, h1, h2⟩ := H n cs hr
  exact ⟨x, h1, hG x h2⟩
/-- A slice that came in. -/
theorem slice_of {α : Type} {P : Program} {h : Heap} {t : TypeId} {r : Ro α} {G : List α → Prop} (H : ReadsTo P h t (Ro.list r) G) {n : Nat} {p : Option Addr} {len cap : Nat} (hr : Reads P h n t [.slice p len cap]) : ∃ l, Ro.SliceIs r (snap h) (p, len, cap) l ∧ G l := by
  obtain ⟨l, ⟨t', e, hs⟩, hG⟩ := H n _ hr
  obtain ⟨p', n', c'⟩ := t'
  simp only [List.cons.injEq, Value.slice.injEq, and_true] at e
  obtain ⟨rfl, rfl, rfl⟩ := e
  exact ⟨l, hs, hG⟩
theorem St.start (h : Heap) : St (snap h) [] h := Sub.refl _
/-- What D tells is true, and nothing that was there has turned. -/
theorem truth_of {P : Program} {f : FuncId} {args : List Value} {h : Heap}
    (H : CallsH P f args h (Back fun v h' => ∃ ψ : Snap, ∃ y : Bool, Sub (snap h) ψ ∧ v = ((.one (.atom .bool)) : Sh).val y ∧ y = true ∧ St ψ [] h')) : CallsH P f args h (Back (Truth h)) := by
  refine H.mono fun e h' he => ?_
  obtain ⟨v, hv, ψ, y, hs, hv2, hy, s1⟩ := he
  subst hy
  refine ⟨v, hv, hv2, ?_⟩
  have hs' := hs.trans s1.sub
  refine ⟨?_, fun i hi _ => ?_⟩
  · rcases Nat.lt_or_ge h'.size h.size with g | g
    · have h1 : snap h h'.size = some h[h'.size] := Array.getElem?_eq_getElem g
      have := lt_of_get (hs' _ _ h1)
      omega
    · exact g
  · have h1 : snap h i = some h[i] := Array.getElem?_eq_getElem hi
    have h2 : h'[i]? = some h[i] := hs' _ _ h1
    rw [h2, Array.getElem?_eq_getElem hi]
end Go.Eng

/-
  PARSE: the law ParseNone over heaps.
  Conditions: the arguments' cells are there; the program's variables hold what the row lists.
-/
namespace Go.Proofs.YteligkemohngiaaGreatDoor
open Go Go.Eng
set_option linter.unusedVariables false
set_option maxRecDepth 100000
theorem laid_ls : Go.B.lsOf Tryz.prog Rows.parseNoneRow.laid 9 = Go.B.ls0 := by kernel_rfl
theorem glob_of {W : World} (hL : laidMetH Tryz.prog Rows.parseNoneRow.laid W) : GlobA (snap W.heap) := by
  rw [MakeChecks.laidMetH_plain _ _ _ (by kernel_rfl)] at hL
  intro h hs g l hg
  obtain ⟨c, ty, f, h1, h2⟩ := Go.B.laid_ok hL laid_ls g l hg
  exact ⟨c, ty, f, hs g _ h1, h2⟩
theorem cut6 {α : Type} {cs : List α} (h : cs.length = 6) : ∃ a b c d e f, cs = [a, b, c, d, e, f] := by
  match cs, h with
  | [a, b, c, d, e, f], _ => exact ⟨a, b, c, d, e, f, rfl⟩
theorem wf8 {x : Int} (h : (Lit.int .u8 x).wf = true) : 0 ≤ x ∧ x < 256 := by
  simp only [Lit.wf, Bool.and_eq_true, decide_eq_true_eq] at h
  have e1 : IntKind.min .u8 = 0 := rfl
  have e2 : IntKind.max .u8 = 255 := rfl
  omega
section
variable {h : Heap}
theorem quotas_in {n : Nat} {cs : List Value} (H : Reads Tryz.prog h n 37 cs) : ∃ q : QT, cs = quoC q := by
  cases n with
  | zero => exact H.elim
  | succ n =>
    unfold Reads at H
    rw [Tryz.underlying37] at H
    obtain ⟨hlen, hf⟩ := H
    have hlen : cs.length = 6 := hlen.trans (by kernel_rfl)
    obtain ⟨a, b, c, d, e, f, rfl⟩ := cut6 hlen
    have e1 : Tryz.prog.cellsOf 3 = 1 := by kernel_rfl
    have f0 := hf _ (.head _)
    have f1 := hf _ (.tail _ (.head _))
    have f2 := hf _ (.tail _ (.tail _ (.head _)))
    have f3 := hf _ (.tail _ (.tail _ (.tail _ (.head _))))
    have f4 := hf _ (.tail _ (.tail _ (.tail _ (.tail _ (.head _)))))
    have f5 := hf _ (.tail _ (.tail _ (.tail _ (.tail _ (.tail _ (.head _))))))
    dsimp only at f0 f1 f2 f3 f4 f5
    rw [e1] at f0 f1 f2 f3 f4 f5
    obtain ⟨x0, h0, _⟩ := reads_int Tryz.underlying3 f0
    obtain ⟨x1, h1, _⟩ := reads_int Tryz.underlying3 f1
    obtain ⟨x2, h2, _⟩ := reads_int Tryz.underlying3 f2
    obtain ⟨x3, h3, _⟩ := reads_int Tryz.underlying3 f3
    obtain ⟨x4, h4, _⟩ := reads_int Tryz.underlying3 f4
    obtain ⟨x5, h5, _⟩ := reads_int Tryz.underlying3 f5
    have k0 : a = .int .i64 x0 := (List.cons.inj h0).1
    have k1 : b = .int .i64 x1 := (List.cons.inj h1).1
    have k2 : c = .int .i64 x2 := (List.cons.inj h2).1
    have k3 : d = .int .i64 x3 := (List.cons.inj h3).1
    have k4 : e = .int .i64 x4 := (List.cons.inj h4).1
    have k5 : f = .int .i64 x5 := (List.cons.inj h5).1
    exact ⟨(x0, x1, x2, x3, x4, x5, ()), by rw [k0, k1, k2, k3, k4, k5]⟩
theorem parseNone {n : Nat} {text : ByteArray} {cq : Array Value} {more : Int} (gk : GlobA (snap h)) (hq : Reads Tryz.prog h n 37 cq.toList) (hm : (Lit.int .u8 more).wf = true) :
    CallsH Tryz.prog 4 [.string text, .agg cq, .int .u8 more] h (Back (Truth h)) := by
  obtain ⟨q, h3⟩ := quotas_in hq
  have i3 : cq = (quoC q).toArray := by apply Array.ext'; exact h3
  rw [i3]
  exact truth_of (none_sim gk (wf8 hm) (St.start h))
end
end Go.Proofs.YteligkemohngiaaGreatDoor
