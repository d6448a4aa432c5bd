/-
  Ans, EngP, AnsP, CmM, EngR, EngQ, LawA, put together.
  Conditions: none; each part tells its own.
-/
import Derived.Test.YtbhbeljgggddlaaGreatDoorKa2
import Derived.Test.YtbhbeljgggddlaaGreatDoorKa5
import Derived.Test.YtbhbeljgggddlaaGreatDoorKa1
import Derived.Test.YtbhbeljgggddlaaGreatDoorKa4
import Derived.OpenShut
import Derived.LaidLaws
import GoSem.ClaimJoined
import Derived.WalkKit
import Derived.ProofKit
import Derived.ShutString
import Derived.ChangeOld
import Derived.Below
import Derived.Test.YtbhbeljgggddlaaGreatDoorRows
import Derived.MakeChecks
/-
  BUILD: awake by the machine; Right; the law BuildAnswers.
  Conditions: the program's variables hold what the row lists.
-/
namespace Go.Proofs.YtbhbeljgggddlaaGreatDoor
open Go Go.Eng
set_option linter.unusedVariables false
set_option maxRecDepth 100000
def GlobA (φ : Snap) : Prop := ∀ h : Heap, Sub φ (snap h) → ∀ (g : Nat) l, Go.B.ls0[g]? = some (some l) → Go.B.Laid h g l
theorem aw_sim {φ : Snap} {h : Heap} {F : List Chk} (gk : GlobA φ) (s0 : St φ F h) :
    CallsH Tryz.prog 4 [] h (Back fun v h' => ∃ ψ : Snap, ∃ y : Bool, Sub φ ψ ∧ v = ((.one (.atom .bool)) : Sh).val y ∧ y = true ∧ St ψ F h') :=
  (Go.B.awake_said (gk h s0.sub)).mono fun e h' ⟨he, hk⟩ => ⟨_, he, φ, true, Sub.refl φ, rfl, rfl, s0.keep fun k o ho => hk k o ho⟩
theorem all_ints {φ : Snap} : ∀ l : List Int, (Ro.int .i64).All φ (l.map fun x => Value.int .i64 x) l := by
  intro l
  induction l with
  | nil => exact .nil
  | cons x l ih => exact .cons (a := [.int .i64 x]) rfl ih
noncomputable def rightD (l : List Int) : Option Bool := (minD l).bind fun m => cond (decide (m ≥ (0 : Int))) ((maxD l).bind fun x => some (decide (x ≤ (1099511627776 : Int)))) (some false)
abbrev six (q : Int × Int × Int × Int × Int × Int × Unit) : List Int := [q.1, q.2.1, q.2.2.1, q.2.2.2.1, q.2.2.2.2.1, q.2.2.2.2.2.1]
theorem right_sim {φ : Snap} {h : Heap} {F : List Chk} {q : Int × Int × Int × Int × Int × Int × Unit} (s0 : St φ F h) {r : Bool} (hd : rightD (six q) = some r) :
    CallsH Tryz.prog 8 [(.agg #[(.int .i64 q.1), (.int .i64 q.2.1), (.int .i64 q.2.2.1), (.int .i64 q.2.2.2.1), (.int .i64 q.2.2.2.2.1), (.int .i64 q.2.2.2.2.2.1)])] h (Back fun v h' => ∃ ψ : Snap, ∃ y : Bool, Sub φ ψ ∧ v = ((.one (.atom .bool)) : Sh).val y ∧ y = r ∧ St ψ F h') := by
  refine calls_den mixed Tryz.func8 (build_Right_den ..) ?_
  unfold rightD at hd
  obtain ⟨m, hm, hd⟩ := bS hd
  refine s_new (vs := (six q).map fun x => Value.int .i64 x) s0 fun r1 h1 s1 => ?_
  iterate 6 refine s_loadR s1 rfl ?_
  refine s_new (vs := (six q).map fun x => Value.int .i64 x) s1 fun r8 h2 s2 => ?_
  obtain ⟨ψ, le, k, s3⟩ := St.freezeRow (t := (some ⟨r8, 0, none⟩, 6, 6)) (St.lit (n := 6) s2 (all_ints (six q)) rfl (by decide))
  refine s_join (fun (y : Bool × Unit) w (g : Bool) => y.1 = g ∧ ∃ ψ', Sub φ ψ' ∧ St ψ' F w) (g := r) ?_ ?_
  · refine s_call (min_sim k s3 hm) ?_
    rintro _ h3 ⟨ψ1, y, le1, rfl, rfl, s5⟩
    refine ⟨y, rfl, ?_⟩
    refine s_cond hd rfl (fun _ hd => ?_) (fun _ hd => ?_)
    · obtain ⟨x, hx, hd⟩ := bS hd
      refine s_call (max_sim k.up s5 hx) ?_
      rintro _ h4 ⟨ψ2, z, le2, rfl, rfl, s6⟩
      refine ⟨z, rfl, ?_⟩
      obtain rfl := iS hd
      obtain ⟨ψ3, le3, _, s7⟩ := s6.blk
      exact s_out (_, ()) rfl ⟨rfl, ψ3, le.trans (le1.trans (le2.trans le3)), s7⟩
    · obtain rfl := iS hd
      obtain ⟨ψ3, le3, _, s7⟩ := s5.blk
      exact s_out (_, ()) rfl ⟨rfl, ψ3, le.trans (le1.trans le3), s7⟩
  · rintro y w ⟨rfl, ψ', le', s5⟩
    exact finOf_back ⟨ψ', y.1, le', rfl, rfl, s5⟩
/-- Each is a count. -/
noncomputable def heldD (l : List Int) : Option Bool := forS (σ := Bool) (0 : Int) ((6 : Nat) : Int) true fun i z => cond z ((idx l i).bind fun x => (tronageref01_Held_D x).bind fun w => some (x == w)) (some false)
abbrev AT : Type := Int × Int × Int × Int × Int × ByteArray × (Option Addr × Nat × Nat) × (Option Addr × Nat × Nat) × Int × Int × Unit
abbrev plainOf (a : AT) (c : List dt45) (e : List ByteArray) : dt30 := (a.1, a.2.1, a.2.2.1, a.2.2.2.1, a.2.2.2.2.1, a.2.2.2.2.2.1, c, e, a.2.2.2.2.2.2.2.2.1, a.2.2.2.2.2.2.2.2.2.1)
abbrev aggOf (a : AT) : Value := .agg #[(.int .i64 a.1), (.int .i64 a.2.1), (.int .i64 a.2.2.1), (.int .i64 a.2.2.2.1), (.int .i64 a.2.2.2.2.1), (.string a.2.2.2.2.2.1), (.slice a.2.2.2.2.2.2.1.1 a.2.2.2.2.2.2.1.2.1 a.2.2.2.2.2.2.1.2.2), (.slice a.2.2.2.2.2.2.2.1.1 a.2.2.2.2.2.2.2.1.2.1 a.2.2.2.2.2.2.2.1.2.2), (.int .i64 a.2.2.2.2.2.2.2.2.1), (.int .i64 a.2.2.2.2.2.2.2.2.2.1)]
abbrev cellsOf (a : AT) : List Value := [.int .i64 a.1, .int .i64 a.2.1, .int .i64 a.2.2.1, .int .i64 a.2.2.2.1, .int .i64 a.2.2.2.2.1, .string a.2.2.2.2.2.1, sv a.2.2.2.2.2.2.1, sv a.2.2.2.2.2.2.2.1, .int .i64 a.2.2.2.2.2.2.2.2.1, .int .i64 a.2.2.2.2.2.2.2.2.2.1]
theorem answers_sim {φ : Snap} {h : Heap} {F : List Chk} {a b : AT} {ca cb : List dt45} {ea eb : List ByteArray} {q : Int × Int × Int × Int × Int × Int × Unit} (gk : GlobA φ) (k1 : Ro.SliceIs ro45 φ a.2.2.2.2.2.2.1 ca) (k2 : Ro.SliceIs Ro.str φ a.2.2.2.2.2.2.2.1 ea) (k3 : Ro.SliceIs ro45 φ b.2.2.2.2.2.2.1 cb) (k4 : Ro.SliceIs Ro.str φ b.2.2.2.2.2.2.2.1 eb) (s0 : St φ F h)
    {s r : Bool} (h1 : build_Same_D (plainOf a ca ea) (plainOf b cb eb) = some s) (h2 : tronageref23_Same_D (plainOf a ca ea) (plainOf b cb eb) = some s) (h3 : build_Same_D (plainOf a ca ea) (plainOf a ca ea) = some true) (h4 : rightD (six q) = some r) (h5 : heldD (six q) = some r) :
    CallsH Tryz.prog 3 [aggOf a, aggOf b, (.agg #[(.int .i64 q.1), (.int .i64 q.2.1), (.int .i64 q.2.2.1), (.int .i64 q.2.2.2.1), (.int .i64 q.2.2.2.2.1), (.int .i64 q.2.2.2.2.2.1)])] h (Back fun v h' => ∃ ψ : Snap, ∃ y : Bool, Sub φ ψ ∧ v = ((.one (.atom .bool)) : Sh).val y ∧ y = true ∧ St ψ F h') := by
  refine calls_den mixed Tryz.func3 (tronagelaw23_BuildAnswers_den ..) ?_
  refine s_new (vs := cellsOf a) s0 fun r1 g1 s1 => ?_
  refine s_new (vs := cellsOf b) s1 fun r2 g2 s2 => ?_
  refine s_new (vs := (six q).map fun x => Value.int .i64 x) s2 fun r3 g3 s3 => ?_
  refine s_call (aw_sim gk s3) ?_
  rintro _ g4 ⟨ψ1, t4, le1, rfl, rfl, s4⟩
  refine ⟨true, rfl, ?_⟩
  have t1 : ∀ {j : Nat} {v : Value}, (cellsOf a)[j]? = some v → cellH g4 ⟨r1, j, none⟩ = some v := fun hv => St.cell s4.at2 hv
  have t2 : ∀ {j : Nat} {v : Value}, (cellsOf b)[j]? = some v → cellH g4 ⟨r2, j, none⟩ = some v := fun hv => St.cell s4.at1 hv
  have end3 : ∀ {ψ : Snap} {w : Heap}, Sub φ ψ → St ψ (cW 32 r3 ((six q).map fun x => Value.int .i64 x) :: cW 30 r2 (cellsOf b) :: cW 30 r1 (cellsOf a) :: F) w → ∃ ψ : Snap, ∃ y : Bool, Sub φ ψ ∧ Value.bool true = ((.one (.atom .bool)) : Sh).val y ∧ y = true ∧ St ψ F w := fun {ψ w} le st => by
    obtain ⟨ψ1, l1, _, st⟩ := st.blk
    obtain ⟨ψ2, l2, _, st⟩ := st.blk
    obtain ⟨ψ3, l3, _, st⟩ := st.blk
    exact ⟨ψ3, true, le.trans (l1.trans (l2.trans l3)), rfl, rfl, st⟩
  refine s_join (fun (y : Bool × Unit) w (_ : Unit) => w = g4) (g := ()) ?_ ?_
  · refine s_loadR s4.at2 rfl ?_
    refine t_cond (fun _ => s_out (true, ()) rfl rfl) fun _ => ?_
    refine s_loadR s4.at1 rfl ?_
    refine t_cond (fun _ => s_out (true, ()) rfl rfl) fun _ => ?_
    refine s_loadR s4.at2 rfl ?_
    refine t_cond (fun _ => s_out (true, ()) rfl rfl) fun _ => ?_
    refine s_loadR s4.at1 rfl ?_
    exact s_out (_, ()) rfl rfl
  rintro z5 _ rfl
  refine t_cond (fun _ => finOf_back (end3 le1 s4)) fun _ => ?_
  iterate 6 refine s_loadR s4 rfl ?_
  refine s_new (vs := (six q).map fun x => Value.int .i64 x) s4 fun r16 g5 s5 => ?_
  obtain ⟨ψ2, le2, k5, s6⟩ := St.freezeRow (t := (some ⟨r16, 0, none⟩, 6, 6)) (St.lit (n := 6) s5 (all_ints (six q)) rfl (by decide))
  refine s_block (fun (y : Int × Bool × Unit) w (g : Bool) => y.2.1 = g ∧ ∃ ψ, Sub φ ψ ∧ St ψ (cW 32 r3 ((six q).map fun x => Value.int .i64 x) :: cW 30 r2 (cellsOf b) :: cW 30 r1 (cellsOf a) :: F) w) (g := r) ?_ ?_
  · refine s_forS h5 (fun i (y : Int × Bool × Unit) w (g : Bool) => y.1 = i ∧ y.2.1 = g ∧ ∃ ψ, Sub φ ψ ∧ Sub ψ2 ψ ∧ St ψ (cW 32 r3 ((six q).map fun x => Value.int .i64 x) :: cW 30 r2 (cellsOf b) :: cW 30 r1 (cellsOf a) :: F) w) ((0 : Int), true, ()) rfl ⟨rfl, rfl, ψ2, le1.trans le2, Sub.refl _, s6⟩ ?_ ?_
    · rintro i y w g e ⟨rfl, rfl, ψ, l1, l2, st⟩ he hlo hhi hw
      refine t_true (decide_eq_true hhi) ?_
      refine s_join (fun (z : Bool × Unit) w (g : Bool) => z.1 = g ∧ ∃ ψ, Sub φ ψ ∧ Sub ψ2 ψ ∧ St ψ (cW 32 r3 ((six q).map fun x => Value.int .i64 x) :: cW 30 r2 (cellsOf b) :: cW 30 r1 (cellsOf a) :: F) w) (g := e) ?_ ?_
      · refine s_cond he rfl (fun _ he => ?_) (fun _ he => ?_)
        · obtain ⟨x, hx, he⟩ := bS he
          obtain ⟨w1, hw1, he⟩ := bS he
          obtain rfl := iS he
          obtain ⟨A1, cs, ea1, hi, r1', cl⟩ := (k5.mono l2).get hx
          cases ea1
          obtain rfl : cs = [.int .i64 x] := r1'
          have hc := cellS_heap st.sub (cl 0 _ rfl)
          refine t_chk hi (s_load (x := x) hc rfl ?_)
          refine t_chk hi (s_load (x := x) hc rfl ?_)
          refine s_call (tronageref01_Held_sim st hw1) ?_
          rintro _ w2 ⟨ψ4, y4, le4, rfl, rfl, st4⟩
          refine ⟨y4, rfl, ?_⟩
          refine t_still (cellS_heap st4.sub (cellS_mono le4 (cl 0 _ rfl))) ?_
          exact s_out (_, ()) rfl ⟨rfl, ψ4, l1.trans le4, l2.trans le4, st4⟩
        · obtain rfl := iS he
          exact s_out (false, ()) rfl ⟨rfl, ψ, l1, l2, st⟩
      · rintro z w2 ⟨rfl, ψ4, l4, l5, st4⟩
        exact s_next (IntKind.wrap .i64 (y.1 + (1 : Int)), z.1, ()) _ rfl rfl ⟨hw, rfl, ψ4, l4, l5, st4⟩
    · rintro i y w ⟨rfl, rfl, ψ, l1, l2, st⟩ hge
      refine t_false (decide_eq_false (Int.not_lt.2 hge)) ?_
      exact around_brk (meetB_brk y rfl ⟨rfl, ψ, l1, st⟩)
  rintro z17 w ⟨rfl, ψ3, le3, s7⟩
  refine s_join (fun (y : Bool × Unit) w (_ : Unit) => y.1 = true ∧ ∃ ψ, Sub φ ψ ∧ St ψ (cW 32 r3 ((six q).map fun x => Value.int .i64 x) :: cW 30 r2 (cellsOf b) :: cW 30 r1 (cellsOf a) :: F) w) (g := ()) ?_ ?_
  · refine t_true rfl ?_
    iterate 10 refine s_loadR s7.at2 rfl ?_
    iterate 10 refine s_loadR s7.at1 rfl ?_
    iterate 10 refine s_loadR s7.at2 rfl ?_
    iterate 10 refine s_loadR s7.at1 rfl ?_
    refine s_call (build_Same_sim (a_0 := a) (b_1 := b) (k1.mono le3) (k2.mono le3) (k3.mono le3) (k4.mono le3) s7 h1) ?_
    rintro _ w1 ⟨ψ4, y1, le4, rfl, rfl, s8⟩
    refine ⟨y1, rfl, ?_⟩
    refine t_still (St.cell (j := 0) s8.at1 rfl) ?_
    refine t_still (St.cell (j := 1) s8.at1 rfl) ?_
    refine t_still (St.cell (j := 2) s8.at1 rfl) ?_
    refine t_still (St.cell (j := 3) s8.at1 rfl) ?_
    refine t_still (St.cell (j := 4) s8.at1 rfl) ?_
    refine t_still (St.cell (j := 5) s8.at1 rfl) ?_
    refine t_still (St.cell (j := 6) s8.at1 rfl) ?_
    refine t_still (St.cell (j := 7) s8.at1 rfl) ?_
    refine t_still (St.cell (j := 8) s8.at1 rfl) ?_
    refine t_still (St.cell (j := 9) s8.at1 rfl) ?_
    refine t_still (St.cell (j := 0) s8.at2 rfl) ?_
    refine t_still (St.cell (j := 1) s8.at2 rfl) ?_
    refine t_still (St.cell (j := 2) s8.at2 rfl) ?_
    refine t_still (St.cell (j := 3) s8.at2 rfl) ?_
    refine t_still (St.cell (j := 4) s8.at2 rfl) ?_
    refine t_still (St.cell (j := 5) s8.at2 rfl) ?_
    refine t_still (St.cell (j := 6) s8.at2 rfl) ?_
    refine t_still (St.cell (j := 7) s8.at2 rfl) ?_
    refine t_still (St.cell (j := 8) s8.at2 rfl) ?_
    refine t_still (St.cell (j := 9) s8.at2 rfl) ?_
    have le5 := le3.trans le4
    refine s_call (tronageref23_Same_sim (a_0 := a) (b_1 := b) (k1.mono le5) (k2.mono le5) (k3.mono le5) (k4.mono le5) s8 h2) ?_
    rintro _ w2 ⟨ψ5, y2, le6, rfl, rfl, s9⟩
    refine ⟨y2, rfl, ?_⟩
    refine t_true (by simp) ?_
    iterate 20 refine s_loadR s9.at2 rfl ?_
    have le7 := le5.trans le6
    refine s_call (build_Same_sim (a_0 := a) (b_1 := a) (k1.mono le7) (k2.mono le7) (k1.mono le7) (k2.mono le7) s9 h3) ?_
    rintro _ w3 ⟨ψ6, y3, le8, rfl, rfl, s10⟩
    refine ⟨true, rfl, ?_⟩
    refine t_true rfl ?_
    iterate 6 refine s_loadR s10 rfl ?_
    refine s_call (right_sim s10 h4) ?_
    rintro _ w4 ⟨ψ7, y4, le9, rfl, rfl, s11⟩
    refine ⟨_, rfl, ?_⟩
    exact s_out (_, ()) rfl ⟨by simp, ψ7, le7.trans (le8.trans le9), s11⟩
  · rintro ⟨y, _⟩ w4 ⟨hy, ψ7, le7, s11⟩
    have hy : y = true := hy
    subst hy
    exact finOf_back (end3 le7 s11)
end Go.Proofs.YtbhbeljgggddlaaGreatDoor

/-
  THE ENGINE, PART P: plain rules for loops that are functions.
  Conditions: none; no program in sight.
-/
namespace Go.Eng
open Go

theorem idx_nat {α : Type} (l : List α) (k : Nat) : idx l (k : Int) = l[k]? := by
  unfold idx
  rw [if_pos (by omega), Int.toNat_natCast]
theorem idx_get {α : Type} {l : List α} {i : Int} (h0 : 0 ≤ i) (h1 : i.toNat < l.length) : idx l i = some l[i.toNat] := by
  unfold idx
  rw [if_pos h0, List.getElem?_eq_getElem h1]
theorem idx_lt {α : Type} {l : List α} {k : Nat} (h : k < l.length) : idx l (k : Int) = some l[k] := by
  rw [idx_nat, List.getElem?_eq_getElem h]
theorem app_ok {α : Type} {l m : List α} (h : l.length + m.length ≤ 1099512676352) : app l m = some (l ++ m) := by unfold app; rw [if_pos h]
theorem cut_ok {α : Type} {l : List α} {a b : Int} (h0 : 0 ≤ a) (h1 : a ≤ b) (h2 : b ≤ (l.length : Int)) : cut l a b = some ((l.take b.toNat).drop a.toNat) := by unfold cut; rw [if_pos ⟨h0, h1, h2⟩]
theorem setI_ok {α : Type} {l : List α} {i : Int} {x : α} (h0 : 0 ≤ i) (h1 : i < (l.length : Int)) : setI l i x = some (l.set i.toNat x) := by unfold setI; rw [if_pos ⟨h0, h1⟩]
theorem need_ok {α : Type} {p : Prop} [Decidable p] (h : p) (k : Option α) : need p k = k := by unfold need; rw [if_pos h]
theorem bind_some' {α β : Type} {o : Option α} {x : α} (h : o = some x) (f : α → Option β) : o.bind f = f x := by rw [h]; rfl

theorem snoc_ind {α : Type} {P : List α → Prop} (h0 : P []) (hs : ∀ l x, P l → P (l ++ [x])) : ∀ l, P l := fun l => by
  have : ∀ r : List α, P r.reverse := fun r => by
    induction r with
    | nil => exact h0
    | cons x r ih => rw [List.reverse_cons]; exact hs _ _ ih
  have := this l.reverse
  rwa [List.reverse_reverse] at this
theorem forGoS_inv {σ : Type} {f : Int → σ → Option σ} (I : Int → σ → Prop) : ∀ (n : Nat) (i : Int) (s : σ), I i s → (∀ j s, i ≤ j → j < i + n → I j s → ∃ s', f j s = some s' ∧ I (j + 1) s') → ∃ s', forGoS f n i s = some s' ∧ I (i + n) s' := by
  intro n
  induction n with
  | zero => intro i s hI _; exact ⟨s, rfl, by simpa using hI⟩
  | succ n ih =>
    intro i s hI hs
    obtain ⟨s', h1, h2⟩ := hs i s (Int.le_refl _) (by omega) hI
    obtain ⟨s'', h3, h4⟩ := ih (i + 1) s' h2 fun j s hj hj' => hs j s (by omega) (by omega)
    refine ⟨s'', by simp only [forGoS]; rw [h1]; exact h3, ?_⟩
    rw [show i + (n + 1 : Nat) = i + 1 + n by omega]
    exact h4
theorem forS_inv {σ : Type} {f : Int → σ → Option σ} {n : Nat} (I : Nat → σ → Prop) (hn : n ≤ 9223372036854775807) {s : σ} (h0 : I 0 s) (hs : ∀ k s, k < n → I k s → ∃ s', f (k : Int) s = some s' ∧ I (k + 1) s') : ∃ s', forS 0 (n : Int) s f = some s' ∧ I n s' := by
  unfold forS
  rw [if_pos ⟨by omega, by omega⟩]
  obtain ⟨s', h1, h2⟩ := forGoS_inv (f := f) (fun i s => I i.toNat s) ((n : Int) - 0).toNat 0 s (by simpa using h0) fun j s hj hj' hI => by
    obtain ⟨s', h1, h2⟩ := hs j.toNat s (by omega) hI
    refine ⟨s', by rw [← h1, show ((j.toNat : Nat) : Int) = j by omega], by rw [show (j + 1).toNat = j.toNat + 1 by omega]; exact h2⟩
  refine ⟨s', h1, ?_⟩
  have e : ((0 : Int) + (((n : Int) - 0).toNat : Nat)).toNat = n := by omega
  rw [e] at h2
  exact h2
theorem forGo_inv {σ β : Type} {f : Int → σ → Option (Step σ β)} (I : Int → σ → Prop) (B : β → Prop) : ∀ (n : Nat) (i : Int) (s : σ), I i s → (∀ j s, i ≤ j → j < i + n → I j s → (∃ s', f j s = some (.next s') ∧ I (j + 1) s') ∨ ∃ b, f j s = some (.done b) ∧ B b) →
    (∃ s', forGo f n i s = some (.next s') ∧ I (i + n) s') ∨ ∃ b, forGo f n i s = some (.done b) ∧ B b := by
  intro n
  induction n with
  | zero => intro i s hI _; exact .inl ⟨s, rfl, by simpa using hI⟩
  | succ n ih =>
    intro i s hI hs
    rcases hs i s (Int.le_refl _) (by omega) hI with ⟨s', h1, h2⟩ | ⟨b, h1, h2⟩
    · rcases ih (i + 1) s' h2 fun j s hj hj' => hs j s (by omega) (by omega) with ⟨s'', h3, h4⟩ | ⟨b, h3, h4⟩
      · left
        refine ⟨s'', by simp only [forGo]; rw [h1]; exact h3, ?_⟩
        rw [show i + (n + 1 : Nat) = i + 1 + n by omega]
        exact h4
      · exact .inr ⟨b, by simp only [forGo]; rw [h1]; exact h3, h4⟩
    · exact .inr ⟨b, by simp only [forGo]; rw [h1]; rfl, h2⟩
theorem forN_inv {σ β : Type} {f : Int → σ → Option (Step σ β)} {n : Nat} (I : Nat → σ → Prop) (B : β → Prop) (hn : n ≤ 9223372036854775807) {s : σ} (h0 : I 0 s)
    (hs : ∀ k s, k < n → I k s → (∃ s', f (k : Int) s = some (.next s') ∧ I (k + 1) s') ∨ ∃ b, f (k : Int) s = some (.done b) ∧ B b) :
    (∃ s', forN 0 (n : Int) s f = some (.next s') ∧ I n s') ∨ ∃ b, forN 0 (n : Int) s f = some (.done b) ∧ B b := by
  unfold forN
  rw [if_pos ⟨by omega, by omega⟩]
  rcases forGo_inv (fun i s => I i.toNat s) B ((n : Int) - 0).toNat 0 s (by simpa using h0) (fun j s hj hj' hI => by
    have e : ((j.toNat : Nat) : Int) = j := by omega
    rcases hs j.toNat s (by omega) hI with ⟨s', h1, h2⟩ | ⟨b, h1, h2⟩
    · exact .inl ⟨s', by rw [← h1, e], by rw [show (j + 1).toNat = j.toNat + 1 by omega]; exact h2⟩
    · exact .inr ⟨b, by rw [← h1, e], h2⟩) with ⟨s', h1, h2⟩ | h
  · left
    refine ⟨s', h1, ?_⟩
    have e : ((0 : Int) + (((n : Int) - 0).toNat : Nat)).toNat = n := by omega
    rw [e] at h2
    exact h2
  · exact .inr h
/-- A counted loop that is never left early. -/
theorem forN_all {σ β : Type} {f : Int → σ → Option (Step σ β)} {n : Nat} (I : Nat → σ → Prop) (hn : n ≤ 9223372036854775807) {s : σ} (h0 : I 0 s)
    (hs : ∀ k s, k < n → I k s → ∃ s', f (k : Int) s = some (.next s') ∧ I (k + 1) s') : ∃ s', forN 0 (n : Int) s f = some (.next s') ∧ I n s' := by
  rcases forN_inv I (fun _ => False) hn h0 (fun k s hk hI => .inl (hs k s hk hI)) with h | ⟨_, _, h⟩
  · exact h
  · exact h.elim
theorem loop_inv {σ β : Type} {f : σ → Option (Step σ β)} (I : σ → Prop) (μ : σ → Nat) (B : β → Prop) (hs : ∀ s, I s → (∃ s', f s = some (.next s') ∧ I s' ∧ μ s' < μ s) ∨ ∃ b, f s = some (.done b) ∧ B b) : ∀ {s : σ}, I s → ∃ b, loop s f = some b ∧ B b := by
  intro s
  generalize hm : μ s = m
  induction m using Nat.strongRecOn generalizing s with
  | ind m ih =>
    intro hI
    rw [loop_eq]
    rcases hs s hI with ⟨s', h1, h2, h3⟩ | ⟨b, h1, h2⟩
    · rw [h1]
      exact ih (μ s') (by omega) rfl h2
    · rw [h1]
      exact ⟨b, rfl, h2⟩
/-- A loop that counts, told by what holds at its end. -/
theorem some_of {α : Type} {o : Option α} {P : α → Prop} {x : α} (h : ∃ y, o = some y ∧ P y) (hu : ∀ y, P y → y = x) : o = some x := by
  obtain ⟨y, h1, h2⟩ := h
  rw [h1, hu y h2]
end Go.Eng

/-
  BUILD: two answers are one just if all they have is; quotas that can be.
  Conditions: none.
-/
namespace Go.Proofs.YtbhbeljgggddlaaGreatDoor
open Go Go.Eng
set_option linter.unusedVariables false
set_option maxRecDepth 100000
theorem toList_data (b : ByteArray) : b.toList = b.data.toList := by
  have hsz : b.size = b.data.toList.length := by rw [Array.length_toList]; rfl
  have key : ∀ (n i : Nat) (r : List UInt8), b.size - i = n → ByteArray.toList.loop b i r = r.reverse ++ b.data.toList.drop i := by
    intro n
    induction n with
    | zero =>
      intro i r h
      rw [ByteArray.toList.loop.eq_1, if_neg (by omega), List.drop_eq_nil_of_le (by omega), List.append_nil]
    | succ n ih =>
      intro i r h
      have hi : i < b.size := by omega
      rw [ByteArray.toList.loop.eq_1, if_pos hi, ih (i + 1) _ (by omega)]
      have hi' : i < b.data.toList.length := by omega
      rw [List.drop_eq_getElem_cons hi', List.reverse_cons, List.append_assoc]
      have : b.get! i = b.data.toList[i] := by
        cases b with
        | mk a =>
          show a[i]! = _
          rw [getElem!_pos a i (by simpa using hi')]
          rw [Array.getElem_toList]
      rw [this]
      rfl
  unfold ByteArray.toList
  rw [key _ 0 [] rfl]
  rfl
theorem toList_beq (a b : ByteArray) : (a.toList == b.toList) = decide (a = b) := by
  rw [toList_data, toList_data]
  by_cases h : a = b
  · subst h; simp
  · rw [decide_eq_false h]
    refine beq_eq_false_iff_ne.2 fun e => h ?_
    cases a; cases b
    simp only [ByteArray.mk.injEq]
    exact Array.toList_inj.1 e
def sameL {α : Type} (f : α → α → Bool) : List α → List α → Bool
  | [], [] => true
  | x :: l, y :: m => f x y && sameL f l m
  | _, _ => false
theorem sameL_self {α : Type} {f : α → α → Bool} : ∀ {l : List α}, (∀ x ∈ l, f x x = true) → sameL f l l = true := by
  intro l
  induction l with
  | nil => intro _; rfl
  | cons x l ih =>
    intro h
    unfold sameL
    rw [h x (List.mem_cons_self ..), ih fun y hy => h y (List.mem_cons_of_mem _ hy)]
    rfl
theorem sameL_len {α : Type} {f : α → α → Bool} : ∀ {l m : List α}, l.length ≠ m.length → sameL f l m = false := by
  intro l
  induction l with
  | nil =>
    intro m h
    cases m with
    | nil => exact absurd rfl h
    | cons y m => rfl
  | cons x l ih =>
    intro m h
    cases m with
    | nil => rfl
    | cons y m =>
      unfold sameL
      rw [ih (by simpa using h), Bool.and_false]
theorem sameL_all {α : Type} {f : α → α → Bool} : ∀ {l m : List α}, l.length = m.length → (∀ k (h1 : k < l.length) (h2 : k < m.length), f l[k] m[k] = true) → sameL f l m = true := by
  intro l
  induction l with
  | nil =>
    intro m h _
    cases m with
    | nil => rfl
    | cons y m => cases h
  | cons x l ih =>
    intro m h hk
    cases m with
    | nil => cases h
    | cons y m =>
      unfold sameL
      have := hk 0 (by simp) (by simp)
      rw [show f x y = true from this, ih (by simpa using h) fun k h1 h2 => hk (k + 1) (by simpa using h1) (by simpa using h2)]
      rfl
theorem sameL_not {α : Type} {f : α → α → Bool} : ∀ {l m : List α} {k : Nat} (h1 : k < l.length) (h2 : k < m.length), f l[k] m[k] = false → sameL f l m = false := by
  intro l
  induction l with
  | nil => intro m k h1; simp at h1
  | cons x l ih =>
    intro m k h1 h2 hf
    cases m with
    | nil => rfl
    | cons y m =>
      unfold sameL
      cases k with
      | zero => rw [show f x y = false from hf]; rfl
      | succ k => rw [ih (by simpa using h1) (by simpa using h2) (by simpa using hf), Bool.and_false]
theorem same_loop {α : Type} {f : α → α → Bool} {l m : List α} (hl : l.length ≤ 9223372036854775807) {body : Int → Unit → Option (Step Unit Bool)} (hb : ∀ (k : Nat) (h1 : k < l.length) (h2 : k < m.length), body (k : Int) () = some (bif f l[k] m[k] then .next () else .done false)) :
    cond (((l.length : Nat) : Int) != ((m.length : Nat) : Int)) (some false) ((forN (σ := Unit) (β := Bool) (0 : Int) ((l.length : Nat) : Int) () body).bind fun e => match e with
      | .next _ => some true
      | .done q => some q) = some (sameL f l m) := by
  by_cases h : l.length = m.length
  · have e : (((l.length : Nat) : Int) != ((m.length : Nat) : Int)) = false := by rw [h]; simp
    rw [e, cond_false]
    rcases forN_inv (f := body) (n := l.length) (s := ()) (fun k _ => ∀ j (h1 : j < l.length) (h2 : j < m.length), j < k → f l[j] m[j] = true) (fun b => b = false ∧ sameL f l m = false) hl (fun j _ _ hj => absurd hj (Nat.not_lt_zero j)) (fun k _ hk hI => by
      have := hb k hk (by omega)
      cases hf : f l[k] m[k] with
      | true =>
        rw [hf] at this
        refine .inl ⟨(), this, fun j h1 h2 hj => ?_⟩
        by_cases hjk : j = k
        · subst hjk; exact hf
        · exact hI j h1 h2 (by omega)
      | false =>
        rw [hf] at this
        exact .inr ⟨false, this, rfl, sameL_not hk (by omega) hf⟩) with ⟨_, h1, h2⟩ | ⟨b, h1, rfl, h2⟩
    · rw [h1, sameL_all h fun k h3 h4 => h2 k h3 h4 h3]
      rfl
    · rw [h1, h2]
      rfl
  · have e : (((l.length : Nat) : Int) != ((m.length : Nat) : Int)) = true := by simpa using fun h' => h (by omega)
    rw [e, cond_true, sameL_len h]
theorem strings_ok {l m : List ByteArray} (hl : l.length ≤ 9223372036854775807) : slices_Equal_string_string_D l m = some (sameL (fun x y => x.toList == y.toList) l m) := by
  unfold slices_Equal_string_string_D
  refine same_loop hl fun k h1 h2 => ?_
  rw [idx_lt h1, Option.bind_some, idx_lt h2, Option.bind_some]
  cases (l[k].toList == m[k].toList) <;> rfl
theorem texts_ok {l m : List ByteArray} (hl : l.length ≤ 9223372036854775807) : tronageref05_Texts_D l m = some (sameL (fun x y => x.toList == y.toList) l m) := strings_ok hl
theorem ints_ok {l m : List Int} (hl : l.length ≤ 9223372036854775807) : slices_Equal_int_int_D l m = some (sameL (fun x y => x == y) l m) := by
  unfold slices_Equal_int_int_D
  refine same_loop hl fun k h1 h2 => ?_
  rw [idx_lt h1, Option.bind_some, idx_lt h2, Option.bind_some]
  unfold bne
  cases (l[k] == m[k]) <;> rfl
theorem ints_ok' {l m : List Int} (hl : l.length ≤ 9223372036854775807) : tronageref01_Ints_D l m = some (sameL (fun x y => x == y) l m) := ints_ok hl
/-- one clash? -/
def clashP (x y : dt45) : Bool := x.1 == y.1 && x.2.1 == y.2.1 && x.2.2.1 == y.2.2.1 && ((x.2.2.2.2.1 == y.2.2.2.2.1) && (x.2.2.2.2.2.1 == y.2.2.2.2.2.1)) && x.2.2.2.2.2.2 == y.2.2.2.2.2.2 && sameL (fun x y => x == y) x.2.2.2.1 y.2.2.2.1
theorem clash_ok {x y : dt45} (hl : x.2.2.2.1.length ≤ 9223372036854775807) : build_sameClash_D x y = some (clashP x y) := by
  unfold build_sameClash_D clashP
  rw [ints_ok hl]
  cases (x.1 == y.1) <;> cases (x.2.1 == y.2.1) <;> cases (x.2.2.1 == y.2.2.1) <;> cases (x.2.2.2.2.1 == y.2.2.2.2.1) <;> cases (x.2.2.2.2.2.1 == y.2.2.2.2.2.1) <;> cases (x.2.2.2.2.2.2 == y.2.2.2.2.2.2) <;> rfl
theorem clashes_ok {l m : List dt45} (hl : l.length ≤ 9223372036854775807) (hr : ∀ x ∈ l, x.2.2.2.1.length ≤ 9223372036854775807) : slices_EqualFunc_api_Clash_api_Clash_api_Clash_api_Clash_14_D l m = some (sameL clashP l m) := by
  unfold slices_EqualFunc_api_Clash_api_Clash_api_Clash_api_Clash_14_D
  refine same_loop hl fun k h1 h2 => ?_
  rw [idx_lt h1, Option.bind_some, idx_lt h2, Option.bind_some, clash_ok (hr _ (List.getElem_mem h1)), Option.bind_some]
  show cond (!(clashP l[k] m[k])) _ _ = _
  cases clashP l[k] m[k] <;> rfl
theorem refClashes_ok {l m : List dt45} (hl : l.length ≤ 9223372036854775807) (hr : ∀ x ∈ l, x.2.2.2.1.length ≤ 9223372036854775807) : tronageref14_Same_D l m = some (sameL clashP l m) := by
  unfold tronageref14_Same_D
  refine same_loop hl fun k h1 h2 => ?_
  simp only [idx_lt h1, idx_lt h2, Option.bind_some, ints_ok' (hr _ (List.getElem_mem h1))]
  unfold clashP bne
  cases (l[k].1 == m[k].1) <;> cases (l[k].2.1 == m[k].2.1) <;> cases (l[k].2.2.1 == m[k].2.2.1) <;> cases (l[k].2.2.2.2.1 == m[k].2.2.2.2.1) <;> cases (l[k].2.2.2.2.2.1 == m[k].2.2.2.2.2.1) <;> cases (l[k].2.2.2.2.2.2 == m[k].2.2.2.2.2.2) <;> first | rfl | (cases (sameL (fun x y => x == y) l[k].2.2.2.1 m[k].2.2.2.1) <;> rfl)
/-- An answer whose lists are not too long. -/
def Fits (x : dt30) : Prop := x.2.2.2.2.2.2.1.length ≤ 9223372036854775807 ∧ (∀ c ∈ x.2.2.2.2.2.2.1, c.2.2.2.1.length ≤ 9223372036854775807) ∧ x.2.2.2.2.2.2.2.1.length ≤ 9223372036854775807
def sameP (a b : dt30) : Bool := a.1 == b.1 && a.2.1 == b.2.1 && ((a.2.2.1 == b.2.2.1) && (a.2.2.2.1 == b.2.2.2.1)) && a.2.2.2.2.1 == b.2.2.2.2.1 && (a.2.2.2.2.2.1.toList == b.2.2.2.2.2.1.toList) && ((a.2.2.2.2.2.2.2.2.1 == b.2.2.2.2.2.2.2.2.1) && (a.2.2.2.2.2.2.2.2.2 == b.2.2.2.2.2.2.2.2.2)) &&
  sameL (fun x y => x.toList == y.toList) a.2.2.2.2.2.2.2.1 b.2.2.2.2.2.2.2.1 && sameL clashP a.2.2.2.2.2.2.1 b.2.2.2.2.2.2.1
theorem ref_ok {a b : dt30} (h : Fits a) : tronageref23_Same_D a b = some (sameP a b) := by
  obtain ⟨h1, h2, h3⟩ := h
  unfold tronageref23_Same_D sameP
  rw [texts_ok h3, refClashes_ok h1 h2]
  simp only [Option.bind_some]
  cases (a.1 == b.1) <;> cases (a.2.1 == b.2.1) <;> cases (a.2.2.1 == b.2.2.1) <;> cases (a.2.2.2.1 == b.2.2.2.1) <;> cases (a.2.2.2.2.1 == b.2.2.2.2.1) <;> first | rfl | skip
  cases (a.2.2.2.2.2.1.toList == b.2.2.2.2.2.1.toList) <;> cases (a.2.2.2.2.2.2.2.2.1 == b.2.2.2.2.2.2.2.2.1) <;> cases (a.2.2.2.2.2.2.2.2.2 == b.2.2.2.2.2.2.2.2.2) <;> cases (sameL (fun x y => x.toList == y.toList) a.2.2.2.2.2.2.2.1 b.2.2.2.2.2.2.2.1) <;> rfl
theorem same_ok {a b : dt30} (h : Fits a) : build_Same_D a b = some (sameP a b) := by
  obtain ⟨h1, h2, h3⟩ := h
  unfold build_Same_D sameP build_of_D
  rw [strings_ok h3, clashes_ok h1 h2, toList_beq, ← bytes_beq]
  simp only [Option.bind_some]
  cases (a.1 == b.1) <;> cases (a.2.1 == b.2.1) <;> cases (a.2.2.1 == b.2.2.1) <;> cases (a.2.2.2.1 == b.2.2.2.1) <;> cases (a.2.2.2.2.1 == b.2.2.2.2.1) <;> first | rfl | skip
  cases (a.2.2.2.2.2.1 == b.2.2.2.2.2.1) <;> cases (a.2.2.2.2.2.2.2.2.1 == b.2.2.2.2.2.2.2.2.1) <;> cases (a.2.2.2.2.2.2.2.2.2 == b.2.2.2.2.2.2.2.2.2) <;> cases (sameL (fun x y => x.toList == y.toList) a.2.2.2.2.2.2.2.1 b.2.2.2.2.2.2.2.1) <;> rfl
theorem self_ok (a : dt30) : sameP a a = true := by
  unfold sameP
  rw [sameL_self (f := fun x y : ByteArray => x.toList == y.toList) (fun x _ => beq_self_eq_true _), sameL_self (f := clashP) fun x _ => ?_]
  · simp
  · unfold clashP
    rw [sameL_self (f := fun x y : Int => x == y) fun x _ => beq_self_eq_true _]
    simp
/-! ## quotas -/
def mi (z x : Int) : Int := if x < z then x else z
def ma (z x : Int) : Int := if x > z then x else z
theorem mi_ge {z x : Int} : 0 ≤ mi z x ↔ 0 ≤ z ∧ 0 ≤ x := by
  unfold mi
  split <;> omega
theorem ma_le {z x m : Int} : ma z x ≤ m ↔ z ≤ m ∧ x ≤ m := by
  unfold ma
  split <;> omega
def heldP (n : Int) : Int := if n < 0 then 0 else if n > 1099511627776 then 1099511627776 else n
theorem held_ok (n : Int) : tronageref01_Held_D n = some (heldP n) := by
  unfold tronageref01_Held_D heldP
  by_cases h1 : n < 0
  · rw [decide_eq_true h1, if_pos h1]; rfl
  · rw [decide_eq_false h1, if_neg h1]
    by_cases h2 : n > 1099511627776
    · rw [decide_eq_true h2, if_pos h2]; rfl
    · rw [decide_eq_false h2, if_neg h2]; rfl
theorem heldP_eq (n : Int) : (n == heldP n) = (decide (0 ≤ n) && decide (n ≤ 1099511627776)) := by
  rw [Bool.eq_iff_iff, beq_iff_eq, Bool.and_eq_true, decide_eq_true_eq, decide_eq_true_eq]
  unfold heldP
  split
  · omega
  · split <;> omega
theorem forS_go {σ : Type} {f : Int → σ → Option σ} {i e : Int} {s : σ} (h0 : 0 ≤ i) (h1 : e ≤ 9223372036854775807) : forS i e s f = forGoS f (e - i).toNat i s := by
  unfold forS
  rw [if_pos ⟨h0, h1⟩]
theorem go_one {σ : Type} {f : Int → σ → Option σ} {i : Int} {s s' : σ} (n : Nat) (h : f i s = some s') : forGoS f (n + 1) i s = forGoS f n (i + 1) s' := by
  show (f i s).bind _ = _
  rw [h]
  rfl
theorem quotas_ok (q : Int × Int × Int × Int × Int × Int × Unit) : ∃ r, rightD (six q) = some r ∧ heldD (six q) = some r := by
  obtain ⟨a, b, c, d, e, f, _⟩ := q
  have i0 : idx [a, b, c, d, e, f] 0 = some a := rfl
  have i1 : idx [a, b, c, d, e, f] 1 = some b := rfl
  have i2 : idx [a, b, c, d, e, f] 2 = some c := rfl
  have i3 : idx [a, b, c, d, e, f] 3 = some d := rfl
  have i4 : idx [a, b, c, d, e, f] 4 = some e := rfl
  have i5 : idx [a, b, c, d, e, f] 5 = some f := rfl
  refine ⟨(a == heldP a) && (b == heldP b) && (c == heldP c) && (d == heldP d) && (e == heldP e) && (f == heldP f), ?_, ?_⟩
  · have h1 : minD [a, b, c, d, e, f] = some (mi (mi (mi (mi (mi a b) c) d) e) f) := by
      have k : ∀ (i z x : Int), idx [a, b, c, d, e, f] i = some x → ((idx [a, b, c, d, e, f] i).bind fun x => some (if x < z then x else z)) = some (mi z x) := fun i z x h => by rw [h]; rfl
      unfold minD
      rw [i0, Option.bind_some, forS_go (by omega) (by simp)]
      exact (go_one 4 (k 1 _ b rfl)).trans ((go_one 3 (k (1 + 1) _ c rfl)).trans ((go_one 2 (k (1 + 1 + 1) _ d rfl)).trans ((go_one 1 (k (1 + 1 + 1 + 1) _ e rfl)).trans (go_one 0 (k (1 + 1 + 1 + 1 + 1) _ f rfl)))))
    have h2 : maxD [a, b, c, d, e, f] = some (ma (ma (ma (ma (ma a b) c) d) e) f) := by
      have k : ∀ (i z x : Int), idx [a, b, c, d, e, f] i = some x → ((idx [a, b, c, d, e, f] i).bind fun x => some (if x > z then x else z)) = some (ma z x) := fun i z x h => by rw [h]; rfl
      unfold maxD
      rw [i0, Option.bind_some, forS_go (by omega) (by simp)]
      exact (go_one 4 (k 1 _ b rfl)).trans ((go_one 3 (k (1 + 1) _ c rfl)).trans ((go_one 2 (k (1 + 1 + 1) _ d rfl)).trans ((go_one 1 (k (1 + 1 + 1 + 1) _ e rfl)).trans (go_one 0 (k (1 + 1 + 1 + 1 + 1) _ f rfl)))))
    unfold rightD
    show (minD [a, b, c, d, e, f]).bind _ = _
    rw [h1, Option.bind_some]
    show cond (decide (mi (mi (mi (mi (mi a b) c) d) e) f ≥ 0)) ((maxD [a, b, c, d, e, f]).bind _) _ = _
    rw [h2, Option.bind_some]
    by_cases h3 : mi (mi (mi (mi (mi a b) c) d) e) f ≥ 0
    · rw [decide_eq_true h3, cond_true]
      refine congrArg some ?_
      rw [Bool.eq_iff_iff]
      simp only [ge_iff_le, mi_ge] at h3
      simp only [heldP_eq, Bool.and_eq_true, decide_eq_true_eq, ma_le]
      omega
    · rw [decide_eq_false h3, cond_false]
      refine congrArg some ?_
      symm
      rw [Bool.eq_false_iff]
      intro h4
      simp only [heldP_eq, Bool.and_eq_true, decide_eq_true_eq] at h4
      simp only [ge_iff_le, mi_ge] at h3
      omega
  · have e1 : tronageref01_Held_D = fun n => some (heldP n) := funext held_ok
    have k : ∀ (i : Int) (z : Bool) (x : Int), idx [a, b, c, d, e, f] i = some x → (cond z ((idx [a, b, c, d, e, f] i).bind fun x => (some (heldP x)).bind fun w => some (x == w)) (some false)) = some (z && (x == heldP x)) := fun i z x h => by rw [h]; cases z <;> rfl
    unfold heldD
    rw [e1, forS_go (by omega) (by omega)]
    exact (go_one 5 (k 0 true a rfl)).trans ((go_one 4 (k (0 + 1) _ b rfl)).trans ((go_one 3 (k (0 + 1 + 1) _ c rfl)).trans ((go_one 2 (k (0 + 1 + 1 + 1) _ d rfl)).trans ((go_one 1 (k (0 + 1 + 1 + 1 + 1) _ e rfl)).trans (go_one 0 (k (0 + 1 + 1 + 1 + 1 + 1) _ f rfl))))))
end Go.Proofs.YtbhbeljgggddlaaGreatDoor

/-
  THE ABSTRACT MACHINE, PART MM: what a row lists of the program's variables, as abstract cells.
  Conditions: none; it speaks of any program.
-/
namespace Go.B
open Go Go.Eng
set_option maxRecDepth 100000
set_option linter.unusedVariables false
/-- pieces at their places, one behind the other -/
def joinA : Nat → List (Nat × List AV) → Option (List AV)
  | _, [] => some []
  | p, x :: r => bif x.1 == p then (joinA (p + x.2.length) r).map (x.2 ++ ·) else none
def all2 {α β : Type} (f : α → Option β) : List α → Option (List β)
  | [] => some []
  | a :: l => (f a).bind fun b => (all2 f l).map (b :: ·)
def arrA {α : Type} (sz : Nat) : Nat → List α → List ((Nat × Unit) × α)
  | _, [] => []
  | i, a :: l => ((i * sz, ()), a) :: arrA sz (i + 1) l
/-- A datum's cells. -/
def dA {H : Type} (P : Program) : Nat → TypeId → DataW H → Option (List AV)
  | 0, _, _ => none
  | n + 1, t, d => match P.underlying t, d with
    | some .bool, .lit (.bool b) => some [.bool b]
    | some (.int _), .lit (.int k z) => some [.int k z]
    | some .string, .lit (.string s) => some [.str (s.map (·.toNat))]
    | some (.array m e), .agg ds => (all2 (fun x => (dA P n e x.2).map fun l => (x.1.1, l)) (arrA (P.cellsOf e) 0 ds)).bind (joinA 0)
    | some (.struct fs), .agg ds => (all2 (fun (x : Field × DataW H) => (dA P n x.1.type x.2).map fun l => (x.1.offset, l)) (fs.toList.zip ds)).bind (joinA 0)
    | _, _ => none
/-- The cells from a place on. -/
def OkA (cs : List Value) (p : Nat) (l : List AV) : Prop := ∀ (j : Nat) a, l[j]? = some a → plainA a = true ∧ ∃ v, cs[p + j]? = some v ∧ ∀ ρ, RV ρ a v
theorem join_ok {cs : List Value} : ∀ {L : List (Nat × List AV)} {p : Nat} {m : List AV}, joinA p L = some m → (∀ x ∈ L, OkA cs x.1 x.2) → OkA cs p m := by
  intro L
  induction L with
  | nil => intro p m h _ j a ha; cases h; simp at ha
  | cons x L ih =>
    intro p m h hx
    unfold joinA at h
    cases hp : (x.1 == p) with
    | false => rw [hp] at h; cases h
    | true =>
      rw [hp, cond_true, Option.map_eq_some_iff] at h
      obtain ⟨m', h1, rfl⟩ := h
      have hp : x.1 = p := by simpa using hp
      subst hp
      have k1 := hx x (List.mem_cons_self ..)
      have k2 := ih h1 fun y hy => hx y (List.mem_cons_of_mem _ hy)
      intro j a ha
      rcases Nat.lt_or_ge j x.2.length with g | g
      · rw [List.getElem?_append_left g] at ha; exact k1 j a ha
      · rw [List.getElem?_append_right g] at ha
        have := k2 _ a ha
        rw [show x.1 + x.2.length + (j - x.2.length) = x.1 + j by omega] at this
        exact this
theorem all2_mem {α β : Type} {f : α → Option β} : ∀ {l : List α} {m : List β}, all2 f l = some m → ∀ b ∈ m, ∃ a ∈ l, f a = some b := by
  intro l
  induction l with
  | nil => intro m h b hb; cases h; cases hb
  | cons a l ih =>
    intro m h b hb
    unfold all2 at h
    rw [Option.bind_eq_some_iff] at h
    obtain ⟨c, h1, h2⟩ := h
    rw [Option.map_eq_some_iff] at h2
    obtain ⟨m', h3, rfl⟩ := h2
    rcases List.mem_cons.1 hb with rfl | hb
    · exact ⟨a, List.mem_cons_self .., h1⟩
    · obtain ⟨x, h4, h5⟩ := ih h3 b hb
      exact ⟨x, List.mem_cons_of_mem _ h4, h5⟩
theorem arr_mem {α : Type} {sz : Nat} : ∀ {l : List α} {i : Nat} {x : (Nat × Unit) × α}, x ∈ arrA sz i l → ∃ k, l[k]? = some x.2 ∧ x.1.1 = (i + k) * sz := by
  intro l
  induction l with
  | nil => intro i x h; cases h
  | cons a l ih =>
    intro i x h
    rcases List.mem_cons.1 h with rfl | h
    · exact ⟨0, rfl, rfl⟩
    · obtain ⟨k, h1, h2⟩ := ih h
      exact ⟨k + 1, by simpa using h1, by rw [h2]; congr 1; omega⟩
theorem OkA.up {cs : List Value} {o n : Nat} {l : List AV} (h : OkA ((cs.drop o).take n) 0 l) : OkA cs o l := fun j a ha => by
  obtain ⟨h1, v, h2, h3⟩ := h j a ha
  refine ⟨h1, v, ?_, h3⟩
  rw [Nat.zero_add, List.getElem?_take] at h2
  split at h2
  · rw [List.getElem?_drop] at h2; exact h2
  · cases h2
/-- What is read as a datum is its cells. -/
theorem dA_ok {H : Type} {enc : TypeId × Value → H} {P : Program} {w : World} {base : Nat} {sp : Nat → Bool} {held : Bool} : ∀ (n : Nat) (t : TypeId) (d : DataW H) (l : List AV), dA P n t d = some l → ∀ fuel cs p, DataW.trod enc P w base sp held fuel t cs = some (d, p) → OkA cs 0 l := by
  have one : ∀ {a : AV} {v : Value}, plainA a = true → (∀ ρ, RV ρ a v) → OkA [v] 0 [a] := fun {a v} h1 h2 j b hb => by
    cases j with
    | zero => simp at hb; subst hb; exact ⟨h1, v, rfl, h2⟩
    | succ j => simp at hb
  intro n
  induction n with
  | zero => intro t d l h; cases h
  | succ n ih =>
    intro t d l h fuel cs p ht
    unfold dA at h
    split at h
    · rename_i b hu
      cases h
      obtain ⟨b', rfl, hx⟩ := DataW.trod_bool hu ht
      cases hx
      exact one rfl fun ρ => .bool b
    · rename_i k0 k z hu
      cases h
      obtain ⟨z', rfl, hx, _⟩ := DataW.trod_int hu ht
      cases hx
      exact one rfl fun ρ => .int _ _
    · rename_i s hu
      cases h
      obtain ⟨s', rfl, hx, _⟩ := DataW.trod_string hu ht
      cases hx
      exact one rfl fun ρ => .str rfl
    · rename_i m e ds hu
      rw [Option.bind_eq_some_iff] at h
      obtain ⟨L, h1, h2⟩ := h
      obtain ⟨xs, m', rfl, hx, _, hlen, hel⟩ := DataW.trod_array hu ht
      refine join_ok h2 fun x hxm => ?_
      obtain ⟨y, hy, hf⟩ := all2_mem h1 x hxm
      rw [Option.map_eq_some_iff] at hf
      obtain ⟨l', h3, rfl⟩ := hf
      obtain ⟨k, h4, h5⟩ := arr_mem hy
      rw [Nat.zero_add] at h5
      simp only [Prod.mk.injEq, DataW.agg.injEq] at hx
      rw [hx.1, List.getElem?_map, Option.map_eq_some_iff] at h4
      obtain ⟨z, h6, h7⟩ := h4
      have hk : k < m := by
        rw [← hlen]
        rcases Nat.lt_or_ge k xs.length with g | g
        · exact g
        · rw [List.getElem?_eq_none g] at h6; cases h6
      have h8 := hel k hk
      rw [h6] at h8
      obtain ⟨z1, z2⟩ := z
      have h7 : z1 = y.2 := h7
      subst h7
      have := (ih _ _ _ h3 _ _ _ h8).up
      rw [← h5] at this
      exact this
    · rename_i fs ds hu
      rw [Option.bind_eq_some_iff] at h
      obtain ⟨L, h1, h2⟩ := h
      obtain ⟨xs, m', rfl, hx, _, hlen, hel⟩ := DataW.trod_struct hu ht
      refine join_ok h2 fun x hxm => ?_
      obtain ⟨y, hy, hf⟩ := all2_mem h1 x hxm
      rw [Option.map_eq_some_iff] at hf
      obtain ⟨l', h3, rfl⟩ := hf
      obtain ⟨k, hk⟩ := List.getElem?_of_mem hy
      rw [List.getElem?_zip_eq_some] at hk
      obtain ⟨h4, h5⟩ := hk
      simp only [Prod.mk.injEq, DataW.agg.injEq] at hx
      rw [hx.1, List.getElem?_map, Option.map_eq_some_iff] at h5
      obtain ⟨z, h6, h7⟩ := h5
      have h8 := hel k y.1 (by simpa using h4)
      rw [h6] at h8
      obtain ⟨z1, z2⟩ := z
      have h7 : z1 = y.2 := h7
      subst h7
      exact (ih _ _ _ h3 _ _ _ h8).up
    · cases h
/-- The variables' cells, as a row lists them. -/
def lsOf (P : Program) (laid : List (String × DataW Unit)) (m : Nat) : List (Option (List AV)) := (List.range m).map fun g => (laid.find? fun x => P.globalNamed x.1 == some g).bind fun x => ((P.globals[g]?).map (·.type)).bind fun t => dA P 5 t x.2
theorem laidVars_mem {P : Program} {w : World} {x : String × DataW Unit} : ∀ {laid : List (String × DataW Unit)} {ps : List MemPlace}, DataW.LaidVars P w laid ps → x ∈ laid → ∃ g t cs fuel p, P.globalNamed x.1 = some g ∧ (P.globals[g]?).map (·.type) = some t ∧ w.var? P x.1 = some cs ∧ DataW.trod (fun _ => ()) P w 0 (fun _ => true) false fuel t cs.toList = some (x.2, p) := by
  intro laid
  induction laid with
  | nil => intro ps _ h; cases h
  | cons y laid ih =>
    intro ps h hx
    obtain ⟨n, d⟩ := y
    obtain ⟨g, t, cs, fuel, p, q, h1, h2, h3, h4, h5, _⟩ := h
    rcases List.mem_cons.1 hx with rfl | hx
    · exact ⟨g, t, cs, fuel, p, h1, h2, h3, h4⟩
    · exact ih h5 hx
theorem laid_ok {P : Program} {laid : List (String × DataW Unit)} {w : World} (h : laidMet P laid w) {m : Nat} {ls : List (Option (List AV))} (hls : lsOf P laid m = ls) : ∀ (g : Nat) l, ls[g]? = some (some l) → Laid w.heap g l := by
  intro g l hg
  subst hls
  unfold lsOf at hg
  rw [List.getElem?_map, Option.map_eq_some_iff] at hg
  obtain ⟨g', hg', h1⟩ := hg
  have : g' = g := by
    rw [List.getElem?_range] at hg'
    · exact (Option.some.inj hg').symm
    · rcases Nat.lt_or_ge g m with k | k
      · exact k
      · rw [List.getElem?_eq_none (by simpa using k)] at hg'; cases hg'
  subst this
  rw [Option.bind_eq_some_iff] at h1
  obtain ⟨x, h2, h3⟩ := h1
  rw [Option.bind_eq_some_iff] at h3
  obtain ⟨t, h4, h5⟩ := h3
  have hn := List.find?_some h2
  have hn : P.globalNamed x.1 = some g' := by simpa using hn
  obtain ⟨ps, hv, _⟩ := h
  obtain ⟨g2, t2, cs, fuel, p, k1, k2, k3, k4⟩ := laidVars_mem hv (List.mem_of_find?_eq_some h2)
  rw [hn] at k1
  cases k1
  rw [h4] at k2
  cases k2
  have hok := dA_ok 5 t x.2 l h5 _ _ _ k4
  unfold World.var? at k3
  rw [hn, Option.bind_some] at k3
  have k3 : (match w.heap[g']? with | some (.cells cs _ _) => some cs | _ => none) = some cs := k3
  split at k3
  · rename_i c ty f hc
    cases k3
    refine ⟨_, ty, f, hc, fun j a ha => ?_⟩
    obtain ⟨q1, v, q2, q3⟩ := hok j a ha
    exact ⟨q1, v, by rw [Nat.zero_add] at q2; simpa using q2, q3⟩
  · cases k3
end Go.B

/-
  THE ENGINE, PART R: what a row's reading of an argument says of the heap; from a law's tree to the row's walk.
  Conditions: none; it speaks of any program.
-/
namespace Go.Eng
open Go Go.RowKit

/-- What can be read: the cells of a value of a type. -/
def Reads (P : Program) (h : Heap) : Nat → TypeId → List Value → Prop
  | 0, _, _ => False
  | n + 1, t, cs => match P.underlying t with
    | some .bool => ∃ b, cs = [.bool b]
    | some (.int k) => ∃ x, cs = [.int k x] ∧ (Lit.int k x).wf = true
    | some .string => ∃ s, cs = [.string s] ∧ s.size ≤ maxLen
    | some (.slice e) => ∃ p len cap, cs = [.slice p len cap] ∧ len ≤ cap ∧ cap ≤ maxLen ∧ (p = none → len = 0 ∧ cap = 0) ∧
        ∀ i, i < len → ∃ cs', cs'.length = P.cellsOf e ∧ (∀ j v, cs'[j]? = some v → ∃ a, p = some a ∧ cellH h (a.add (i * P.cellsOf e + j)) = some v) ∧ Reads P h n e cs'
    | some (.struct fs) => cs.length = P.cellsOf t ∧ ∀ f ∈ fs.toList, Reads P h n f.type ((cs.drop f.offset).take (P.cellsOf f.type))
    | _ => True

theorem mapM_some_mem {α β : Type} {f : α → Option β} : ∀ {l : List α} {r : List β}, l.mapM f = some r → ∀ a ∈ l, ∃ b, f a = some b := by
  intro l
  induction l with
  | nil => intro r _ a ha; cases ha
  | cons x l ih =>
    intro r h a ha
    rw [List.mapM_cons] at h
    cases hx : f x with
    | none => simp [hx] at h
    | some b =>
      cases hl : l.mapM f with
      | none => simp [hx, hl] at h
      | some bs =>
        rcases List.mem_cons.1 ha with rfl | ha
        · exact ⟨b, hx⟩
        · exact ih hl a ha

theorem reads_of_trod {H : Type} {enc : TypeId × Value → H} {P : Program} {w : World} {base : Nat} {spare : Nat → Bool} {held : Bool} : ∀ (fuel : Nat) (t : TypeId) (cs : List Value) (x : DataW H × List MemPlace),
    DataW.trod enc P w base spare held fuel t cs = some x → Reads P w.heap fuel t cs := by
  intro fuel
  induction fuel with
  | zero => intro t cs x h; simp [DataW.trod] at h
  | succ n ih =>
    intro t cs x h
    have h0 := h
    rw [DataW.trod_step] at h
    unfold DataW.trodStep at h
    unfold Reads
    split <;> rename_i hd <;> try trivial
    · rw [hd] at h
      split at h <;> first | cases h | skip
      all_goals rename_i h1; first | cases h1 | skip
      all_goals first | exact ⟨_, rfl⟩ | skip
    · rw [hd] at h
      split at h <;> first | cases h | skip
      all_goals rename_i h1; first | cases h1 | skip
      split at h
      · rename_i hk; obtain ⟨rfl, hw⟩ := hk; exact ⟨_, rfl, hw⟩
      · cases h
    · rw [hd] at h
      split at h <;> first | cases h | skip
      all_goals rename_i h1; first | cases h1 | skip
      split at h
      · rename_i hs; exact ⟨_, rfl, hs⟩
      · cases h
    · rename_i e
      rcases DataW.trod_slice hd h0 with ⟨rfl, _⟩ | ⟨a, len, cap, elems, rest, m, hm, rfl, _, _, hl, hc, hlen, hel, _⟩
      · exact ⟨none, 0, 0, rfl, Nat.le_refl _, Nat.zero_le _, fun _ => ⟨rfl, rfl⟩, fun i hi => by omega⟩
      · cases hm
        refine ⟨some a, len, cap, rfl, hl, hc, (fun h => by cases h), fun i hi => ?_⟩
        have h2 := hel i hi
        rw [List.getElem?_eq_getElem (by omega), Option.bind_eq_some_iff] at h2
        obtain ⟨cs', h3, h4⟩ := h2
        obtain ⟨_, h5, h6⟩ := World.cells?_some h3
        refine ⟨cs', h5, fun j v hj => ⟨a, rfl, ?_⟩, ih _ _ _ h4⟩
        have hjl : j < P.cellsOf e := by
          rcases Nat.lt_or_ge j cs'.length with g | g
          · omega
          · rw [List.getElem?_eq_none g] at hj; cases hj
        have := h6 j hjl
        rw [hj, add_add] at this
        exact this
    · rename_i fs
      rw [hd] at h
      dsimp only at h
      by_cases hlen : cs.length = P.cellsOf t
      · rw [if_pos hlen, Option.map_eq_some_iff] at h
        obtain ⟨xs, h2, _⟩ := h
        refine ⟨hlen, fun f hf => ?_⟩
        obtain ⟨y, hy⟩ := mapM_some_mem h2 f hf
        exact ih _ _ _ hy
      · rw [if_neg hlen] at h; cases h

theorem reads_of_Trod {H : Type} {enc : TypeId × Value → H} {P : Program} {w : World} {base : Nat} {spare : Nat → Bool} {held : Bool} {t : TypeId} {v : Value} {d : DataW H} {ps : List MemPlace}
    (h : DataW.Trod enc P w base spare held t v d ps) : ∃ n, Reads P w.heap n t v.cells.toList := by
  obtain ⟨fuel, hf⟩ := h
  exact ⟨fuel, reads_of_trod fuel t _ _ hf⟩

/-- What a law's call promises. -/
def Truth (h : Heap) (v : Value) (h' : Heap) : Prop := v = .bool true ∧ Keep [] h h'
theorem law_walk {P : Program} {f : FuncId} {args : Array Value} {w : World} (H : CallsH P f args.toList w.heap (Back (Truth w.heap))) :
    Calls P f args w fun e w' => e = .returned (.bool true) ∧ Below w.heap.size w w' := by
  have := H w rfl
  rw [Array.toArray_toList] at this
  refine this.mono fun e w' he => ?_
  obtain ⟨hs, he⟩ := he
  cases e with
  | returned v =>
    obtain ⟨v', hv, rfl, hk⟩ := he
    cases hv
    exact ⟨rfl, hs.os, hs.tape, hs.output, hk.1, fun k hk' => hk.2 k hk' (by simp)⟩
  | panicked c => obtain ⟨v', hv, _⟩ := he; cases hv
  | outgrown => exact he.elim

/-! ## what a reading gives, type by type -/
section
variable {P : Program} {h : Heap}
theorem reads_string {n : Nat} {t : TypeId} {cs : List Value} (ht : P.underlying t = some .string) (H : Reads P h n t cs) : ∃ s, cs = [.string s] ∧ s.size ≤ maxLen := by
  cases n with
  | zero => exact H.elim
  | succ n => unfold Reads at H; rw [ht] at H; exact H
theorem reads_int {n : Nat} {t : TypeId} {k : IntKind} {cs : List Value} (ht : P.underlying t = some (.int k)) (H : Reads P h n t cs) : ∃ x, cs = [.int k x] ∧ (Lit.int k x).wf = true := by
  cases n with
  | zero => exact H.elim
  | succ n => unfold Reads at H; rw [ht] at H; exact H
theorem reads_slice {n : Nat} {t e : TypeId} {cs : List Value} (ht : P.underlying t = some (.slice e)) (H : Reads P h n t cs) :
    ∃ m p len cap, cs = [.slice p len cap] ∧ len ≤ cap ∧ cap ≤ maxLen ∧ (p = none → len = 0 ∧ cap = 0) ∧
      ∀ i, i < len → ∃ cs', cs'.length = P.cellsOf e ∧ (∀ j v, cs'[j]? = some v → ∃ a, p = some a ∧ cellH h (a.add (i * P.cellsOf e + j)) = some v) ∧ Reads P h m e cs' := by
  cases n with
  | zero => exact H.elim
  | succ n =>
    unfold Reads at H
    rw [ht] at H
    obtain ⟨p, len, cap, h1, h2⟩ := H
    exact ⟨n, p, len, cap, h1, h2⟩
theorem reads_struct {n : Nat} {t : TypeId} {fs : Array Field} {cs : List Value} (ht : P.underlying t = some (.struct fs)) (H : Reads P h n t cs) :
    ∃ m, cs.length = P.cellsOf t ∧ ∀ f ∈ fs.toList, Reads P h m f.type ((cs.drop f.offset).take (P.cellsOf f.type)) := by
  cases n with
  | zero => exact H.elim
  | succ n =>
    unfold Reads at H
    rw [ht] at H
    exact ⟨n, H⟩

/-- A slice whose elements are read one by one: the elements as a list, the cells where they lie. -/
theorem choose_list {α : Type} {p : Nat → α → Prop} : ∀ (n : Nat), (∀ i, i < n → ∃ x, p i x) → ∃ l : List α, l.length = n ∧ ∀ i x, l[i]? = some x → p i x := by
  intro n
  induction n with
  | zero => intro _; exact ⟨[], rfl, fun i x hx => by simp at hx⟩
  | succ n ih =>
    intro H
    obtain ⟨l, hl, hp⟩ := ih fun i hi => H i (by omega)
    obtain ⟨x, hx⟩ := H n (by omega)
    refine ⟨l ++ [x], by simp [hl], fun i y hy => ?_⟩
    rcases Nat.lt_trichotomy i l.length with g | g | g
    · rw [List.getElem?_append_left g] at hy; exact hp i y hy
    · subst g; simp at hy; subst hy; rw [hl]; exact hx
    · rw [List.getElem?_eq_none (by simp; omega)] at hy; cases hy

theorem reads_strings {n : Nat} {t e : TypeId} {p : Option Addr} {len cap : Nat} (ht : P.underlying t = some (.slice e)) (he : P.underlying e = some .string) (hc : P.cellsOf e = 1) (H : Reads P h n t [.slice p len cap]) :
    len ≤ cap ∧ cap ≤ maxLen ∧ ∃ l : List ByteArray, l.length = len ∧ CellsAt h p (l.map Value.string) := by
  obtain ⟨m, p', len', cap', h1, h2, h3, _, h4⟩ := reads_slice ht H
  simp only [List.cons.injEq, Value.slice.injEq, and_true] at h1
  obtain ⟨rfl, rfl, rfl⟩ := h1
  obtain ⟨l, hl, hp⟩ := choose_list (p := fun i (s : ByteArray) => ∃ a, p = some a ∧ cellH h (a.add i) = some (.string s)) len (fun i hi => by
    obtain ⟨cs', g1, g2, g3⟩ := h4 i hi
    obtain ⟨s, rfl, _⟩ := reads_string he g3
    obtain ⟨a, ha, hcell⟩ := g2 0 _ rfl
    exact ⟨s, a, ha, by simpa [hc] using hcell⟩)
  refine ⟨h2, h3, l, hl, fun i v hv => ?_⟩
  rw [List.getElem?_map, Option.map_eq_some_iff] at hv
  obtain ⟨s, hs, rfl⟩ := hv
  exact hp i s hs
theorem reads_ints {n : Nat} {t e : TypeId} {k : IntKind} {p : Option Addr} {len cap : Nat} (ht : P.underlying t = some (.slice e)) (he : P.underlying e = some (.int k)) (hc : P.cellsOf e = 1) (H : Reads P h n t [.slice p len cap]) :
    len ≤ cap ∧ cap ≤ maxLen ∧ ∃ l : List Int, l.length = len ∧ CellsAt h p (l.map fun x => .int k x) ∧ ∀ x ∈ l, (Lit.int k x).wf = true := by
  obtain ⟨m, p', len', cap', h1, h2, h3, _, h4⟩ := reads_slice ht H
  simp only [List.cons.injEq, Value.slice.injEq, and_true] at h1
  obtain ⟨rfl, rfl, rfl⟩ := h1
  obtain ⟨l, hl, hp⟩ := choose_list (p := fun i (x : Int) => (∃ a, p = some a ∧ cellH h (a.add i) = some (.int k x)) ∧ (Lit.int k x).wf = true) len (fun i hi => by
    obtain ⟨cs', g1, g2, g3⟩ := h4 i hi
    obtain ⟨x, rfl, hx⟩ := reads_int he g3
    obtain ⟨a, ha, hcell⟩ := g2 0 _ rfl
    exact ⟨x, ⟨a, ha, by simpa [hc] using hcell⟩, hx⟩)
  refine ⟨h2, h3, l, hl, fun i v hv => ?_, fun x hx => ?_⟩
  · rw [List.getElem?_map, Option.map_eq_some_iff] at hv
    obtain ⟨s, hs, rfl⟩ := hv
    exact (hp i s hs).1
  · obtain ⟨i, hi⟩ := List.getElem?_of_mem hx
    exact (hp i x hi).2
end
end Go.Eng

/-
  THE ENGINE, PART Q: what a row's reading gives, as plain things; from D to the row's walk.
  Conditions: none; it speaks of any program.
-/
namespace Go.Eng
open Go

/-- All that is read of a type stands for a thing. -/
def ReadsTo {α : Type} (P : Program) (h : Heap) (t : TypeId) (r : Ro α) (G : α → Prop) : Prop := ∀ n cs, Reads P h n t cs → ∃ x, r.is (snap h) cs x ∧ G x
theorem readsTo_int {P : Program} {h : Heap} {t : TypeId} {k : IntKind} (ht : P.underlying t = some (.int k)) : ReadsTo P h t (Ro.int k) fun x => (Lit.int k x).wf = true := fun n cs H => by
  obtain ⟨x, rfl, hx⟩ := reads_int ht H
  exact ⟨x, rfl, hx⟩
theorem readsTo_string {P : Program} {h : Heap} {t : TypeId} (ht : P.underlying t = some .string) : ReadsTo P h t Ro.str fun s => s.size ≤ maxLen := fun n cs H => by
  obtain ⟨x, rfl, hx⟩ := reads_string ht H
  exact ⟨x, rfl, hx⟩
theorem readsTo_bool {P : Program} {h : Heap} {t : TypeId} (ht : P.underlying t = some .bool) : ReadsTo P h t Ro.bool fun _ => True := fun n cs H => by
  cases n with
  | zero => exact H.elim
  | succ n =>
    unfold Reads at H
    rw [ht] at H
    obtain ⟨b, rfl⟩ := H
    exact ⟨b, rfl, trivial⟩
theorem readsTo_slice {α : Type} {P : Program} {h : Heap} {t e : TypeId} {r : Ro α} {G : α → Prop} (ht : P.underlying t = some (.slice e)) (hc : P.cellsOf e = r.sz) (he : ReadsTo P h e r G) :
    ReadsTo P h t (Ro.list r) fun l => l.length ≤ maxLen ∧ ∀ x ∈ l, G x := fun n cs H => by
  obtain ⟨m, p, len, cap, rfl, h1, h2, h3, h4⟩ := reads_slice ht H
  obtain ⟨l, hl, hp⟩ := choose_list (p := fun i (x : List Value × α) => r.is (snap h) x.1 x.2 ∧ G x.2 ∧ ∀ j v, x.1[j]? = some v → ∃ a, p = some a ∧ cellH h (a.add (i * r.sz + j)) = some v) len (fun i hi => by
    obtain ⟨cs', g1, g2, g3⟩ := h4 i hi
    obtain ⟨x, hx, hG⟩ := he m cs' g3
    exact ⟨(cs', x), hx, hG, fun j v hv => by have := g2 j v hv; rw [hc] at this; exact this⟩)
  have key : ∀ k, k ≤ len → ∃ vs, r.All (snap h) vs ((l.take k).map (·.2)) ∧ vs.length = k * r.sz ∧ CellsS (snap h) p vs := fun k => by
    induction k with
    | zero => intro _; exact ⟨[], .nil, by simp, fun i v hv => by simp at hv⟩
    | succ k ih =>
      intro hk
      obtain ⟨vs, a1, a2, a3⟩ := ih (by omega)
      have hkl : k < l.length := by omega
      obtain ⟨b1, b2, b3⟩ := hp k l[k] (List.getElem?_eq_getElem hkl)
      refine ⟨vs ++ l[k].1, ?_, by rw [List.length_append, a2, r.len b1, Nat.add_mul, Nat.one_mul], fun i v hv => ?_⟩
      · rw [List.take_add_one, List.getElem?_eq_getElem hkl, List.map_append]
        exact a1.append (.one b1)
      · rcases Nat.lt_or_ge i vs.length with g | g
        · rw [List.getElem?_append_left g] at hv; exact a3 i v hv
        · rw [List.getElem?_append_right g] at hv
          obtain ⟨a, ha, hcell⟩ := b3 _ v hv
          refine ⟨a, ha, ?_⟩
          rw [cellS_snap, show i = k * r.sz + (i - vs.length) by omega]
          exact hcell
  obtain ⟨vs, a1, a2, a3⟩ := key len (Nat.le_refl _)
  rw [List.take_of_length_le (by omega)] at a1
  refine ⟨l.map (·.2), ⟨(p, len, cap), rfl, by simp [hl], h1, h2, fun hp0 => ?_, vs, a1, a3⟩, by simp; omega, fun x hx => ?_⟩
  · have := (h3 hp0).1
    have : l = [] := List.eq_nil_of_length_eq_zero (by omega)
    rw [this]; rfl
  · obtain ⟨y, hy, rfl⟩ := List.mem_map.1 hx
    obtain ⟨i, hi⟩ := List.getElem?_of_mem hy
    exact (hp i y hi).2.1
theorem readsTo_mono {α : Type} {P : Program} {h : Heap} {t : TypeId} {r : Ro α} {G G' : α → Prop} (H : ReadsTo P h t r G) (hG : ∀ x, G x → G' x) : ReadsTo P h t r G' := fun n cs hr => by
  obtain ⟨x, h1, h2⟩ := H n cs hr
  exact ⟨x, h1, hG x h2⟩
/-- A slice that came in. -/
theorem slice_of {α : Type} {P : Program} {h : Heap} {t : TypeId} {r : Ro α} {G : List α → Prop} (H : ReadsTo P h t (Ro.list r) G) {n : Nat} {p : Option Addr} {len cap : Nat} (hr : Reads P h n t [.slice p len cap]) : ∃ l, Ro.SliceIs r (snap h) (p, len, cap) l ∧ G l := by
  obtain ⟨l, ⟨t', e, hs⟩, hG⟩ := H n _ hr
  obtain ⟨p', n', c'⟩ := t'
  simp only [List.cons.injEq, Value.slice.injEq, and_true] at e
  obtain ⟨rfl, rfl, rfl⟩ := e
  exact ⟨l, hs, hG⟩
theorem St.start (h : Heap) : St (snap h) [] h := Sub.refl _
/-- What D tells is true, and nothing that was there has turned. -/
theorem truth_of {P : Program} {f : FuncId} {args : List Value} {h : Heap}
    (H : CallsH P f args h (Back fun v h' => ∃ ψ : Snap, ∃ y : Bool, Sub (snap h) ψ ∧ v = ((.one (.atom .bool)) : Sh).val y ∧ y = true ∧ St ψ [] h')) : CallsH P f args h (Back (Truth h)) := by
  refine H.mono fun e h' he => ?_
  obtain ⟨v, hv, ψ, y, hs, hv2, hy, s1⟩ := he
  subst hy
  refine ⟨v, hv, hv2, ?_⟩
  have hs' := hs.trans s1.sub
  refine ⟨?_, fun i hi _ => ?_⟩
  · rcases Nat.lt_or_ge h'.size h.size with g | g
    · have h1 : snap h h'.size = some h[h'.size] := Array.getElem?_eq_getElem g
      have := lt_of_get (hs' _ _ h1)
      omega
    · exact g
  · have h1 : snap h i = some h[i] := Array.getElem?_eq_getElem hi
    have h2 : h'[i]? = some h[i] := hs' _ _ h1
    rw [h2, Array.getElem?_eq_getElem hi]
end Go.Eng

/-
  BUILD: the law BuildAnswers over heaps.
  Conditions: the arguments' cells are there; the program's variables hold what the row lists.
-/
namespace Go.Proofs.YtbhbeljgggddlaaGreatDoor
open Go Go.Eng
set_option linter.unusedVariables false
set_option maxRecDepth 100000
theorem laid_ls : Go.B.lsOf Tryz.prog Rows.buildAnswersRow.laid 7 = Go.B.ls0 := by kernel_rfl
theorem glob_of {W : World} (hL : laidMetH Tryz.prog Rows.buildAnswersRow.laid W) : GlobA (snap W.heap) := by
  rw [MakeChecks.laidMetH_plain _ _ _ (by kernel_rfl)] at hL
  intro h hs g l hg
  obtain ⟨c, ty, f, h1, h2⟩ := Go.B.laid_ok hL laid_ls g l hg
  exact ⟨c, ty, f, hs g _ h1, h2⟩
section
variable {h : Heap}
theorem cut1 {α : Type} {cs : List α} (h : cs.length = 1) : ∃ a, cs = [a] := by
  match cs, h with
  | [a], _ => exact ⟨a, rfl⟩
theorem cut2 {α : Type} {cs : List α} (h : cs.length = 2) : ∃ a b, cs = [a, b] := by
  match cs, h with
  | [a, b], _ => exact ⟨a, b, rfl⟩
theorem cut7 {α : Type} {cs : List α} (h : cs.length = 7) : ∃ a b c d e f g, cs = [a, b, c, d, e, f, g] := by
  match cs, h with
  | [a, b, c, d, e, f, g], _ => exact ⟨a, b, c, d, e, f, g, rfl⟩
theorem cut10 {α : Type} {cs : List α} (h : cs.length = 10) : ∃ a b c d e f g i j k, cs = [a, b, c, d, e, f, g, i, j, k] := by
  match cs, h with
  | [a, b, c, d, e, f, g, i, j, k], _ => exact ⟨a, b, c, d, e, f, g, i, j, k, rfl⟩
theorem cut6 {α : Type} {cs : List α} (h : cs.length = 6) : ∃ a b c d e f, cs = [a, b, c, d, e, f] := by
  match cs, h with
  | [a, b, c, d, e, f], _ => exact ⟨a, b, c, d, e, f, rfl⟩
theorem two_in {t : TypeId} {k1 k2 : IntKind} {f1 f2 : Field} (hu : Tryz.prog.underlying t = some (.struct #[f1, f2])) (e1 : f1.offset = 0) (e2 : f2.offset = 1) (u1 : Tryz.prog.underlying f1.type = some (.int k1)) (u2 : Tryz.prog.underlying f2.type = some (.int k2)) (c1 : Tryz.prog.cellsOf f1.type = 1) (c2 : Tryz.prog.cellsOf f2.type = 1) {n : Nat} {a b : Value} (H : Reads Tryz.prog h n t [a, b]) : ∃ x y, a = .int k1 x ∧ b = .int k2 y := by
  cases n with
  | zero => exact H.elim
  | succ n =>
    unfold Reads at H
    rw [hu] at H
    obtain ⟨_, hf⟩ := H
    have g1 := hf _ (.head _)
    have g2 := hf _ (.tail _ (.head _))
    rw [e1, c1] at g1
    rw [e2, c2] at g2
    obtain ⟨x, h1, _⟩ := reads_int u1 g1
    obtain ⟨y, h2, _⟩ := reads_int u2 g2
    have h1 : [a] = _ := h1
    have h2 : [b] = _ := h2
    simp only [List.cons.injEq, and_true] at h1 h2
    exact ⟨x, y, h1, h2⟩
theorem clash_to : ReadsTo Tryz.prog h 45 ro45 fun x => x.2.2.2.1.length ≤ 9223372036854775807 := fun n cs H => by
  cases n with
  | zero => exact H.elim
  | succ n =>
    unfold Reads at H
    rw [Tryz.underlying45] at H
    obtain ⟨hlen, hf⟩ := H
    have hlen : cs.length = 7 := hlen.trans (by kernel_rfl)
    obtain ⟨a, b, c, d, e, f, g, rfl⟩ := cut7 hlen
    have e1 : Tryz.prog.cellsOf 3 = 1 := by kernel_rfl
    have e2 : Tryz.prog.cellsOf 34 = 1 := by kernel_rfl
    have e3 : Tryz.prog.cellsOf 43 = 2 := by kernel_rfl
    have e4 : Tryz.prog.cellsOf 4 = 1 := by kernel_rfl
    have f0 := hf _ (.head _)
    have f1 := hf _ (.tail _ (.head _))
    have f2 := hf _ (.tail _ (.tail _ (.head _)))
    have f3 := hf _ (.tail _ (.tail _ (.tail _ (.head _))))
    have f4 := hf _ (.tail _ (.tail _ (.tail _ (.tail _ (.head _)))))
    have f5 := hf _ (.tail _ (.tail _ (.tail _ (.tail _ (.tail _ (.head _))))))
    dsimp only at f0 f1 f2 f3 f4 f5
    rw [e1] at f0 f1 f2
    rw [e2] at f3
    rw [e3] at f4
    rw [e4] at f5
    obtain ⟨x0, h0, w0⟩ := reads_int Tryz.underlying3 f0
    obtain ⟨x1, h1, w1⟩ := reads_int Tryz.underlying3 f1
    obtain ⟨x2, h2, w2⟩ := reads_int Tryz.underlying3 f2
    obtain ⟨l3, h3, w3, _⟩ := (readsTo_slice Tryz.underlying34 (by kernel_rfl) (readsTo_int Tryz.underlying3)) _ _ f3
    obtain ⟨x4, x5, h4, h5⟩ := two_in Tryz.underlying43 rfl rfl Tryz.underlying3 Tryz.underlying3 e1 e1 (show Reads Tryz.prog h n 43 [e, f] from f4)
    obtain ⟨x6, h6, _⟩ := (readsTo_bool Tryz.underlying4) _ _ f5
    have k0 : a = .int .i64 x0 := (List.cons.inj h0).1
    have k1 : b = .int .i64 x1 := (List.cons.inj h1).1
    have k2 : c = .int .i64 x2 := (List.cons.inj h2).1
    rw [k0, k1, k2, h4, h5]
    exact ⟨(x0, x1, x2, l3, x4, x5, x6), ⟨_, _, rfl, rfl, _, _, rfl, rfl, _, _, rfl, rfl, [d], _, rfl, h3, _, _, rfl, rfl, _, _, rfl, rfl, h6⟩, w3⟩
theorem answer_in {n : Nat} {cs : List Value} (H : Reads Tryz.prog h n 30 cs) : ∃ (x : AT) (c : List dt45) (e : List ByteArray), cs = cellsOf x ∧ Ro.SliceIs ro45 (snap h) x.2.2.2.2.2.2.1 c ∧ Ro.SliceIs Ro.str (snap h) x.2.2.2.2.2.2.2.1 e ∧ Fits (plainOf x c e) := by
  cases n with
  | zero => exact H.elim
  | succ n =>
    unfold Reads at H
    rw [Tryz.underlying30] at H
    obtain ⟨hlen, hf⟩ := H
    have hlen : cs.length = 10 := hlen.trans (by kernel_rfl)
    obtain ⟨a, b, c, d, e, f, g, i, j, k, rfl⟩ := cut10 hlen
    have e1 : Tryz.prog.cellsOf 3 = 1 := by kernel_rfl
    have e2 : Tryz.prog.cellsOf 22 = 1 := by kernel_rfl
    have e3 : Tryz.prog.cellsOf 24 = 2 := by kernel_rfl
    have e4 : Tryz.prog.cellsOf 9 = 1 := by kernel_rfl
    have e5 : Tryz.prog.cellsOf 25 = 1 := by kernel_rfl
    have e6 : Tryz.prog.cellsOf 26 = 1 := by kernel_rfl
    have e7 : Tryz.prog.cellsOf 28 = 2 := by kernel_rfl
    have f0 := hf _ (.head _)
    have f1 := hf _ (.tail _ (.head _))
    have f2 := hf _ (.tail _ (.tail _ (.head _)))
    have f3 := hf _ (.tail _ (.tail _ (.tail _ (.head _))))
    have f4 := hf _ (.tail _ (.tail _ (.tail _ (.tail _ (.head _)))))
    have f5 := hf _ (.tail _ (.tail _ (.tail _ (.tail _ (.tail _ (.head _))))))
    have f6 := hf _ (.tail _ (.tail _ (.tail _ (.tail _ (.tail _ (.tail _ (.head _)))))))
    have f7 := hf _ (.tail _ (.tail _ (.tail _ (.tail _ (.tail _ (.tail _ (.tail _ (.head _))))))))
    dsimp only at f0 f1 f2 f3 f4 f5 f6 f7
    rw [e1] at f0 f3
    rw [e2] at f1
    rw [e3] at f2
    rw [e4] at f4
    rw [e5] at f5
    rw [e6] at f6
    rw [e7] at f7
    obtain ⟨x0, h0, w0⟩ := reads_int Tryz.underlying3 f0
    obtain ⟨x1, h1, w1⟩ := reads_int Tryz.underlying22 f1
    obtain ⟨x2, x3, h2, h3⟩ := two_in Tryz.underlying24 rfl rfl Tryz.underlying3 Tryz.underlying3 e1 e1 (show Reads Tryz.prog h n 24 [c, d] from f2)
    obtain ⟨x4, h4, w4⟩ := reads_int Tryz.underlying3 f3
    obtain ⟨x5, h5, w5⟩ := reads_string Tryz.underlying9 f4
    obtain ⟨l6, ⟨t6, h6, s6⟩, w6, g6⟩ := (readsTo_slice Tryz.underlying25 (by kernel_rfl) clash_to) _ _ f5
    obtain ⟨l7, ⟨t7, h7, s7⟩, w7, _⟩ := (readsTo_slice Tryz.underlying26 (by kernel_rfl) (readsTo_string Tryz.underlying9)) _ _ f6
    obtain ⟨x8, x9, h8, h9⟩ := two_in Tryz.underlying28 rfl rfl Tryz.underlying3 Tryz.underlying3 e1 e1 (show Reads Tryz.prog h n 28 [j, k] from f7)
    have h0 : [a] = _ := h0
    have h1 : [b] = _ := h1
    have h4 : [e] = _ := h4
    have h5 : [f] = _ := h5
    have h6 : [g] = _ := h6
    have h7 : [i] = _ := h7
    simp only [List.cons.injEq, and_true] at h0 h1 h4 h5 h6 h7
    exact ⟨(x0, x1, x2, x3, x4, x5, t6, t7, x8, x9, ()), l6, l7, by rw [h0, h1, h2, h3, h4, h5, h6, h7, h8, h9], s6, s7, w6, g6, w7⟩
theorem quotas_in {n : Nat} {cs : List Value} (H : Reads Tryz.prog h n 32 cs) : ∃ q : Int × Int × Int × Int × Int × Int × Unit, cs = (six q).map fun x => Value.int .i64 x := by
  cases n with
  | zero => exact H.elim
  | succ n =>
    unfold Reads at H
    rw [Tryz.underlying32] at H
    obtain ⟨hlen, hf⟩ := H
    have hlen : cs.length = 6 := hlen.trans (by kernel_rfl)
    obtain ⟨a, b, c, d, e, f, rfl⟩ := cut6 hlen
    have e1 : Tryz.prog.cellsOf 3 = 1 := by kernel_rfl
    have f0 := hf _ (.head _)
    have f1 := hf _ (.tail _ (.head _))
    have f2 := hf _ (.tail _ (.tail _ (.head _)))
    have f3 := hf _ (.tail _ (.tail _ (.tail _ (.head _))))
    have f4 := hf _ (.tail _ (.tail _ (.tail _ (.tail _ (.head _)))))
    have f5 := hf _ (.tail _ (.tail _ (.tail _ (.tail _ (.tail _ (.head _))))))
    dsimp only at f0 f1 f2 f3 f4 f5
    rw [e1] at f0 f1 f2 f3 f4 f5
    obtain ⟨x0, h0, _⟩ := reads_int Tryz.underlying3 f0
    obtain ⟨x1, h1, _⟩ := reads_int Tryz.underlying3 f1
    obtain ⟨x2, h2, _⟩ := reads_int Tryz.underlying3 f2
    obtain ⟨x3, h3, _⟩ := reads_int Tryz.underlying3 f3
    obtain ⟨x4, h4, _⟩ := reads_int Tryz.underlying3 f4
    obtain ⟨x5, h5, _⟩ := reads_int Tryz.underlying3 f5
    have h0 : [a] = _ := h0
    have h1 : [b] = _ := h1
    have h2 : [c] = _ := h2
    have h3 : [d] = _ := h3
    have h4 : [e] = _ := h4
    have h5 : [f] = _ := h5
    simp only [List.cons.injEq, and_true] at h0 h1 h2 h3 h4 h5
    exact ⟨(x0, x1, x2, x3, x4, x5, ()), by rw [h0, h1, h2, h3, h4, h5]; rfl⟩
theorem buildAnswers {n m k : Nat} {ca cb cq : Array Value} (gk : GlobA (snap h)) (ha : Reads Tryz.prog h n 30 ca.toList) (hb : Reads Tryz.prog h m 30 cb.toList) (hq : Reads Tryz.prog h k 32 cq.toList) :
    CallsH Tryz.prog 3 [.agg ca, .agg cb, .agg cq] h (Back (Truth h)) := by
  obtain ⟨x, c1, e1, h1, s1, s2, F1⟩ := answer_in ha
  obtain ⟨y, c2, e2, h2, s3, s4, F2⟩ := answer_in hb
  obtain ⟨q, h3⟩ := quotas_in hq
  obtain ⟨r, q1, q2⟩ := quotas_ok q
  have i1 : ca = (cellsOf x).toArray := by apply Array.ext'; exact h1
  have i2 : cb = (cellsOf y).toArray := by apply Array.ext'; exact h2
  have i3 : cq = ((six q).map fun x => Value.int .i64 x).toArray := by apply Array.ext'; exact h3
  rw [i1, i2, i3]
  exact truth_of (answers_sim gk s1 s2 s3 s4 (St.start h) (same_ok F1) (ref_ok F1) ((same_ok F1).trans (congrArg some (self_ok _))) q1 q2)
end
end Go.Proofs.YtbhbeljgggddlaaGreatDoor
