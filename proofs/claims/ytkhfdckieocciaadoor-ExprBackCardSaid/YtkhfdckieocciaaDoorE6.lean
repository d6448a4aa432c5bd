/-
  EXPR, PLAIN PART 6: the document's reading is the parser's.
  Conditions: none.
-/
import Derived.Test.YtkhfdckieocciaaDoorE5
namespace Go.Proofs.YtkhfdckieocciaaDoor
open Go Go.Eng
set_option linter.unusedVariables false
set_option linter.unusedSectionVars false

/-- Something is wrong, and stays so. -/
def Er (s : ByteArray) (c : Nat) (l : List Nat) (m : Nat) (st : RSt) : Prop := c ≠ 0 ∧ st.1 = s ∧ 0 ≤ st.2.1 ∧ st.2.1 ≤ ((s.size + m : Nat) : Int) ∧ st.2.2.2.1 = (c : Int) ∧ st.2.2.2.2 = ps s l
theorem Er.up {s : ByteArray} {c : Nat} {l : List Nat} {m m' : Nat} {st : RSt} (H : Er s c l m st) (h : m ≤ m') : Er s c l m' st := ⟨H.1, H.2.1, H.2.2.1, by have := H.2.2.2.1; omega, H.2.2.2.2⟩
def Told (s : ByteArray) (d b : Int) (m : Nat) : Rd Ex → (Int × Int × List Ex × RSt) → Prop
  | .ok x l, r => r = (x.kind, x.n, x.kids, (s, ps s l, d, 0, b))
  | .bad c l, r => Er s c l m r.2.2.2
/-- The document's part, at a depth, is the parser's. -/
def RImpl (s : ByteArray) (d : Int) (m : Nat) (rec : RSt → Option (Int × Int × List Ex × RSt)) (part : List Nat → Rd Ex) : Prop :=
  ∀ l b, l <:+ bs s → ∃ r, rec (s, ps s l, d, 0, b) = some r ∧ Told s d b m (part l) r

section
variable {s : ByteArray} (hm : s.size ≤ 1073741824)
include hm
theorem rnow_any {a d e b : Int} (h0 : 0 ≤ a) {m : Nat} (h1 : a ≤ ((s.size + m : Nat) : Int)) : ∃ c a', tronageref20_Reader_now_D (s, a, d, e, b) = some (c, (s, a', d, e, b)) ∧ 0 ≤ a' ∧ a' ≤ ((s.size + m : Nat) : Int) := by
  by_cases h : a < ((s.size : Nat) : Int)
  · have hl : (bs s).drop a.toNat <:+ bs s := List.drop_suffix _ _
    have e : a = ps s ((bs s).drop a.toNat) := by
      unfold ps
      rw [List.length_drop, bs_length]
      omega
    rw [e, rnow_ok hl hm]
    refine ⟨_, _, rfl, ps_nn _ _, ?_⟩
    unfold ps
    omega
  · refine ⟨-1, a, ?_, h0, h1⟩
    unfold tronageref20_Reader_now_D
    refine (bind_some' (x := (s, a, d, e, b)) ?_ _).trans ?_
    · refine loop_done ?_
      dsimp only
      rw [decide_eq_false h]
      rfl
    · dsimp only
      rw [decide_eq_false h]
      rfl
theorem Er.now {c : Nat} {l : List Nat} {m : Nat} {st : RSt} (H : Er s c l m st) : ∃ k st', tronageref20_Reader_now_D st = some (k, st') ∧ Er s c l m st' := by
  obtain ⟨s', a, d, e, b⟩ := st
  obtain ⟨h0, h1, h2, h3, h4, h5⟩ := H
  dsimp only at h1 h2 h3 h4 h5
  subst h1
  obtain ⟨k, a', g1, g2, g3⟩ := rnow_any hm (d := d) (e := e) (b := b) h2 h3
  exact ⟨k, _, g1, h0, rfl, g2, g3, h4, h5⟩
theorem Er.code {c : Nat} {l : List Nat} {m : Nat} {st : RSt} (H : Er s c l m st) : (st.2.2.2.1 == (0 : Int)) = false := by
  obtain ⟨h0, _, _, _, h4, _⟩ := H
  rw [h4]
  cases h : ((c : Int) == 0) with
  | false => rfl
  | true => exact absurd (by simpa using h) h0
theorem Er.fail {c : Nat} {l : List Nat} {m : Nat} {st : RSt} (H : Er s c l m st) (k : Int) : tronageref20_Reader_fail_D st k = some st := by
  unfold tronageref20_Reader_fail_D
  rw [H.code hm]
  rfl
theorem Er.of {c : Nat} (hc : c ≠ 0) {l : List Nat} (d : Int) : Er s c l 0 (s, ps s l, d, (c : Int), ps s l) := ⟨hc, rfl, ps_nn _ _, by unfold ps; dsimp only; omega, rfl, rfl⟩
def kind9 (c : Nat) : Nat := bif c == 42 then 7 else bif c == 47 then 8 else bif c == 37 then 9 else 0
theorem kind9_in (c : Nat) : inR 7 9 (kindOf c) = !(kind9 c == 0) ∧ (kind9 c ≠ 0 → kind9 c = kindOf c) := by
  unfold kindOf kind9
  cases h1 : c == 43 <;> cases h2 : c == 45 <;> cases h3 : c == 42 <;> cases h4 : c == 47 <;> cases h5 : c == 37 <;> simp_all <;> decide
/-- A round of product's loop. -/
noncomputable def pF (rec : RSt → Option (Int × Int × List Ex × RSt)) (z5 : RSt × (Int × Int × List Ex)) : Option (Step (RSt × (Int × Int × List Ex)) (RSt × (Int × Int × List Ex))) :=
  cond ((z5.1.2.2.2.1) == (0 : Int))
    ((tronageref20_Reader_now_D ((z5.1.1), (z5.1.2.1), (z5.1.2.2.1), (z5.1.2.2.2.1), (z5.1.2.2.2.2))).bind fun t8 =>
      (cond (t8.1 == (42 : Int))
      (some (7 : Int))
      ((cond (t8.1 == (47 : Int))
        (some (8 : Int))
        ((cond (t8.1 == (37 : Int))
          (some (9 : Int))
          (some (0 : Int))).bind fun z11 =>
          some z11)).bind fun z10 =>
        some z10)).bind fun z9 =>
      cond (z9 == (0 : Int))
      (some (Step.done (t8.2, z5.2)))
      ((rec ((t8.2.1), (IntKind.wrap .i64 ((t8.2.2.1) + (1 : Int))), (t8.2.2.2.1), (t8.2.2.2.2.1), (t8.2.2.2.2.2))).bind fun t15 =>
        some (Step.next (t15.2.2.2, (z9, (0 : Int), ([(Ex.mk (z5.2.1) (z5.2.2.1) z5.2.2.2), (Ex.mk t15.1 t15.2.1 t15.2.2.1)] : List Ex))))))
    (some (Step.done (((z5.1.1), (z5.1.2.1), (z5.1.2.2.1), (z5.1.2.2.2.1), (z5.1.2.2.2.2)), z5.2)))
theorem product_eq (rec : RSt → Option (Int × Int × List Ex × RSt)) (r : RSt) : tronageref20_Reader_product_D rec r = (rec r).bind fun t2 => (loop (t2.2.2.2, (t2.1, t2.2.1, t2.2.2.1)) (pF rec)).bind fun z4 => some ((z4.2.1), (z4.2.2.1), z4.2.2.2, z4.1) := rfl
theorem pF_er {rec : RSt → Option (Int × Int × List Ex × RSt)} {c : Nat} {l : List Nat} {m : Nat} {st : RSt} (H : Er s c l m st) (x : Int × Int × List Ex) : pF rec (st, x) = some (.done (st, x)) := by
  unfold pF
  dsimp only
  rw [H.code hm]
  rfl
theorem kind9_dec (l : List Nat) : ((cond (hd1 l == (42 : Int))
      (some (7 : Int))
      ((cond (hd1 l == (47 : Int))
        (some (8 : Int))
        ((cond (hd1 l == (37 : Int))
          (some (9 : Int))
          (some (0 : Int))).bind fun z11 =>
          some z11)).bind fun z10 =>
        some z10)) : Option Int) = some ((match l with | [] => 0 | c :: _ => kind9 c : Nat) : Int) := by
  cases l with
  | nil => rfl
  | cons c l =>
    have e := eqN c
    have h42 := e 42; have h47 := e 47; have h37 := e 37
    simp only [show ((42 : Nat) : Int) = 42 from rfl, show ((47 : Nat) : Int) = 47 from rfl, show ((37 : Nat) : Int) = 37 from rfl] at h42 h47 h37
    unfold hd1 kind9
    dsimp only
    rw [h42, h47, h37]
    cases c == 42 <;> cases c == 47 <;> cases c == 37 <;> rfl
/-- How a part's loop ends. -/
def Told2 (s : ByteArray) (d b : Int) (m : Nat) : Rd Ex → (RSt × (Int × Int × List Ex)) → Prop
  | .ok x l, z => z = ((s, ps s l, d, 0, b), (x.kind, x.n, x.kids))
  | .bad c l, z => Er s c l m z.1
theorem rproduct_ok {d : Int} {m : Nat} {rec : RSt → Option (Int × Int × List Ex × RSt)} {part : List Nat → Rd Ex} (H : RImpl s d m rec part) (hp : ∀ l, l <:+ bs s → rest (part l) <:+ l) :
    RImpl s d m (tronageref20_Reader_product_D rec) (product part) := by
  have key : ∀ (n : Nat) (x : Ex) (l : List Nat) (b : Int), l <:+ bs s → l.length + 1 ≤ n → ∃ z, loop ((s, ps s l, d, 0, b), (x.kind, x.n, x.kids)) (pF rec) = some z ∧ Told2 s d b m (more part 7 9 n x l) z := by
    intro n
    induction n with
    | zero => intro x l b _ h; omega
    | succ n ih =>
      intro x l b hl hn
      have hs := skip_suf l
      have hnow := rnow_ok (d := d) (e := 0) (b := b) hl hm
      unfold more
      cases hk : skip l with
      | nil =>
        refine ⟨((s, ps s [], d, 0, b), (x.kind, x.n, x.kids)), loop_done ?_, rfl⟩
        unfold pF
        dsimp only
        rw [hnow, hk]
        simp only [Option.bind_some]
        rfl
      | cons c r =>
        rw [hk] at hs
        have hcr := hs.trans hl
        obtain ⟨g1, g2, g3, g4, g5⟩ := ps_cons hcr hm
        have hlen := hs.length_le
        rw [List.length_cons] at hlen
        obtain ⟨k1, k2⟩ := kind9_in hm c
        have hkd := kind9_dec hm (c :: r)
        have hz : (((kind9 c : Nat) : Int) == (0 : Int)) = (kind9 c == 0) := eqN (kind9 c) 0
        dsimp only
        rw [k1]
        cases hin : kind9 c == 0 with
        | true =>
          refine ⟨((s, ps s (c :: r), d, 0, b), (x.kind, x.n, x.kids)), loop_done ?_, rfl⟩
          unfold pF
          dsimp only
          rw [hnow, hk]
          simp only [Option.bind_some, cond_true, show ((0 : Int) == 0) = true from rfl]
          rw [hkd]
          simp only [Option.bind_some]
          rw [hz, hin]
          rfl
        | false =>
          have hne : kind9 c ≠ 0 := by simpa using hin
          obtain ⟨q, h1, h2⟩ := H r b g4
          have hstep : pF rec ((s, ps s l, d, 0, b), (x.kind, x.n, x.kids)) = some (.next (q.2.2.2, (((kindOf c : Nat) : Int), 0, [x, Ex.mk q.1 q.2.1 q.2.2.1]))) := by
            unfold pF
            dsimp only
            rw [hnow, hk]
            simp only [Option.bind_some, cond_true, show ((0 : Int) == 0) = true from rfl]
            rw [hkd]
            simp only [Option.bind_some]
            rw [hz, hin, g3]
            simp only [cond_false]
            rw [h1, k2 hne]
            simp only [Option.bind_some, Ex.eta]
          simp only [Bool.not_false, cond_true]
          cases hq : part r with
          | bad e l' =>
            rw [hq] at h2
            have h2 : Er s e l' m q.2.2.2 := h2
            exact ⟨_, (loop_step hstep).trans (loop_done (pF_er hm h2 _)), h2⟩
          | ok y l' =>
            rw [hq] at h2
            have h2 : q = _ := h2
            have hp' := hp r g4
            rw [hq] at hp'
            have hp' : l' <:+ r := hp'
            have := hp'.length_le
            subst h2
            obtain ⟨z, z1, z2⟩ := ih (Ex.mk (kindOf c : Nat) 0 [x, y]) l' b (hp'.trans g4) (by omega)
            refine ⟨z, (loop_step hstep).trans ?_, z2⟩
            simp only [Ex.eta]
            exact z1
  intro l b hl
  obtain ⟨r, h1, h2⟩ := H l b hl
  have h3 := hp l hl
  rw [product_eq hm, h1]
  simp only [Option.bind_some]
  unfold product chain
  cases hq : part l with
  | bad e l' =>
    rw [hq] at h2
    have h2 : Er s e l' m r.2.2.2 := h2
    rw [loop_done (pF_er hm h2 _)]
    exact ⟨_, rfl, h2⟩
  | ok x l' =>
    rw [hq] at h2 h3
    have h2 : r = _ := h2
    have h3 : l' <:+ l := h3
    subst h2
    obtain ⟨z, z1, z2⟩ := key (l'.length + 1) x l' b (h3.trans hl) (Nat.le_refl _)
    rw [z1]
    refine ⟨_, rfl, ?_⟩
    show Told s d b m (more part 7 9 (l'.length + 1) x l') _
    cases hmore : more part 7 9 (l'.length + 1) x l' with
    | bad e r => rw [hmore] at z2; exact z2
    | ok y r =>
      rw [hmore] at z2
      have z2 : z = _ := z2
      subst z2
      rfl
def kind5 (c : Nat) : Nat := bif c == 43 then 5 else bif c == 45 then 6 else 0
theorem kind5_in (c : Nat) : inR 5 6 (kindOf c) = !(kind5 c == 0) ∧ (kind5 c ≠ 0 → kind5 c = kindOf c) := by
  unfold kindOf kind5
  cases h1 : c == 43 <;> cases h2 : c == 45 <;> cases h3 : c == 42 <;> cases h4 : c == 47 <;> cases h5 : c == 37 <;> simp_all <;> decide
/-- A round of sum's loop. -/
noncomputable def sF (rec : RSt → Option (Int × Int × List Ex × RSt)) (z5 : RSt × (Int × Int × List Ex)) : Option (Step (RSt × (Int × Int × List Ex)) (RSt × (Int × Int × List Ex))) :=
  cond ((z5.1.2.2.2.1) == (0 : Int))
    ((tronageref20_Reader_now_D ((z5.1.1), (z5.1.2.1), (z5.1.2.2.1), (z5.1.2.2.2.1), (z5.1.2.2.2.2))).bind fun t8 =>
      (cond (t8.1 != (43 : Int))
      (some (t8.1 != (45 : Int)))
      (some false)).bind fun z9 =>
      cond z9
      (some (Step.done (t8.2, z5.2)))
      ((cond (t8.1 == (45 : Int))
        (some (6 : Int))
        (some (5 : Int))).bind fun z10 =>
        (tronageref20_Reader_product_D rec ((t8.2.1), (IntKind.wrap .i64 ((t8.2.2.1) + (1 : Int))), (t8.2.2.2.1), (t8.2.2.2.2.1), (t8.2.2.2.2.2))).bind fun t14 =>
        some (Step.next (t14.2.2.2, (z10, (0 : Int), ([(Ex.mk (z5.2.1) (z5.2.2.1) z5.2.2.2), (Ex.mk t14.1 t14.2.1 t14.2.2.1)] : List Ex))))))
    (some (Step.done (((z5.1.1), (z5.1.2.1), (z5.1.2.2.1), (z5.1.2.2.2.1), (z5.1.2.2.2.2)), z5.2)))
theorem sum_eq (rec : RSt → Option (Int × Int × List Ex × RSt)) (r : RSt) : tronageref20_Reader_sum_D rec r = (tronageref20_Reader_product_D rec r).bind fun t2 => (loop (t2.2.2.2, (t2.1, t2.2.1, t2.2.2.1)) (sF rec)).bind fun z4 => some ((z4.2.1), (z4.2.2.1), z4.2.2.2, z4.1) := rfl
theorem sF_er {rec : RSt → Option (Int × Int × List Ex × RSt)} {c : Nat} {l : List Nat} {m : Nat} {st : RSt} (H : Er s c l m st) (x : Int × Int × List Ex) : sF rec (st, x) = some (.done (st, x)) := by
  unfold sF
  dsimp only
  rw [H.code hm]
  rfl
theorem kind5_dec (l : List Nat) : ((cond (hd1 l != (43 : Int)) (some (hd1 l != (45 : Int))) (some false)) : Option Bool) = some ((match l with | [] => 0 | c :: _ => kind5 c : Nat) == 0) := by
  cases l with
  | nil => rfl
  | cons c l =>
    have e := eqN c
    have h43 := e 43; have h45 := e 45
    simp only [show ((43 : Nat) : Int) = 43 from rfl, show ((45 : Nat) : Int) = 45 from rfl] at h43 h45
    unfold hd1 kind5 bne
    dsimp only
    rw [h43, h45]
    cases c == 43 <;> cases c == 45 <;> rfl
theorem kind5_dec2 {c : Nat} (l : List Nat) (h : kind5 c ≠ 0) : ((cond (hd1 (c :: l) == (45 : Int)) (some (6 : Int)) (some (5 : Int))) : Option Int) = some ((kindOf c : Nat) : Int) := by
  have e := eqN c
  have h45 := e 45
  simp only [show ((45 : Nat) : Int) = 45 from rfl] at h45
  rw [← (kind5_in hm c).2 h]
  unfold hd1
  dsimp only
  rw [h45]
  unfold kind5 at h ⊢
  cases h1 : c == 43 with
  | true =>
    have : c = 43 := by simpa using h1
    subst this
    rfl
  | false =>
    cases h2 : c == 45 with
    | true => rfl
    | false => rw [h1, h2] at h; exact absurd rfl h
theorem rsum_ok {d : Int} {m : Nat} {rec : RSt → Option (Int × Int × List Ex × RSt)} {part : List Nat → Rd Ex} (H0 : RImpl s d m (tronageref20_Reader_product_D rec) (product part)) (hp0 : ∀ l, l <:+ bs s → rest (product part l) <:+ l) :
    RImpl s d m (tronageref20_Reader_sum_D rec) (sum part) := by
  have H := H0
  have hp := hp0
  unfold sum
  generalize product part = part' at H hp ⊢
  clear H0 hp0
  have key : ∀ (n : Nat) (x : Ex) (l : List Nat) (b : Int), l <:+ bs s → l.length + 1 ≤ n → ∃ z, loop ((s, ps s l, d, 0, b), (x.kind, x.n, x.kids)) (sF rec) = some z ∧ Told2 s d b m (more part' 5 6 n x l) z := by
    intro n
    induction n with
    | zero => intro x l b _ h; omega
    | succ n ih =>
      intro x l b hl hn
      have hs := skip_suf l
      have hnow := rnow_ok (d := d) (e := 0) (b := b) hl hm
      unfold more
      cases hk : skip l with
      | nil =>
        refine ⟨((s, ps s [], d, 0, b), (x.kind, x.n, x.kids)), loop_done ?_, rfl⟩
        unfold sF
        dsimp only
        rw [hnow, hk]
        simp only [Option.bind_some]
        rfl
      | cons c r =>
        rw [hk] at hs
        have hcr := hs.trans hl
        obtain ⟨g1, g2, g3, g4, g5⟩ := ps_cons hcr hm
        have hlen := hs.length_le
        rw [List.length_cons] at hlen
        obtain ⟨k1, k2⟩ := kind5_in hm c
        have hkd := kind5_dec hm (c :: r)
        dsimp only
        rw [k1]
        cases hin : kind5 c == 0 with
        | true =>
          refine ⟨((s, ps s (c :: r), d, 0, b), (x.kind, x.n, x.kids)), loop_done ?_, rfl⟩
          unfold sF
          dsimp only
          rw [hnow, hk]
          simp only [Option.bind_some, cond_true, show ((0 : Int) == 0) = true from rfl]
          rw [hkd]
          simp only [Option.bind_some]
          rw [hin]
          rfl
        | false =>
          have hne : kind5 c ≠ 0 := by simpa using hin
          obtain ⟨q, h1, h2⟩ := H r b g4
          have hstep : sF rec ((s, ps s l, d, 0, b), (x.kind, x.n, x.kids)) = some (.next (q.2.2.2, (((kindOf c : Nat) : Int), 0, [x, Ex.mk q.1 q.2.1 q.2.2.1]))) := by
            unfold sF
            dsimp only
            rw [hnow, hk]
            simp only [Option.bind_some, cond_true, show ((0 : Int) == 0) = true from rfl]
            rw [hkd]
            simp only [Option.bind_some]
            rw [hin]
            simp only [cond_false]
            rw [kind5_dec2 hm r hne, g3]
            simp only [Option.bind_some]
            rw [h1]
            simp only [Option.bind_some, Ex.eta]
          simp only [Bool.not_false, cond_true]
          cases hq : part' r with
          | bad e l' =>
            rw [hq] at h2
            have h2 : Er s e l' m q.2.2.2 := h2
            exact ⟨_, (loop_step hstep).trans (loop_done (sF_er hm h2 _)), h2⟩
          | ok y l' =>
            rw [hq] at h2
            have h2 : q = _ := h2
            have hp' := hp r g4
            rw [hq] at hp'
            have hp' : l' <:+ r := hp'
            have := hp'.length_le
            subst h2
            obtain ⟨z, z1, z2⟩ := ih (Ex.mk (kindOf c : Nat) 0 [x, y]) l' b (hp'.trans g4) (by omega)
            refine ⟨z, (loop_step hstep).trans ?_, z2⟩
            simp only [Ex.eta]
            exact z1
  intro l b hl
  obtain ⟨r, h1, h2⟩ := H l b hl
  have h3 := hp l hl
  rw [sum_eq hm, h1]
  simp only [Option.bind_some]
  unfold chain
  cases hq : part' l with
  | bad e l' =>
    rw [hq] at h2
    have h2 : Er s e l' m r.2.2.2 := h2
    rw [loop_done (sF_er hm h2 _)]
    exact ⟨_, rfl, h2⟩
  | ok x l' =>
    rw [hq] at h2 h3
    have h2 : r = _ := h2
    have h3 : l' <:+ l := h3
    subst h2
    obtain ⟨z, z1, z2⟩ := key (l'.length + 1) x l' b (h3.trans hl) (Nat.le_refl _)
    rw [z1]
    refine ⟨_, rfl, ?_⟩
    show Told s d b m (more part' 5 6 (l'.length + 1) x l') _
    cases hmore : more part' 5 6 (l'.length + 1) x l' with
    | bad e r => rw [hmore] at z2; exact z2
    | ok y r =>
      rw [hmore] at z2
      have z2 : z = _ := z2
      subst z2
      rfl
end
end Go.Proofs.YtkhfdckieocciaaDoor
