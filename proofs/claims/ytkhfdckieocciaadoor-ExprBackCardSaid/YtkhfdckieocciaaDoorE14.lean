/-
  EXPR, PLAIN PART 14: any expression: few of its parts, whether it can be, how it is shown; ExprTells' and ExprBack's laws.
  Conditions: none.
-/
import Derived.Test.YtkhfdckieocciaaDoorE13
namespace Go.Proofs.YtkhfdckieocciaaDoor
open Go Go.Eng
set_option linter.unusedVariables false
set_option linter.unusedSectionVars false
set_option maxRecDepth 100000

/-- At most so deep; its numbers are int64s, nowhere too broad. -/
def okE : Nat → Ex → Prop
  | 0, _ => False
  | n + 1, x => x.kids.length ≤ 9223372036854775807 ∧ (-9223372036854775808 ≤ x.n ∧ x.n ≤ 9223372036854775807) ∧ ∀ y ∈ x.kids, okE n y
theorem okE_up : ∀ (n : Nat) (x : Ex), okE n x → okE (n + 1) x := by
  intro n
  induction n with
  | zero => intro x h; exact h.elim
  | succ n ih => intro x h; exact ⟨h.1, h.2.1, fun y hy => ih y (h.2.2 y hy)⟩
theorem okE_le {n m : Nat} (h : n ≤ m) {x : Ex} (hx : okE n x) : okE m x := by
  induction h with
  | refl => exact hx
  | step _ ih => exact okE_up _ _ ih
theorem okE_dle : ∀ (n : Nat) (x : Ex), okE n x → dle n x := by
  intro n
  induction n with
  | zero => intro x h; exact h.elim
  | succ n ih => intro x h; exact ⟨h.1, fun y hy => ih y (h.2.2 y hy)⟩
/-- How many parts, so deep. -/
def cnt : Nat → Ex → Nat
  | 0, _ => 1
  | n + 1, x => 1 + (x.kids.map (cnt n)).sum
theorem take_sum (f : Ex → Nat) (l : List Ex) (k : Nat) (hk : k < l.length) : ((l.take (k + 1)).map f).sum = ((l.take k).map f).sum + f l[k] := by
  rw [List.take_add_one, List.getElem?_eq_getElem hk, List.map_append, List.sum_append]
  simp
theorem few_ok : ∀ (D fuel : Nat) (x : Ex) (left : Nat), D < fuel → D ≤ 1000 → left ≤ 1000 → (∃ n, okE n x) →
    ∃ v : Int, tronageref20_Few_D fuel x (left : Int) (D : Int) = some v ∧ -1 ≤ v ∧ (0 ≤ v → okE D x ∧ ((cnt D x : Nat) : Int) + v ≤ (left : Int)) := by
  intro D
  induction D with
  | zero =>
    intro fuel x left h1 _ hl _
    obtain ⟨fuel, rfl⟩ : ∃ k, fuel = k + 1 := ⟨fuel - 1, by omega⟩
    refine ⟨-1, ?_, by omega, fun h => absurd h (by omega)⟩
    show tronageref20_Few_B (tronageref20_Few_D fuel) x (left : Int) 0 = _
    unfold tronageref20_Few_B
    cases decide (((left : Nat) : Int) ≤ 0) <;> rfl
  | succ D ih =>
    intro fuel x left h1 hD hl hx
    obtain ⟨fuel, rfl⟩ : ∃ k, fuel = k + 1 := ⟨fuel - 1, by omega⟩
    have hok : x.kids.length ≤ 9223372036854775807 ∧ (-9223372036854775808 ≤ x.n ∧ x.n ≤ 9223372036854775807) ∧ ∀ y ∈ x.kids, ∃ n, okE n y := by
      obtain ⟨n, hn⟩ := hx
      cases n with
      | zero => exact hn.elim
      | succ n => exact ⟨hn.1, hn.2.1, fun y hy => ⟨n, hn.2.2 y hy⟩⟩
    show ∃ v : Int, tronageref20_Few_B (tronageref20_Few_D fuel) x (left : Int) ((D + 1 : Nat) : Int) = some v ∧ _
    unfold tronageref20_Few_B
    rw [decide_eq_false (show ¬ (((D + 1 : Nat) : Int) ≤ 0) by omega)]
    by_cases hl0 : left = 0
    · subst hl0
      exact ⟨-1, rfl, by omega, fun h => absurd h (by omega)⟩
    · rw [decide_eq_false (show ¬ (((left : Nat) : Int) ≤ 0) by omega), w64 (n := (left : Int) - 1) (by omega) (by omega), w64 (n := ((D + 1 : Nat) : Int) - 1) (by omega) (by omega)]
      have e : ((D + 1 : Nat) : Int) - 1 = (D : Int) := by omega
      rw [e]
      simp only [cond_false, Option.bind_some]
      rcases forN_inv (σ := Int) (β := Int) (fun k z => 0 ≤ z ∧ (∀ y ∈ x.kids.take k, okE D y) ∧ 1 + ((((x.kids.take k).map (cnt D)).sum : Nat) : Int) + z ≤ (left : Int)) (fun b => b = -1) hok.1 (s := (left : Int) - 1) (f := fun i_z4 z4 =>
          (idx x.kids i_z4).bind fun e33 =>
          (tronageref20_Few_D fuel (Ex.mk e33.kind e33.n e33.kids) z4 (D : Int)).bind fun t11 =>
          cond (decide (t11 < (0 : Int)))
          (some (Step.done (-1 : Int)))
          (some (Step.next t11))) ⟨by omega, by simp, by simp; omega⟩ (fun k z hk hI => by
            have hm : x.kids[k] ∈ x.kids := List.getElem_mem hk
            obtain ⟨i1, i2, i3⟩ := hI
            obtain ⟨q, rfl⟩ : ∃ q : Nat, z = (q : Int) := ⟨z.toNat, by omega⟩
            obtain ⟨v, g1, g2, g3⟩ := ih fuel x.kids[k] q (by omega) (by omega) (by omega) (hok.2.2 _ hm)
            simp only [idx_lt hk, Option.bind_some, Ex.eta]
            rw [g1, Option.bind_some]
            cases hv : decide (v < 0) with
            | true => exact .inr ⟨-1, rfl, rfl⟩
            | false =>
              have hv := of_decide_eq_false hv
              obtain ⟨g4, g5⟩ := g3 (by omega)
              refine .inl ⟨v, rfl, by omega, ?_, ?_⟩
              · intro y hy
                rw [List.take_add_one, List.getElem?_eq_getElem hk] at hy
                rcases List.mem_append.1 hy with hy | hy
                · exact i2 y hy
                · have : y = x.kids[k] := by simpa using hy
                  rw [this]; exact g4
              · rw [take_sum (cnt D) x.kids k hk]
                omega) with ⟨v, h1, i1, i2, i3⟩ | ⟨b, h1, h2⟩
      · rw [h1]
        refine ⟨v, rfl, by omega, fun _ => ?_⟩
        rw [List.take_length] at i2 i3
        refine ⟨⟨hok.1, hok.2.1, i2⟩, ?_⟩
        show ((1 + (x.kids.map (cnt D)).sum : Nat) : Int) + v ≤ (left : Int)
        omega
      · rw [h1]
        subst h2
        exact ⟨-1, rfl, by omega, fun h => absurd h (by omega)⟩

/-! ## whether one can be -/
/-- What is asked ahead of the kids. -/
def headB (k n : Int) (len : Nat) : Bool := decide (1 ≤ k) && decide (k ≤ 9) && decide (0 ≤ n) && decide (n ≤ 999999999999999999) && decide (len = (bif decide (k < 4) then 0 else bif k == 4 then 1 else 2)) && (decide (k < 4) || n == 0)
noncomputable def kidsE (rec : Ex → Option Bool) (l : List Ex) : Option Bool := (slices_ContainsFunc_api_Expr_api_Expr_43_D rec l).bind fun t => some (!t)
noncomputable def kidsR (rec : Ex → Option Bool) (l : List Ex) (m : Int) : Option Bool := (forN (σ := Unit) (β := Bool) (0 : Int) m () fun i_z15 z15 =>
        (idx l i_z15).bind fun e58 =>
        (rec (Ex.mk e58.kind e58.n e58.kids)).bind fun t21 =>
        cond (!t21)
        (some (Step.done false))
        (some (Step.next ()))).bind fun e_z14 => match e_z14 with
      | .next z14 =>
        some true
      | .done q87 => some q87
theorem kinds_of {k : Int} (h1 : 1 ≤ k) (h2 : k ≤ 9) : k = 1 ∨ k = 2 ∨ k = 3 ∨ k = 4 ∨ k = 5 ∨ k = 6 ∨ k = 7 ∨ k = 8 ∨ k = 9 := by omega
theorem neN (a b : Nat) : (((a : Nat) : Int) != ((b : Nat) : Int)) = !decide (a = b) := by
  by_cases h : a = b
  · subst h; simp
  · rw [decide_eq_false h]
    have : ((a : Nat) : Int) ≠ ((b : Nat) : Int) := by omega
    simpa using this
theorem sureE_head (rec : Ex → Option Bool) (k n : Int) (l : List Ex) : expr_sure_B rec (Ex.mk k n l) = cond (headB k n l.length) (kidsE rec l) (some false) := by
  unfold expr_sure_B expr_many_D headB
  dsimp +instances only [Ex.kind_mk, Ex.n_mk, Ex.kids_mk]
  by_cases h1 : 1 ≤ k
  · by_cases h2 : k ≤ 9
    · rw [decide_eq_true h1, decide_eq_true h2, decide_eq_false (show ¬ k < 1 by omega), decide_eq_false (show ¬ k > 9 by omega)]
      have hn := neN l.length
      have hn0 := hn 0; have hn1 := hn 1; have hn2 := hn 2
      simp only [show ((0 : Nat) : Int) = 0 from rfl, show ((1 : Nat) : Int) = 1 from rfl, show ((2 : Nat) : Int) = 2 from rfl] at hn0 hn1 hn2
      have hlo : decide (n < 0) = !decide (0 ≤ n) := by
        by_cases h : 0 ≤ n
        · rw [decide_eq_true h, decide_eq_false (by omega)]; rfl
        · rw [decide_eq_false h, decide_eq_true (by omega)]; rfl
      have hhi : decide (n > 999999999999999999) = !decide (n ≤ 999999999999999999) := by
        by_cases h : n ≤ 999999999999999999
        · rw [decide_eq_true h, decide_eq_false (by omega)]; rfl
        · rw [decide_eq_false h, decide_eq_true (by omega)]; rfl
      have hne : (n != 0) = !(n == 0) := rfl
      rw [hlo, hhi, hne]
      rcases kinds_of h1 h2 with rfl | rfl | rfl | rfl | rfl | rfl | rfl | rfl | rfl
      all_goals
        simp only [show decide ((1 : Int) < 4) = true from rfl, show decide ((2 : Int) < 4) = true from rfl, show decide ((3 : Int) < 4) = true from rfl, show decide ((4 : Int) < 4) = false from rfl, show decide ((5 : Int) < 4) = false from rfl, show decide ((6 : Int) < 4) = false from rfl, show decide ((7 : Int) < 4) = false from rfl, show decide ((8 : Int) < 4) = false from rfl, show decide ((9 : Int) < 4) = false from rfl,
          show ((4 : Int) == 4) = true from rfl, show ((5 : Int) == 4) = false from rfl, show ((6 : Int) == 4) = false from rfl, show ((7 : Int) == 4) = false from rfl, show ((8 : Int) == 4) = false from rfl, show ((9 : Int) == 4) = false from rfl,
          show decide ((1 : Int) ≥ 4) = false from rfl, show decide ((2 : Int) ≥ 4) = false from rfl, show decide ((3 : Int) ≥ 4) = false from rfl, show decide ((4 : Int) ≥ 4) = true from rfl, show decide ((5 : Int) ≥ 4) = true from rfl, show decide ((6 : Int) ≥ 4) = true from rfl, show decide ((7 : Int) ≥ 4) = true from rfl, show decide ((8 : Int) ≥ 4) = true from rfl, show decide ((9 : Int) ≥ 4) = true from rfl, cond_true, cond_false, Option.bind_some]
        generalize decide (0 ≤ n) = p1
        generalize decide (n ≤ 999999999999999999) = p2
        generalize (n == 0) = p3
        first
          | (rw [hn0]; generalize decide (l.length = 0) = p4; cases p1 <;> cases p2 <;> cases p3 <;> cases p4 <;> rfl)
          | (rw [hn1]; generalize decide (l.length = 1) = p4; cases p1 <;> cases p2 <;> cases p3 <;> cases p4 <;> rfl)
          | (rw [hn2]; generalize decide (l.length = 2) = p4; cases p1 <;> cases p2 <;> cases p3 <;> cases p4 <;> rfl)
    · rw [decide_eq_false h2, decide_eq_true (show k > 9 by omega)]
      cases decide (k < 1) <;> cases decide (1 ≤ k) <;> rfl
  · rw [decide_eq_false h1, decide_eq_true (show k < 1 by omega)]
    rfl
def manyI (k : Int) : Int := bif decide (k < 4) then 0 else bif k == 4 then 1 else 2
theorem sureR_head (rec : Ex → Option Bool) (k n : Int) (l : List Ex) : tronageref20_sure_B rec (Ex.mk k n l) = cond (headB k n l.length) (kidsR rec l (manyI k)) (some false) := by
  unfold tronageref20_sure_B headB
  dsimp +instances only [Ex.kind_mk, Ex.n_mk, Ex.kids_mk]
  by_cases h1 : 1 ≤ k
  · by_cases h2 : k ≤ 9
    · rw [decide_eq_true h1, decide_eq_true h2, decide_eq_false (show ¬ k < 1 by omega), decide_eq_false (show ¬ k > 9 by omega)]
      have hn := neN l.length
      have hn0 := hn 0; have hn1 := hn 1; have hn2 := hn 2
      simp only [show ((0 : Nat) : Int) = 0 from rfl, show ((1 : Nat) : Int) = 1 from rfl, show ((2 : Nat) : Int) = 2 from rfl] at hn0 hn1 hn2
      have hlo : decide (n < 0) = !decide (0 ≤ n) := by
        by_cases h : 0 ≤ n
        · rw [decide_eq_true h, decide_eq_false (by omega)]; rfl
        · rw [decide_eq_false h, decide_eq_true (by omega)]; rfl
      have hhi : decide (n > 999999999999999999) = !decide (n ≤ 999999999999999999) := by
        by_cases h : n ≤ 999999999999999999
        · rw [decide_eq_true h, decide_eq_false (by omega)]; rfl
        · rw [decide_eq_false h, decide_eq_true (by omega)]; rfl
      have hne : (n != 0) = !(n == 0) := rfl
      rw [hlo, hhi, hne]
      unfold manyI
      rcases kinds_of h1 h2 with rfl | rfl | rfl | rfl | rfl | rfl | rfl | rfl | rfl
      all_goals
        simp only [show decide ((1 : Int) < 4) = true from rfl, show decide ((2 : Int) < 4) = true from rfl, show decide ((3 : Int) < 4) = true from rfl, show decide ((4 : Int) < 4) = false from rfl, show decide ((5 : Int) < 4) = false from rfl, show decide ((6 : Int) < 4) = false from rfl, show decide ((7 : Int) < 4) = false from rfl, show decide ((8 : Int) < 4) = false from rfl, show decide ((9 : Int) < 4) = false from rfl,
          show ((1 : Int) == 4) = false from rfl, show ((2 : Int) == 4) = false from rfl, show ((3 : Int) == 4) = false from rfl, show ((4 : Int) == 4) = true from rfl, show ((5 : Int) == 4) = false from rfl, show ((6 : Int) == 4) = false from rfl, show ((7 : Int) == 4) = false from rfl, show ((8 : Int) == 4) = false from rfl, show ((9 : Int) == 4) = false from rfl,
          show decide ((1 : Int) > 4) = false from rfl, show decide ((2 : Int) > 4) = false from rfl, show decide ((3 : Int) > 4) = false from rfl, show decide ((5 : Int) > 4) = true from rfl, show decide ((6 : Int) > 4) = true from rfl, show decide ((7 : Int) > 4) = true from rfl, show decide ((8 : Int) > 4) = true from rfl, show decide ((9 : Int) > 4) = true from rfl,
          show decide ((0 : Int) > 0) = false from rfl, show decide ((1 : Int) > 0) = true from rfl, show decide ((2 : Int) > 0) = true from rfl, cond_true, cond_false, Option.bind_some]
        generalize decide (0 ≤ n) = p1
        generalize decide (n ≤ 999999999999999999) = p2
        generalize (n == 0) = p3
        first
          | (rw [hn0]; generalize decide (l.length = 0) = p4; cases p1 <;> cases p2 <;> cases p3 <;> cases p4 <;> rfl)
          | (rw [hn1]; generalize decide (l.length = 1) = p4; cases p1 <;> cases p2 <;> cases p3 <;> cases p4 <;> rfl)
          | (rw [hn2]; generalize decide (l.length = 2) = p4; cases p1 <;> cases p2 <;> cases p3 <;> cases p4 <;> rfl)
    · rw [decide_eq_false h2, decide_eq_true (show k > 9 by omega)]
      cases decide (k < 1) <;> cases decide (1 ≤ k) <;> rfl
  · rw [decide_eq_false h1, decide_eq_true (show k < 1 by omega)]
    rfl
theorem kidsE_nil (rec : Ex → Option Bool) : kidsE rec [] = some true := rfl
theorem kidsE_one {rec : Ex → Option Bool} {a : Ex} {b : Bool} (h : rec a = some b) : kidsE rec [a] = some b := by
  unfold kidsE slices_ContainsFunc_api_Expr_api_Expr_43_D slices_IndexFunc_api_Expr_api_Expr_43_D forN expr_sure_1_D
  rw [if_pos ⟨by decide, by simp⟩]
  have e : ((((List.length [a] : Nat) : Int) - 0).toNat) = 1 := rfl
  rw [e]
  simp only [forGo]
  rw [show idx [a] 0 = some a from rfl]
  simp only [Option.bind_some, Ex.eta]
  rw [h]
  cases b <;> rfl
theorem kidsE_two {rec : Ex → Option Bool} {a a' : Ex} {b b' : Bool} (h : rec a = some b) (h' : rec a' = some b') : kidsE rec [a, a'] = some (b && b') := by
  unfold kidsE slices_ContainsFunc_api_Expr_api_Expr_43_D slices_IndexFunc_api_Expr_api_Expr_43_D forN expr_sure_1_D
  rw [if_pos ⟨by decide, by simp⟩]
  have e : ((((List.length [a, a'] : Nat) : Int) - 0).toNat) = 2 := rfl
  rw [e]
  simp only [forGo]
  rw [show idx [a, a'] 0 = some a from rfl, show idx [a, a'] (0 + 1) = some a' from rfl]
  simp only [Option.bind_some, Ex.eta]
  rw [h, h']
  cases b <;> cases b' <;> rfl
theorem kidsR_nil (rec : Ex → Option Bool) : kidsR rec [] 0 = some true := rfl
theorem kidsR_one {rec : Ex → Option Bool} {a : Ex} {b : Bool} (h : rec a = some b) : kidsR rec [a] 1 = some b := by
  unfold kidsR forN
  rw [if_pos ⟨by decide, by decide⟩]
  have e : (((1 : Int) - 0).toNat) = 1 := rfl
  rw [e]
  simp only [forGo]
  rw [show idx [a] 0 = some a from rfl]
  simp only [Option.bind_some, Ex.eta]
  rw [h]
  cases b <;> rfl
theorem kidsR_two {rec : Ex → Option Bool} {a a' : Ex} {b b' : Bool} (h : rec a = some b) (h' : rec a' = some b') : kidsR rec [a, a'] 2 = some (b && b') := by
  unfold kidsR forN
  rw [if_pos ⟨by decide, by decide⟩]
  have e : (((2 : Int) - 0).toNat) = 2 := rfl
  rw [e]
  simp only [forGo]
  rw [show idx [a, a'] 0 = some a from rfl, show idx [a, a'] (0 + 1) = some a' from rfl]
  simp only [Option.bind_some, Ex.eta]
  rw [h, h']
  cases b <;> cases b' <;> rfl
theorem headB_true {k n : Int} {len : Nat} (h : headB k n len = true) : 1 ≤ k ∧ k ≤ 9 ∧ 0 ≤ n ∧ n ≤ 999999999999999999 ∧ len = (bif decide (k < 4) then 0 else bif k == 4 then 1 else 2) ∧ (4 ≤ k → n = 0) := by
  unfold headB at h
  simp only [Bool.and_eq_true, Bool.or_eq_true, decide_eq_true_eq, beq_iff_eq] at h
  obtain ⟨⟨⟨⟨⟨h1, h2⟩, h3⟩, h4⟩, h5⟩, h6⟩ := h
  exact ⟨h1, h2, h3, h4, h5, fun h => by rcases h6 with g | g; exact absurd g (by omega); exact g⟩
theorem sure_both : ∀ (D : Nat) (x : Ex), okE D x → ∀ fuel, D ≤ fuel → ∃ b, expr_sure_D fuel x = some b ∧ tronageref20_sure_D fuel x = some b ∧ (b = true → ∃ t, Tx (cnt D x) x t) := by
  intro D
  induction D with
  | zero => intro x h; exact h.elim
  | succ D ih =>
    intro x hx fuel hf
    obtain ⟨fuel, rfl⟩ : ∃ k, fuel = k + 1 := ⟨fuel - 1, by omega⟩
    obtain ⟨k, n, l⟩ := x
    have e1 : expr_sure_D (fuel + 1) (Ex.mk k n l) = cond (headB k n l.length) (kidsE (expr_sure_D fuel) l) (some false) := sureE_head _ k n l
    have e2 : tronageref20_sure_D (fuel + 1) (Ex.mk k n l) = cond (headB k n l.length) (kidsR (tronageref20_sure_D fuel) l (manyI k)) (some false) := sureR_head _ k n l
    rw [e1, e2]
    have hk : ∀ y ∈ l, okE D y := hx.2.2
    cases hb : headB k n l.length with
    | false => exact ⟨false, rfl, rfl, fun h => by cases h⟩
    | true =>
      obtain ⟨h1, h2, h3, h4, h5, h6⟩ := headB_true hb
      simp only [cond_true]
      obtain ⟨u, rfl⟩ : ∃ u : Nat, n = (u : Int) := ⟨n.toNat, by omega⟩
      have hu : u < 10 ^ 18 := by rw [pow18]; omega
      have hnil : k = 1 ∨ k = 2 ∨ k = 3 → l = [] ∧ manyI k = 0 := by
        rintro (rfl | rfl | rfl) <;> exact ⟨List.eq_nil_of_length_eq_zero h5, rfl⟩
      by_cases hlo : k < 4
      · obtain ⟨rfl, hm⟩ := hnil (by omega)
        rw [hm]
        refine ⟨true, rfl, rfl, fun _ => ?_⟩
        have : k = 1 ∨ k = 2 ∨ k = 3 := by omega
        rcases this with rfl | rfl | rfl
        · exact ⟨_, Tx.num 0 u hu⟩
        · exact ⟨_, Tx.val 0 u hu⟩
        · exact ⟨_, Tx.node 0 u hu⟩
      · have hu0 : u = 0 := by have := h6 (by omega); omega
        subst hu0
        rw [decide_eq_false hlo, cond_false] at h5
        by_cases h44 : k = 4
        · subst h44
          have h5 : l.length = 1 := h5
          match l, h5, hk with
          | [a], _, hk =>
            obtain ⟨b, g1, g2, g3⟩ := ih a (hk a (by simp)) fuel (by omega)
            refine ⟨b, kidsE_one g1, kidsR_one g2, fun h => ?_⟩
            obtain ⟨t, ht⟩ := g3 h
            refine ⟨_, (Tx.neg ht).up ?_⟩
            show cnt D a + 1 ≤ 1 + (List.map (cnt D) [a]).sum
            simp
            omega
        · have e4 : (k == 4) = false := by simpa using h44
          rw [e4] at h5
          have h5 : l.length = 2 := h5
          have hm : manyI k = 2 := by unfold manyI; rw [decide_eq_false hlo, e4]; rfl
          rw [hm]
          match l, h5, hk with
          | [a, a'], _, hk =>
            obtain ⟨b, g1, g2, g3⟩ := ih a (hk a (by simp)) fuel (by omega)
            obtain ⟨b', g1', g2', g3'⟩ := ih a' (hk a' (by simp)) fuel (by omega)
            refine ⟨b && b', kidsE_two g1 g1', kidsR_two g2 g2', fun h => ?_⟩
            rw [Bool.and_eq_true] at h
            obtain ⟨t, ht⟩ := g3 h.1
            obtain ⟨t', ht'⟩ := g3' h.2
            obtain ⟨j, rfl⟩ : ∃ j : Nat, k = (j : Int) := ⟨k.toNat, by omega⟩
            refine ⟨_, (Tx.two j (by omega) (by omega) ht ht' (Nat.le_refl _)).up ?_⟩
            show cnt D a + cnt D a' + 1 ≤ 1 + (List.map (cnt D) [a, a']).sum
            simp
            omega
theorem right_both {D : Nat} {x : Ex} (hx : okE D x) {fuel : Nat} (hf : D ≤ fuel) : ∃ b, expr_Right_D fuel x = some b ∧ tronageref20_Right_D fuel x = some b ∧ (b = true → x = Ex.mk 0 0 [] ∨ ∃ t, Tx (cnt D x) x t) := by
  obtain ⟨b, h1, h2, h3⟩ := sure_both D x hx fuel hf
  unfold expr_Right_D tronageref20_Right_D
  rw [Ex.eta, h1, h2]
  cases hk : x.kind == (0 : Int) with
  | false => exact ⟨b, rfl, rfl, fun h => .inr (h3 h)⟩
  | true =>
    cases hn : x.n == (0 : Int) with
    | false => exact ⟨b, rfl, rfl, fun h => .inr (h3 h)⟩
    | true =>
      cases hl : ((List.length x.kids : Nat) : Int) == (0 : Int) with
      | false => exact ⟨b, rfl, rfl, fun h => .inr (h3 h)⟩
      | true =>
        refine ⟨true, rfl, rfl, fun _ => .inl ?_⟩
        have a1 : x.kind = 0 := by simpa using hk
        have a2 : x.n = 0 := by simpa using hn
        have a3 : x.kids = [] := by
          have : ((List.length x.kids : Nat) : Int) = 0 := by simpa using hl
          exact List.eq_nil_of_length_eq_zero (by omega)
        rw [← Ex.eta x, a1, a2, a3]

/-! ## how many it is, and the greatest number -/
theorem size_same : ∀ n, expr_Size_D n = tronageref20_Size_D n := by
  intro n
  induction n with
  | zero => rfl
  | succ n ih =>
    show expr_Size_B (expr_Size_D n) = tronageref20_Size_B (tronageref20_Size_D n)
    rw [ih]
    rfl
theorem most_same : ∀ n, expr_Most_D n = tronageref20_Most_D n := by
  intro n
  induction n with
  | zero => rfl
  | succ n ih =>
    show expr_Most_B (expr_Most_D n) = tronageref20_Most_B (tronageref20_Most_D n)
    rw [ih]
    rfl
theorem size_some : ∀ (D : Nat) (x : Ex), okE D x → ∀ fuel, D ≤ fuel → ∃ v, expr_Size_D fuel x = some v := by
  intro D
  induction D with
  | zero => intro x h; exact h.elim
  | succ D ih =>
    intro x hx fuel hf
    obtain ⟨fuel, rfl⟩ : ∃ k, fuel = k + 1 := ⟨fuel - 1, by omega⟩
    show ∃ v, expr_Size_B (expr_Size_D fuel) x = some v
    unfold expr_Size_B
    cases x.kind == (0 : Int) with
    | true => exact ⟨0, rfl⟩
    | false =>
      obtain ⟨v, h1, _⟩ := forS_inv (σ := Int) (fun _ _ => True) hx.1 (s := 1) (f := fun i_z5 z5 =>
        (idx x.kids i_z5).bind fun e26 =>
        (expr_Size_D fuel (Ex.mk e26.kind e26.n e26.kids)).bind fun t14 =>
        some (IntKind.wrap .i64 (z5 + t14))) trivial (fun k z hk _ => by
          have hm : x.kids[k] ∈ x.kids := List.getElem_mem hk
          obtain ⟨v, hv⟩ := ih _ (hx.2.2 _ hm) fuel (by omega)
          simp only [idx_lt hk, Option.bind_some, Ex.eta]
          rw [hv]
          exact ⟨_, rfl, trivial⟩)
      rw [h1]
      exact ⟨v, rfl⟩
theorem most_some : ∀ (D : Nat) (x : Ex), okE D x → ∀ fuel, D ≤ fuel → ∃ v, expr_Most_D fuel x = some v := by
  intro D
  induction D with
  | zero => intro x h; exact h.elim
  | succ D ih =>
    intro x hx fuel hf
    obtain ⟨fuel, rfl⟩ : ∃ k, fuel = k + 1 := ⟨fuel - 1, by omega⟩
    show ∃ v, expr_Most_B (expr_Most_D fuel) x = some v
    unfold expr_Most_B
    have loop : ∀ s : Int, ∃ v, forS (σ := Int) (0 : Int) (((List.length x.kids) : Nat) : Int) s (fun i_z9 z9 =>
        (idx x.kids i_z9).bind fun e39 =>
        (expr_Most_D fuel (Ex.mk e39.kind e39.n e39.kids)).bind fun t18 =>
        some (if t18 > z9 then t18 else z9)) = some v := fun s => by
      obtain ⟨v, h1, _⟩ := forS_inv (σ := Int) (fun _ _ => True) hx.1 (s := s) (f := fun i_z9 z9 =>
        (idx x.kids i_z9).bind fun e39 =>
        (expr_Most_D fuel (Ex.mk e39.kind e39.n e39.kids)).bind fun t18 =>
        some (if t18 > z9 then t18 else z9)) trivial (fun k z hk _ => by
          have hm : x.kids[k] ∈ x.kids := List.getElem_mem hk
          obtain ⟨v, hv⟩ := ih _ (hx.2.2 _ hm) fuel (by omega)
          simp only [idx_lt hk, Option.bind_some, Ex.eta]
          rw [hv]
          exact ⟨_, rfl, trivial⟩)
      exact ⟨v, h1⟩
    cases x.kind == (2 : Int) with
    | true =>
      simp only [cond_true, Option.bind_some]
      obtain ⟨v, hv⟩ := loop (if x.n > (0 : Int) then x.n else (0 : Int))
      rw [hv]
      exact ⟨v, rfl⟩
    | false =>
      simp only [cond_false, Option.bind_some]
      cases x.kind == (3 : Int) with
      | true =>
        simp only [cond_true, Option.bind_some]
        obtain ⟨v, hv⟩ := loop (if x.n > (0 : Int) then x.n else (0 : Int))
        rw [hv]
        exact ⟨v, rfl⟩
      | false =>
        simp only [cond_false, Option.bind_some]
        obtain ⟨v, hv⟩ := loop 0
        rw [hv]
        exact ⟨v, rfl⟩

/-! ## any one is shown somehow -/
theorem kid_any {k n : Int} {l : List Ex} (i : Nat) : ∃ y, expr_kid_D (Ex.mk k n l) (i : Int) = some (y.kind, y.n, y.kids) ∧ (y = Ex.mk 0 0 [] ∧ l.length ≤ i ∨ ∃ h : i < l.length, y = l[i]) := by
  unfold expr_kid_D
  dsimp +instances only [Ex.kids_mk]
  by_cases h : i < l.length
  · rw [decide_eq_false (show ¬ ((i : Nat) : Int) ≥ ((l.length : Nat) : Int) by omega), idx_lt h]
    exact ⟨l[i], rfl, .inr ⟨h, rfl⟩⟩
  · rw [decide_eq_true (show ((i : Nat) : Int) ≥ ((l.length : Nat) : Int) by omega)]
    exact ⟨Ex.mk 0 0 [], rfl, .inl ⟨rfl, by omega⟩⟩
theorem sum_mem {a : Nat} {l : List Nat} (h : a ∈ l) : a ≤ l.sum := by
  induction l with
  | nil => cases h
  | cons b l ih =>
    rw [List.sum_cons]
    rcases List.mem_cons.1 h with rfl | h
    · omega
    · have := ih h; omega
theorem show_any : ∀ (D : Nat) (x : Ex), okE D x → cnt D x ≤ 100000 → ∀ fuel, D < fuel → ∃ B, expr_Show_D fuel x = some B ∧ B.size ≤ 40 * cnt D x := by
  intro D
  induction D with
  | zero => intro x h; exact h.elim
  | succ D ih =>
    intro x hx hc fuel hf
    obtain ⟨fuel, rfl⟩ : ∃ k, fuel = k + 1 := ⟨fuel - 1, by omega⟩
    obtain ⟨k, n, l⟩ := x
    obtain ⟨_, ⟨n1, n2⟩, hk⟩ := hx
    have n1 : -9223372036854775808 ≤ n := n1
    have n2 : n ≤ 9223372036854775807 := n2
    have hk : ∀ y ∈ l, okE D y := hk
    have ec : cnt (D + 1) (Ex.mk k n l) = 1 + (l.map (cnt D)).sum := rfl
    obtain ⟨C, hC, hCs⟩ := itoa_any n1 n2
    have e36 : ByteArray.size { data := #[36] } = 1 := rfl
    have e64 : ByteArray.size { data := #[64] } = 1 := rfl
    have e2 : ByteArray.size { data := #[40, 45] } = 2 := rfl
    have e40 : ByteArray.size { data := #[40] } = 1 := rfl
    have e41 : ByteArray.size { data := #[41] } = 1 := rfl
    have e32 : ByteArray.size { data := #[32] } = 1 := rfl
    have hz : expr_Show_D fuel (Ex.mk 0 0 []) = some { data := #[] } := by
      obtain ⟨f, rfl⟩ : ∃ f, fuel = f + 1 := ⟨fuel - 1, by omega⟩
      rfl
    rw [ec] at hc
    -- a kid's text, and what it costs
    have kid : ∀ i : Nat, ∃ y B, expr_kid_D (Ex.mk k n l) (i : Int) = some (y.kind, y.n, y.kids) ∧ expr_Show_D fuel y = some B ∧ B.size ≤ 40 * (l.map (cnt D)).getD i 0 := fun i => by
      obtain ⟨y, h1, h2⟩ := kid_any (k := k) (n := n) (l := l) i
      rcases h2 with ⟨rfl, _⟩ | ⟨hi, rfl⟩
      · exact ⟨_, _, h1, hz, by show 0 ≤ _; omega⟩
      · have hm : l[i] ∈ l := List.getElem_mem hi
        have hle : cnt D l[i] ≤ (l.map (cnt D)).sum := sum_mem (List.mem_map_of_mem hm)
        obtain ⟨B, b1, b2⟩ := ih l[i] (hk _ hm) (by omega) fuel (by omega)
        refine ⟨_, B, h1, b1, ?_⟩
        have : (l.map (cnt D)).getD i 0 = cnt D l[i] := by simp [List.getD, hi]
        rw [this]
        exact b2
    have two : (l.map (cnt D)).getD 0 0 + (l.map (cnt D)).getD 1 0 ≤ (l.map (cnt D)).sum := by
      cases l.map (cnt D) with
      | nil => simp
      | cons a r =>
        cases r with
        | nil => simp
        | cons b r => simp
    show ∃ B, expr_Show_B (expr_Show_D fuel) (Ex.mk k n l) = some B ∧ _
    rw [ec]
    unfold expr_Show_B
    dsimp +instances only [Ex.kind_mk, Ex.n_mk, Ex.kids_mk]
    rw [hC]
    simp only [Option.bind_some]
    obtain ⟨y0, B0, k1, k2, k3⟩ := kid 0
    obtain ⟨y1, B1, j1, j2, j3⟩ := kid 1
    have k1 : expr_kid_D (Ex.mk k n l) (0 : Int) = some (y0.kind, y0.n, y0.kids) := k1
    have j1 : expr_kid_D (Ex.mk k n l) (1 : Int) = some (y1.kind, y1.n, y1.kids) := j1
    rw [k1, j1]
    simp only [Option.bind_some, Ex.eta]
    rw [k2, j2]
    simp only [Option.bind_some]
    generalize (l.map (cnt D)).getD 0 0 = c0 at *
    generalize (l.map (cnt D)).getD 1 0 = c1 at *
    generalize (l.map (cnt D)).sum = cs at *
    cases k == (1 : Int) with
    | true => exact ⟨C, rfl, by omega⟩
    | false =>
      simp only [cond_false]
      cases k == (2 : Int) with
      | true =>
        simp only [cond_true]
        rw [need_ok' (by rw [hmax, e36]; omega)]
        exact ⟨_, rfl, by rw [ByteArray.size_append, e36]; omega⟩
      | false =>
        simp only [cond_false]
        cases k == (3 : Int) with
        | true =>
          simp only [cond_true]
          rw [need_ok' (by rw [hmax, e64]; omega)]
          exact ⟨_, rfl, by rw [ByteArray.size_append, e64]; omega⟩
        | false =>
          simp only [cond_false]
          cases k == (4 : Int) with
          | true =>
            simp only [cond_true]
            rw [need_ok' (by rw [hmax, e2]; omega), need_ok' (by rw [hmax, ByteArray.size_append, e2, e41]; omega)]
            exact ⟨_, rfl, by rw [ByteArray.size_append, ByteArray.size_append, e2, e41]; omega⟩
          | false =>
            simp only [cond_false]
            by_cases hk5 : 5 ≤ k ∧ k ≤ 9
            · obtain ⟨j, rfl⟩ : ∃ j : Nat, k = (j : Int) := ⟨k.toNat, by omega⟩
              have hz : ((cond ((j : Int) == (5 : Int))
                    (some ((j : Int) == (5 : Int)))
                    ((cond ((j : Int) == (6 : Int))
                      (some ((j : Int) == (6 : Int)))
                      ((cond ((j : Int) == (7 : Int))
                        (some ((j : Int) == (7 : Int)))
                        ((cond ((j : Int) == (8 : Int))
                          (some ((j : Int) == (8 : Int)))
                          (some ((j : Int) == (9 : Int)))).bind fun z17 =>
                          some z17)).bind fun z16 =>
                        some z16)).bind fun z15 =>
                      some z15)) : Option Bool) = some true := by
                have : j = 5 ∨ j = 6 ∨ j = 7 ∨ j = 8 ∨ j = 9 := by omega
                rcases this with rfl | rfl | rfl | rfl | rfl <;> rfl
              rw [hz]
              simp only [Option.bind_some, cond_true]
              obtain ⟨g1, g2, g3, g4⟩ := sign_text j (by omega) (by omega)
              rw [need_ok' g1, g2]
              generalize ByteArray.extract { data := #[43, 45, 42, 47, 37] } (Int.toNat (IntKind.wrap .i64 ((j : Int) - (5 : Int)))) (Int.toNat (IntKind.wrap .i64 ((j : Int) - (4 : Int)))) = E at g3 g4
              rw [need_ok' (by simp only [hmax, e40]; omega), need_ok' (by simp only [hmax, ByteArray.size_append, e40, e32]; omega), need_ok' (by simp only [hmax, ByteArray.size_append, e40, e32, g4]; omega),
                need_ok' (by simp only [hmax, ByteArray.size_append, e40, e32, g4]; omega), need_ok' (by simp only [hmax, ByteArray.size_append, e40, e32, g4]; omega), need_ok' (by simp only [hmax, ByteArray.size_append, e40, e32, e41, g4]; omega)]
              exact ⟨_, rfl, by simp only [ByteArray.size_append, e40, e32, e41, g4]; omega⟩
            · have hz : ((cond (k == (5 : Int))
                    (some (k == (5 : Int)))
                    ((cond (k == (6 : Int))
                      (some (k == (6 : Int)))
                      ((cond (k == (7 : Int))
                        (some (k == (7 : Int)))
                        ((cond (k == (8 : Int))
                          (some (k == (8 : Int)))
                          (some (k == (9 : Int)))).bind fun z17 =>
                          some z17)).bind fun z16 =>
                        some z16)).bind fun z15 =>
                      some z15)) : Option Bool) = some false := by
                have f : ∀ c : Int, 5 ≤ c ∧ c ≤ 9 → (k == c) = false := fun c hc => by
                  have : k ≠ c := fun h => hk5 (by rw [h]; exact hc)
                  simpa using this
                rw [f 5 (by decide), f 6 (by decide), f 7 (by decide), f 8 (by decide), f 9 (by decide)]
                rfl
              rw [hz]
              exact ⟨_, rfl, by show 0 ≤ _; omega⟩

/-! ## the laws -/
theorem rshow_zero : tronageref20_Show_D 300 (Ex.mk 0 0 []) = some { data := #[] } := rfl
theorem tells_law (x : Ex) (hx : ∃ n, okE n x) : tronagelaw20_ExprTells_D 300 x = some true := by
  unfold tronagelaw20_ExprTells_D
  rw [awake_ok]
  simp only [Option.bind_some, Ex.eta]
  obtain ⟨v, f1, f2, f3⟩ := few_ok 30 300 x 60 (by decide) (by decide) (by decide) hx
  have f1 : tronageref20_Few_D 300 x (60 : Int) (30 : Int) = some v := f1
  rw [f1, Option.bind_some]
  cases hv : decide (v < 0) with
  | true => rfl
  | false =>
    have hv := of_decide_eq_false hv
    obtain ⟨hok, hc⟩ := f3 (by omega)
    have hc : cnt 30 x ≤ 60 := by omega
    obtain ⟨b, r1, r2, r3⟩ := right_both hok (fuel := 300) (by decide)
    obtain ⟨sz, s1⟩ := size_some 30 x hok 300 (by decide)
    obtain ⟨mo, m1⟩ := most_some 30 x hok 300 (by decide)
    obtain ⟨B, b1, _⟩ := show_any 30 x hok (by omega) 300 (by decide)
    have s2 : tronageref20_Size_D 300 x = some sz := by rw [← size_same]; exact s1
    have m2 : tronageref20_Most_D 300 x = some mo := by rw [← most_same]; exact m1
    rw [r1, r2, b1, s1, s2, m1, m2]
    simp only [cond_false, cond_true, Option.bind_some, beq_self_eq_true]
    cases b with
    | false => rfl
    | true =>
      have hsh : tronageref20_Show_D 300 x = some B := by
        rcases r3 rfl with rfl | ⟨t, ht⟩
        · rw [rshow_zero, ← b1, show_zero]
        · obtain ⟨C, c1, c2, _⟩ := show_ok ht (by omega) 300 (by omega)
          rw [b1] at c1
          cases c1
          exact c2
      rw [hsh]
      simp only [Bool.not_true, cond_false, Option.bind_some, beq_self_eq_true]
theorem back_law (x : Ex) (hx : ∃ n, okE n x) : tronagelaw20_ExprBack_D 300 x = some true := by
  unfold tronagelaw20_ExprBack_D
  rw [awake_ok]
  simp only [Option.bind_some, Ex.eta]
  obtain ⟨v, f1, f2, f3⟩ := few_ok 30 300 x 60 (by decide) (by decide) (by decide) hx
  have f1 : tronageref20_Few_D 300 x (60 : Int) (30 : Int) = some v := f1
  rw [f1, Option.bind_some]
  cases hv : decide (v < 0) with
  | true => rfl
  | false =>
    have hv := of_decide_eq_false hv
    obtain ⟨hok, hc⟩ := f3 (by omega)
    have hc : cnt 30 x ≤ 60 := by omega
    obtain ⟨b, r1, r2, r3⟩ := right_both hok (fuel := 300) (by decide)
    have hdle : dle 300 x := dle_le (by decide) (okE_dle 30 x hok)
    rw [r1]
    simp only [cond_false, cond_true, Option.bind_some]
    cases b with
    | false => rfl
    | true =>
      simp only [Bool.not_true, cond_false, read_ok]
      rcases r3 rfl with rfl | ⟨t, ht⟩
      · rw [show_zero]
        simp only [Option.bind_some]
        rw [readA_nil]
        dsimp only
        rw [same_zero]
        rfl
      · obtain ⟨B, c1, _, c3⟩ := show_ok ht (by omega) 300 (by omega)
        rw [c1]
        simp only [Option.bind_some]
        rcases readA_back ht c3 with ⟨hs, hh⟩ | ⟨hs, hh⟩ | ⟨hs, hh⟩
        · rw [decide_eq_true (show (((ByteArray.size B : Nat) : Int) > (200 : Int)) by omega), hh]; rfl
        · rw [decide_eq_false (show ¬ (((ByteArray.size B : Nat) : Int) > (200 : Int)) by omega), hh]; rfl
        · rw [decide_eq_false (show ¬ (((ByteArray.size B : Nat) : Int) > (200 : Int)) by omega), hh]
          dsimp only
          rw [Ex.eta, same_self 300 x hdle]
          rfl
end Go.Proofs.YtkhfdckieocciaaDoor
