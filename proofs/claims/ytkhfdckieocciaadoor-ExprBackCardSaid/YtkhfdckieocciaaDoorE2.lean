/-
  EXPR, PLAIN PART 2: the parser; the program's reading is its.
  Conditions: none.
-/
import Derived.Test.YtkhfdckieocciaaDoorE1
namespace Go.Proofs.YtkhfdckieocciaaDoor
open Go Go.Eng
set_option linter.unusedVariables false
set_option linter.unusedSectionVars false

def kindOf (c : Nat) : Nat := bif c == 43 then 5 else bif c == 45 then 6 else bif c == 42 then 7 else bif c == 47 then 8 else bif c == 37 then 9 else 0
def inR (a b k : Nat) : Bool := Nat.ble a k && Nat.ble k b
def more (part : List Nat → Rd Ex) (a b : Nat) : Nat → Ex → List Nat → Rd Ex
  | 0, x, l => .ok x l
  | n + 1, x, l => match skip l with
    | [] => .ok x []
    | c :: r => bif inR a b (kindOf c) then (match part r with
      | .ok y l' => more part a b n (Ex.mk (kindOf c : Nat) 0 [x, y]) l'
      | .bad e l' => .bad e l') else .ok x (c :: r)
def chain (part : List Nat → Rd Ex) (a b : Nat) (l : List Nat) : Rd Ex := match part l with
  | .ok x l' => more part a b (l'.length + 1) x l'
  | .bad e l' => .bad e l'
def product (part : List Nat → Rd Ex) : List Nat → Rd Ex := chain part 7 9
def sum (part : List Nat → Rd Ex) : List Nat → Rd Ex := chain (product part) 5 6
def leaf (k : Int) : Rd Nat → Rd Ex
  | .ok n l => .ok (Ex.mk k n []) l
  | .bad e l => .bad e l
def factor : Nat → Nat → List Nat → Rd Ex
  | 0, _, l => .bad 0 l
  | n + 1, d, l => match skip l with
    | [] => .bad 30 []
    | c :: r => bif begins c && Nat.ble 20 d then .bad 13 (c :: r) else
      bif c == 45 then (match factor n (d + 1) r with
        | .ok x l' => .ok (Ex.mk 4 0 [x]) l'
        | .bad e l' => .bad e l')
      else bif c == 40 then (match sum (factor n (d + 1)) r with
        | .ok x l' => (match skip l' with
          | [] => .bad 30 []
          | c' :: r' => bif c' == 41 then .ok x r' else .bad 30 (c' :: r'))
        | .bad e l' => .bad e l')
      else bif c == 36 then leaf 2 (num r)
      else bif c == 64 then leaf 3 (num r)
      else leaf 1 (num (c :: r))
def read (l : List Nat) : Rd Ex := match skip l with
  | [] => .ok (Ex.mk 0 0 []) []
  | c :: r => match sum (factor 300 0) (c :: r) with
    | .ok x l' => (match skip l' with
      | [] => .ok x []
      | c' :: r' => .bad 30 (c' :: r'))
    | .bad e l' => .bad e l'

def rest {α : Type} : Rd α → List Nat
  | .ok _ l => l
  | .bad _ l => l
def enc (s : ByteArray) (d : Int) : Rd Ex → Step (Int × Int × List Ex × (ByteArray × Int × Int)) (Int × Int)
  | .ok x l => .next (x.kind, x.n, x.kids, (s, ps s l, d))
  | .bad c l => .done ((c : Int), ps s l)
abbrev PSt := ByteArray × Int × Int
/-- A reader's part, at a depth, is the parser's. -/
def Impl (s : ByteArray) (d : Int) (rec : PSt → Option (Step (Int × Int × List Ex × PSt) (Int × Int))) (part : List Nat → Rd Ex) : Prop :=
  ∀ l, l <:+ bs s → rec (s, ps s l, d) = some (enc s d (part l)) ∧ rest (part l) <:+ l
theorem num_rest (l : List Nat) : rest (num l) <:+ l := by
  have h := numRaw_suf l 0 0
  unfold num
  cases hr : numRaw 0 0 l with
  | bad c l' => rw [hr] at h; exact h
  | ok x l' =>
    rw [hr] at h
    dsimp only
    cases x.1 == 0 <;> exact h
theorem leaf_rest (k : Int) (r : Rd Nat) : rest (leaf k r) = rest r := by cases r <;> rfl

section
variable {s : ByteArray} {d : Int} (hm : s.size ≤ 1073741824)
include hm
theorem sign_ok (l : List Nat) : expr_sign_D (hd0 l) = some ((match l with | [] => 0 | c :: _ => kindOf c : Nat) : Int) := by
  cases l with
  | nil => rfl
  | cons c l =>
    unfold expr_sign_D hd0 kindOf
    have e := eqN c
    have h43 := e 43; have h45 := e 45; have h42 := e 42; have h47 := e 47; have h37 := e 37
    simp only [show ((43 : Nat) : Int) = 43 from rfl, show ((45 : Nat) : Int) = 45 from rfl, show ((42 : Nat) : Int) = 42 from rfl, show ((47 : Nat) : Int) = 47 from rfl, show ((37 : Nat) : Int) = 37 from rfl] at h43 h45 h42 h47 h37
    dsimp only
    rw [h43, h45, h42, h47, h37]
    cases c == 43 <;> cases c == 45 <;> cases c == 42 <;> cases c == 47 <;> cases c == 37 <;> rfl
theorem chain_ok {rec : PSt → Option (Step (Int × Int × List Ex × PSt) (Int × Int))} {part : List Nat → Rd Ex} (H : Impl s d rec part) (a b : Nat) (ha : 1 ≤ a) :
    Impl s d (fun r => expr_reader_chain_46_D rec r (a : Int) (b : Int)) (chain part a b) := by
  have hout : ∀ k : Nat, (cond (decide (((k : Nat) : Int) < (a : Int))) (some true) (some (decide (((k : Nat) : Int) > (b : Int))))) = some (!inR a b k) := by
    intro k
    unfold inR
    cases h1 : Nat.ble a k with
    | true =>
      have h1' := Nat.le_of_ble_eq_true h1
      rw [decide_eq_false (by omega)]
      cases h2 : Nat.ble k b with
      | true =>
        have h2' := Nat.le_of_ble_eq_true h2
        rw [decide_eq_false (by omega)]; rfl
      | false =>
        have h2' : ¬ k ≤ b := fun h => by rw [Nat.ble_eq_true_of_le h] at h2; cases h2
        rw [decide_eq_true (by omega)]; rfl
    | false =>
      have h1' : ¬ a ≤ k := fun h => by rw [Nat.ble_eq_true_of_le h] at h1; cases h1
      rw [decide_eq_true (by omega)]; rfl
  have hsuf : ∀ (n : Nat) (x : Ex) (l : List Nat), l <:+ bs s → rest (more part a b n x l) <:+ l := by
    intro n
    induction n with
    | zero => intro x l _; exact List.suffix_refl _
    | succ n ih =>
      intro x l hl
      unfold more
      have hs := skip_suf l
      cases hk : skip l with
      | nil => exact List.nil_suffix
      | cons c r =>
        rw [hk] at hs
        dsimp only
        cases inR a b (kindOf c) with
        | false => exact hs
        | true =>
          have hr : r <:+ l := (List.suffix_cons _ _).trans hs
          have hp := (H r (hr.trans hl)).2
          dsimp only [cond_true]
          cases hq : part r with
          | bad e l' => rw [hq] at hp; exact hp.trans hr
          | ok y l' =>
            rw [hq] at hp
            have hp : l' <:+ r := hp
            exact (ih _ l' (hp.trans (hr.trans hl))).trans (hp.trans hr)
  intro l hl
  obtain ⟨h1, h2⟩ := H l hl
  unfold expr_reader_chain_46_D chain
  dsimp only
  rw [h1]
  cases hp : part l with
  | bad e l' => rw [hp] at h2; exact ⟨rfl, h2⟩
  | ok x l' =>
    rw [hp] at h2
    have h2 : l' <:+ l := h2
    refine ⟨?_, (hsuf _ _ l' (h2.trans hl)).trans h2⟩
    simp only [Option.bind_some, enc]
    refine (bind_some' (x := (match more part a b (l'.length + 1) x l' with | .ok y r => Sum.inl (y.kind, y.n, y.kids, (s, ps s r, d)) | .bad e r => Sum.inr ((e : Int), ps s r) : Sum (Int × Int × List Ex × PSt) (Int × Int))) ?_ _).trans ?_
    · have hl' := h2.trans hl
      clear h2 hp h1
      have key : ∀ (n : Nat) (x : Ex) (l' : List Nat), l' <:+ bs s → l'.length + 1 ≤ n → loop (σ := ((ByteArray × Int × Int) × (Int × Int × List Ex) × (Int × Int × List Ex))) (β := (Sum (Int × Int × List Ex × (ByteArray × Int × Int)) (Int × Int))) ((s, ps s l', d), ((0 : Int), (0 : Int), ([] : List Ex)), (x.kind, x.n, x.kids)) (fun z4 =>
          (expr_reader_now_D z4.1).bind fun t5 =>
          (expr_sign_D t5.1).bind fun t6 =>
          (cond (decide (t6 < (a : Int)))
          (some true)
          (some (decide (t6 > (b : Int))))).bind fun z7 =>
          cond z7
          (some (Step.done (.inl ((z4.2.2.1), (z4.2.2.2.1), z4.2.2.2.2, t5.2))))
          ((rec ((t5.2.1), (IntKind.wrap .i64 ((t5.2.2.1) + (1 : Int))), (t5.2.2.2))).bind fun e_t20 => match e_t20 with
            | .next t20 =>
              some (Step.next (t20.2.2.2, z4.2.1, (t6, (0 : Int), ([(Ex.mk (z4.2.2.1) (z4.2.2.2.1) z4.2.2.2.2), (Ex.mk t20.1 t20.2.1 t20.2.2.1)] : List Ex))))
            | .done p_t20 => some (Step.done (.inr p_t20)))) = some (match more part a b n x l' with | .ok y r => Sum.inl (y.kind, y.n, y.kids, (s, ps s r, d)) | .bad e r => Sum.inr ((e : Int), ps s r)) := by
        intro n
        induction n with
        | zero => intro x l' _ h; omega
        | succ n ih =>
          intro x l' hl' hn
          have hs := skip_suf l'
          unfold more
          cases hk : skip l' with
          | nil =>
            refine loop_done ?_
            dsimp only
            rw [now_ok hl' hm, Option.bind_some, hk, sign_ok hm, Option.bind_some, hout]
            have : inR a b 0 = false := by
              unfold inR
              have : Nat.ble a 0 = false := by
                cases h : Nat.ble a 0 with
                | false => rfl
                | true => have := Nat.le_of_ble_eq_true h; omega
              rw [this]; rfl
            dsimp only
            rw [this]
            rfl
          | cons c r =>
            rw [hk] at hs
            have hcr : (c :: r) <:+ bs s := hs.trans hl'
            obtain ⟨g1, g2, g3, g4, g5⟩ := ps_cons hcr hm
            have hlen := hs.length_le
            rw [List.length_cons] at hlen
            dsimp only
            cases hin : inR a b (kindOf c) with
            | false =>
              refine loop_done ?_
              dsimp only
              rw [now_ok hl' hm, Option.bind_some, hk, sign_ok hm, Option.bind_some, hout]
              dsimp only
              rw [hin]
              rfl
            | true =>
              obtain ⟨p1, p2⟩ := H r g4
              dsimp only [cond_true]
              cases hq : part r with
              | bad e l'' =>
                refine loop_done ?_
                dsimp only
                rw [now_ok hl' hm, Option.bind_some, hk, sign_ok hm, Option.bind_some, hout]
                dsimp only
                rw [hin]
                simp only [Option.bind_some, Bool.not_true, cond_false]
                rw [g3, p1, hq]
                rfl
              | ok y l'' =>
                rw [hq] at p1 p2
                have p2 : l'' <:+ r := p2
                have := p2.length_le
                refine (loop_step (s' := ((s, ps s l'', d), ((0 : Int), (0 : Int), ([] : List Ex)), ((kindOf c : Nat) : Int), (0 : Int), [x, y])) ?_).trans (ih (Ex.mk (kindOf c : Nat) 0 [x, y]) l'' (p2.trans g4) (by omega))
                dsimp only
                rw [now_ok hl' hm, Option.bind_some, hk, sign_ok hm, Option.bind_some, hout]
                dsimp only
                rw [hin]
                simp only [Option.bind_some, Bool.not_true, cond_false]
                rw [g3, p1]
                simp only [enc, Option.bind_some, Ex.eta]
      exact key _ x l' hl' (Nat.le_refl _)
    · cases more part a b (l'.length + 1) x l' <;> rfl
theorem product_ok {rec : PSt → Option (Step (Int × Int × List Ex × PSt) (Int × Int))} {part : List Nat → Rd Ex} (H : Impl s d rec part) : Impl s d (expr_reader_product_D rec) (product part) := by
  intro l hl
  obtain ⟨h1, h2⟩ := chain_ok hm H 7 9 (by decide) l hl
  refine ⟨?_, h2⟩
  unfold expr_reader_product_D
  have h1 : expr_reader_chain_46_D rec (s, ps s l, d) (7 : Int) (9 : Int) = some (enc s d (chain part 7 9 l)) := h1
  rw [h1]
  unfold product
  cases chain part 7 9 l <;> rfl
theorem sum_ok {rec : PSt → Option (Step (Int × Int × List Ex × PSt) (Int × Int))} {part : List Nat → Rd Ex} (H : Impl s d rec part) : Impl s d (expr_reader_sum_D rec) (sum part) := by
  intro l hl
  obtain ⟨h1, h2⟩ := chain_ok hm (product_ok hm H) 5 6 (by decide) l hl
  refine ⟨?_, h2⟩
  unfold expr_reader_sum_D
  have h1 : expr_reader_chain_38_D rec (s, ps s l, d) (5 : Int) (6 : Int) = some (enc s d (chain (product part) 5 6 l)) := h1
  rw [h1]
  unfold sum
  cases chain (product part) 5 6 l <;> rfl
end
end Go.Proofs.YtkhfdckieocciaaDoor
