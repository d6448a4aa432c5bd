/-
  EXPR, PLAIN PART 13: ExprAgain's law.
  Conditions: none.
-/
import Derived.Test.YtkhfdckieocciaaDoorE12
namespace Go.Proofs.YtkhfdckieocciaaDoor
open Go Go.Eng
set_option linter.unusedVariables false
set_option linter.unusedSectionVars false
set_option maxRecDepth 100000

/-- What is wrong is this or that. -/
def Codes (part : List Nat → Rd Ex) : Prop := ∀ l e l', part l = .bad e l' → e = 13 ∨ e = 30
theorem num_codes {l l' : List Nat} {e : Nat} (h : num l = .bad e l') : e = 30 := by
  have key : ∀ (l : List Nat) (m n : Nat) e l', numRaw m n l = .bad e l' → e = 30 := by
    intro l
    induction l with
    | nil => intro m n e l' h; unfold numRaw at h; cases h
    | cons c l ih =>
      intro m n e l' h
      unfold numRaw at h
      cases hc : isDg c with
      | true =>
        rw [hc, cond_true] at h
        cases h18 : m == 18 with
        | true => rw [h18] at h; cases h; rfl
        | false => rw [h18] at h; exact ih _ _ _ _ h
      | false => rw [hc] at h; cases h
  unfold num at h
  cases hr : numRaw 0 0 l with
  | bad c r => rw [hr] at h; cases h; exact key _ _ _ _ _ hr
  | ok x r =>
    rw [hr] at h
    dsimp only at h
    cases hx : x.1 == 0 with
    | true => rw [hx] at h; cases h; rfl
    | false => rw [hx] at h; cases h
theorem leaf_codes {k : Int} {l l' : List Nat} {e : Nat} (h : leaf k (num l) = .bad e l') : e = 30 := by
  cases hn : num l with
  | ok n r => rw [hn] at h; cases h
  | bad c r => rw [hn] at h; cases h; exact num_codes hn
theorem more_codes {part : List Nat → Rd Ex} (H : Codes part) (a b : Nat) : ∀ (n : Nat) (x : Ex) (l : List Nat) e l', more part a b n x l = .bad e l' → e = 13 ∨ e = 30 := by
  intro n
  induction n with
  | zero => intro x l e l' h; unfold more at h; cases h
  | succ n ih =>
    intro x l e l' h
    unfold more at h
    cases hk : skip l with
    | nil => rw [hk] at h; cases h
    | cons c r =>
      rw [hk] at h
      dsimp only at h
      cases hin : inR a b (kindOf c) with
      | false => rw [hin] at h; cases h
      | true =>
        rw [hin, cond_true] at h
        cases hp : part r with
        | bad e' r' => rw [hp] at h; cases h; exact H _ _ _ hp
        | ok z r' => rw [hp] at h; exact ih _ _ _ _ h
theorem chain_codes {part : List Nat → Rd Ex} (H : Codes part) (a b : Nat) : Codes (chain part a b) := by
  intro l e l' h
  unfold chain at h
  cases hp : part l with
  | bad e' r => rw [hp] at h; cases h; exact H _ _ _ hp
  | ok z r => rw [hp] at h; exact more_codes H a b _ _ _ _ _ h
theorem factor_codes : ∀ (n d : Nat), d ≤ 20 → 21 ≤ n + d → Codes (factor n d) := by
  intro n
  induction n with
  | zero => intro d h1 h2; omega
  | succ n ih =>
    intro d hd hn l e l' h
    unfold factor at h
    cases hk : skip l with
    | nil => rw [hk] at h; cases h; exact .inr rfl
    | cons c r =>
      rw [hk] at h
      dsimp only at h
      cases hb : begins c && Nat.ble 20 d with
      | true => rw [hb] at h; cases h; exact .inl rfl
      | false =>
        rw [hb, cond_false] at h
        have hlt : begins c = true → d < 20 := fun hbc => by
          rw [hbc, Bool.true_and] at hb
          have : ¬ 20 ≤ d := fun g => by rw [Nat.ble_eq_true_of_le g] at hb; cases hb
          omega
        cases c45 : c == 45 with
        | true =>
          have hl := hlt (by unfold begins; rw [c45]; rfl)
          rw [c45, cond_true] at h
          cases hq : factor n (d + 1) r with
          | bad e' r' => rw [hq] at h; cases h; exact ih (d + 1) (by omega) (by omega) _ _ _ hq
          | ok z r' => rw [hq] at h; cases h
        | false =>
          rw [c45, cond_false] at h
          cases c40 : c == 40 with
          | true =>
            have hl := hlt (by unfold begins; rw [c45, c40]; rfl)
            rw [c40, cond_true] at h
            cases hq : sum (factor n (d + 1)) r with
            | bad e' r' => rw [hq] at h; cases h; exact chain_codes (chain_codes (ih (d + 1) (by omega) (by omega)) 7 9) 5 6 _ _ _ hq
            | ok z r' =>
              rw [hq] at h
              dsimp only at h
              cases hk' : skip r' with
              | nil => rw [hk'] at h; cases h; exact .inr rfl
              | cons c' r2 =>
                rw [hk'] at h
                dsimp only at h
                cases c41 : c' == 41 with
                | false => rw [c41] at h; cases h; exact .inr rfl
                | true => rw [c41] at h; cases h
          | false =>
            rw [c40, cond_false] at h
            cases c36 : c == 36 with
            | true => rw [c36, cond_true] at h; exact .inr (leaf_codes h)
            | false =>
              rw [c36, cond_false] at h
              cases c64 : c == 64 with
              | true => rw [c64, cond_true] at h; exact .inr (leaf_codes h)
              | false => rw [c64, cond_false] at h; exact .inr (leaf_codes h)
theorem read_codes {l : List Nat} {e : Nat} {l' : List Nat} (h : read l = .bad e l') : e = 13 ∨ e = 30 := by
  unfold read at h
  cases hk : skip l with
  | nil => rw [hk] at h; cases h
  | cons c r =>
    rw [hk] at h
    dsimp only at h
    cases hq : sum (factor 300 0) (c :: r) with
    | bad e' r' => rw [hq] at h; cases h; exact chain_codes (chain_codes (factor_codes 300 0 (by decide) (by decide)) 7 9) 5 6 _ _ _ hq
    | ok z r' =>
      rw [hq] at h
      dsimp only at h
      cases hk' : skip r' with
      | nil => rw [hk'] at h; cases h
      | cons c' r2 => rw [hk'] at h; cases h; exact .inr rfl
theorem ps_le (s : ByteArray) (l : List Nat) : ps s l ≤ ((s.size : Nat) : Int) := by unfold ps; omega
theorem show_zero : expr_Show_D 300 (Ex.mk 0 0 []) = some { data := #[] } := rfl
theorem right_zero : expr_Right_D 300 (Ex.mk 0 0 []) = some true := rfl
theorem same_zero : tronageref20_Same_D 300 (Ex.mk 0 0 []) (Ex.mk 0 0 []) = some true := same_self 300 _ dle_mk0
theorem readA_nil : readA { data := #[] } = (0, 0, [], 0, 0) := rfl
/-- What comes of reading what is shown: too long, too deep, or it. -/
theorem readA_back {m : Nat} {x : Ex} {t : List Nat} (h : Tx m x t) {B : ByteArray} (hB : bs B = t) :
    (B.size > 200 ∧ (readA B).2.2.2.1 = 12) ∨ (¬ B.size > 200 ∧ (readA B).2.2.2.1 = 13) ∨ (¬ B.size > 200 ∧ readA B = (x.kind, x.n, x.kids, 0, 0)) := by
  unfold readA
  cases hsz : decide (B.size > 200) with
  | true => exact .inl ⟨by simpa using hsz, rfl⟩
  | false =>
    have hs : ¬ B.size > 200 := by simpa using hsz
    rw [cond_false, hB]
    rcases read_back h with hh | ⟨l, hh⟩
    · rw [hh]; exact .inr (.inr ⟨hs, rfl⟩)
    · rw [hh]; exact .inr (.inl ⟨hs, rfl⟩)
theorem again_law (s : ByteArray) : tronagelaw20_ExprAgain_D 300 s = some true := by
  unfold tronagelaw20_ExprAgain_D
  rw [awake_ok]
  simp only [Option.bind_some]
  cases h1 : decide (((ByteArray.size s : Nat) : Int) > (300 : Int)) with
  | true => rfl
  | false =>
    simp only [cond_false, cond_true, read_ok, Option.bind_some]
    have hdle := readA_dle s
    cases hsz : decide (s.size > 200) with
    | true =>
      have e : readA s = (0, 0, [], 12, 0) := by unfold readA; rw [hsz]; rfl
      have h : s.size > 200 := by simpa using hsz
      rw [e]
      dsimp only
      rw [same_zero, decide_eq_true (show (((ByteArray.size s : Nat) : Int) > (200 : Int)) by omega), decide_eq_true (show (0 : Int) ≤ ((ByteArray.size s : Nat) : Int) by omega)]
      rfl
    | false =>
      have h : ¬ s.size > 200 := by simpa using hsz
      have e : readA s = outR s (read (bs s)) := by unfold readA; rw [hsz]; rfl
      rw [e] at hdle ⊢
      cases hr : read (bs s) with
      | bad c l =>
        have hc := read_codes hr
        unfold outR
        dsimp only
        rw [same_zero, decide_eq_true (show ps s l ≥ 0 from ps_nn s l), decide_eq_true (ps_le s l)]
        rcases hc with rfl | rfl <;> rfl
      | ok x l =>
        rw [hr] at hdle
        have hdle : dle 300 x := by
          have : dle 300 (Ex.mk x.kind x.n x.kids) := hdle
          rwa [Ex.eta] at this
        obtain ⟨rfl, hx⟩ := read_makes hr
        unfold outR
        dsimp only
        rw [Ex.eta]
        rcases hx with rfl | ⟨t, ht⟩
        · rw [show_zero]
          simp only [Option.bind_some]
          rw [readA_nil, right_zero]
          dsimp only
          rw [same_zero]
          rfl
        · rw [bs_length] at ht
          obtain ⟨B, b1, _, b3⟩ := show_ok ht (by omega) 300 (by omega)
          rw [b1]
          simp only [Option.bind_some]
          rw [(right_ok ht (n := 300) (by omega)).1]
          rcases readA_back ht b3 with ⟨_, hh⟩ | ⟨_, hh⟩ | ⟨_, hh⟩
          · rw [hh]; rfl
          · rw [hh]; rfl
          · rw [hh]
            dsimp only
            rw [Ex.eta, same_self 300 x hdle]
            rfl
end Go.Proofs.YtkhfdckieocciaaDoor
