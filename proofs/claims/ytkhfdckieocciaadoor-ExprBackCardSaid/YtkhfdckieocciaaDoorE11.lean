/-
  EXPR, PLAIN PART 11: the text of one that can be; what is read can be; what is shown reads back.
  Conditions: none.
-/
import Derived.Test.YtkhfdckieocciaaDoorE10
namespace Go.Proofs.YtkhfdckieocciaaDoor
open Go Go.Eng
set_option linter.unusedVariables false
set_option linter.unusedSectionVars false

def dec (n : Nat) : List Nat := (Lib.decDigits n).map UInt8.toNat
def sg (k : Nat) : Nat := bif k == 5 then 43 else bif k == 6 then 45 else bif k == 7 then 42 else bif k == 8 then 47 else 37
/-- One that can be, that is not nothing, of at most so many parts; its text. -/
inductive Tx : Nat → Ex → List Nat → Prop
  | num (m n : Nat) (hn : n < 10 ^ 18) : Tx (m + 1) (Ex.mk 1 n []) (dec n)
  | val (m n : Nat) (hn : n < 10 ^ 18) : Tx (m + 1) (Ex.mk 2 n []) (36 :: dec n)
  | node (m n : Nat) (hn : n < 10 ^ 18) : Tx (m + 1) (Ex.mk 3 n []) (64 :: dec n)
  | neg {m : Nat} {x : Ex} {t : List Nat} (h : Tx m x t) : Tx (m + 1) (Ex.mk 4 0 [x]) (40 :: 45 :: (t ++ [41]))
  | two {a b m : Nat} {x y : Ex} {t u : List Nat} (k : Nat) (h5 : 5 ≤ k) (h9 : k ≤ 9) (hx : Tx a x t) (hy : Tx b y u) (hm : a + b ≤ m) : Tx (m + 1) (Ex.mk (k : Nat) 0 [x, y]) (40 :: (t ++ 32 :: sg k :: 32 :: (u ++ [41])))
theorem Tx.up {m m' : Nat} {x : Ex} {t : List Nat} (h : Tx m x t) (hm : m ≤ m') : Tx m' x t := by
  induction h generalizing m' with
  | num m n hn => obtain ⟨q, rfl⟩ : ∃ q, m' = q + 1 := ⟨m' - 1, by omega⟩; exact .num q n hn
  | val m n hn => obtain ⟨q, rfl⟩ : ∃ q, m' = q + 1 := ⟨m' - 1, by omega⟩; exact .val q n hn
  | node m n hn => obtain ⟨q, rfl⟩ : ∃ q, m' = q + 1 := ⟨m' - 1, by omega⟩; exact .node q n hn
  | neg h ih => obtain ⟨q, rfl⟩ : ∃ q, m' = q + 1 := ⟨m' - 1, by omega⟩; exact .neg (ih (by omega))
  | two k h5 h9 hx hy hmm ihx ihy =>
    obtain ⟨q, rfl⟩ : ∃ q, m' = q + 1 := ⟨m' - 1, by omega⟩
    exact .two k h5 h9 hx hy (by omega)
theorem kindOf_le (c : Nat) : kindOf c ≤ 9 ∧ (kindOf c ≠ 0 → 5 ≤ kindOf c) := by
  unfold kindOf
  cases c == 43 <;> cases c == 45 <;> cases c == 42 <;> cases c == 47 <;> cases c == 37 <;> decide

/-! ## what is read can be -/
def Makes (part : List Nat → Rd Ex) : Prop := ∀ l x l', part l = .ok x l' → l'.length < l.length ∧ ∃ t, Tx (l.length - l'.length) x t
theorem num_lt {l l' : List Nat} {n : Nat} (h : num l = .ok n l') : n < 10 ^ 18 := by
  have key : ∀ (l : List Nat) (m n : Nat) x l', m ≤ 18 → n < 10 ^ m → numRaw m n l = .ok x l' → x.2 < 10 ^ 18 := by
    intro l
    induction l with
    | nil => intro m n x l' hm hn h; unfold numRaw at h; cases h; exact Nat.lt_of_lt_of_le hn (Nat.pow_le_pow_right (by decide) hm)
    | cons c l ih =>
      intro m n x l' hm hn h
      unfold numRaw at h
      cases hc : isDg c with
      | true =>
        rw [hc, cond_true] at h
        cases h18 : m == 18 with
        | true => rw [h18] at h; cases h
        | false =>
          rw [h18] at h
          have hne : m ≠ 18 := by simpa using h18
          have hb := dg_bound hc
          refine ih _ _ _ _ (by omega) ?_ h
          have : 10 ^ (m + 1) = 10 * 10 ^ m := by rw [Nat.pow_succ]; omega
          omega
      | false => rw [hc] at h; cases h; exact Nat.lt_of_lt_of_le hn (Nat.pow_le_pow_right (by decide) hm)
  unfold num at h
  cases hr : numRaw 0 0 l with
  | bad c r => rw [hr] at h; cases h
  | ok x r =>
    rw [hr] at h
    have := key _ _ _ _ _ (by decide) (by decide) hr
    dsimp only at h
    cases hx : x.1 == 0 with
    | true => rw [hx] at h; cases h
    | false => rw [hx] at h; cases h; exact this
theorem more_makes {part : List Nat → Rd Ex} (H : Makes part) (a b : Nat) (ha : 1 ≤ a) : ∀ (n : Nat) (x : Ex) (l : List Nat) (N : Nat) y l', (∃ t, Tx (N - l.length) x t) → l.length < N → more part a b n x l = .ok y l' → l'.length ≤ l.length ∧ ∃ t, Tx (N - l'.length) y t := by
  intro n
  induction n with
  | zero => intro x l N y l' hx hN h; unfold more at h; cases h; exact ⟨Nat.le_refl _, hx⟩
  | succ n ih =>
    intro x l N y l' hx hN h
    unfold more at h
    have hs := skip_len l
    cases hk : skip l with
    | nil => rw [hk] at h; cases h; exact ⟨Nat.zero_le _, hx.imp fun t ht => ht.up (by simp)⟩
    | cons c r =>
      rw [hk] at h hs
      rw [List.length_cons] at hs
      dsimp only at h
      cases hin : inR a b (kindOf c) with
      | false => rw [hin] at h; cases h; rw [List.length_cons]; exact ⟨hs, hx.imp fun t ht => ht.up (by omega)⟩
      | true =>
        rw [hin, cond_true] at h
        cases hp : part r with
        | bad e r' => rw [hp] at h; cases h
        | ok z r' =>
          rw [hp] at h
          obtain ⟨g1, u, g2⟩ := H _ _ _ hp
          obtain ⟨t, ht⟩ := hx
          obtain ⟨k9, k5⟩ := kindOf_le c
          unfold inR at hin
          rw [Bool.and_eq_true] at hin
          have k1 := Nat.le_of_ble_eq_true hin.1
          have hd : ∃ t, Tx (N - r'.length) (Ex.mk (kindOf c : Nat) 0 [x, z]) t :=
            ⟨_, Tx.up (Tx.two (kindOf c) (k5 (by omega)) k9 ht g2 (Nat.le_refl _)) (by omega)⟩
          obtain ⟨q1, q2⟩ := ih _ r' N y l' hd (by omega) h
          exact ⟨by omega, q2⟩
theorem chain_makes {part : List Nat → Rd Ex} (H : Makes part) (a b : Nat) (ha : 1 ≤ a) : Makes (chain part a b) := by
  intro l x l' h
  unfold chain at h
  cases hp : part l with
  | bad e r => rw [hp] at h; cases h
  | ok z r =>
    rw [hp] at h
    obtain ⟨g1, g2⟩ := H _ _ _ hp
    obtain ⟨q1, q2⟩ := more_makes H a b ha _ z r l.length x l' g2 g1 h
    exact ⟨by omega, q2⟩
theorem factor_makes : ∀ (n d : Nat), Makes (factor n d) := by
  intro n
  induction n with
  | zero => intro d l x l' h; unfold factor at h; cases h
  | succ n ih =>
    intro d l x l' h
    unfold factor at h
    have hs := skip_len l
    cases hk : skip l with
    | nil => rw [hk] at h; cases h
    | cons c r =>
      rw [hk] at h hs
      rw [List.length_cons] at hs
      dsimp only at h
      cases hb : begins c && Nat.ble 20 d with
      | true => rw [hb] at h; cases h
      | false =>
        rw [hb, cond_false] at h
        cases c45 : c == 45 with
        | true =>
          rw [c45, cond_true] at h
          cases hq : factor n (d + 1) r with
          | bad e r' => rw [hq] at h; cases h
          | ok z r' =>
            rw [hq] at h
            cases h
            obtain ⟨g1, t, g2⟩ := ih _ _ _ _ hq
            exact ⟨by omega, _, (Tx.neg g2).up (by omega)⟩
        | false =>
          rw [c45, cond_false] at h
          cases c40 : c == 40 with
          | true =>
            rw [c40, cond_true] at h
            cases hq : sum (factor n (d + 1)) r with
            | bad e r' => rw [hq] at h; cases h
            | ok z r' =>
              rw [hq] at h
              obtain ⟨g1, t, g2⟩ := chain_makes (chain_makes (ih (d + 1)) 7 9 (by decide)) 5 6 (by decide) _ _ _ hq
              have hs' := skip_len r'
              dsimp only at h
              cases hk' : skip r' with
              | nil => rw [hk'] at h; cases h
              | cons c' r2 =>
                rw [hk'] at h hs'
                rw [List.length_cons] at hs'
                dsimp only at h
                cases c41 : c' == 41 with
                | false => rw [c41] at h; cases h
                | true => rw [c41] at h; cases h; exact ⟨by omega, _, g2.up (by omega)⟩
          | false =>
            rw [c40, cond_false] at h
            cases c36 : c == 36 with
            | true =>
              rw [c36, cond_true] at h
              obtain ⟨m, h1, rfl⟩ := leaf_short h
              have := num_len h1
              exact ⟨by omega, _, (Tx.val 0 m (num_lt h1)).up (by omega)⟩
            | false =>
              rw [c36, cond_false] at h
              cases c64 : c == 64 with
              | true =>
                rw [c64, cond_true] at h
                obtain ⟨m, h1, rfl⟩ := leaf_short h
                have := num_len h1
                exact ⟨by omega, _, (Tx.node 0 m (num_lt h1)).up (by omega)⟩
              | false =>
                rw [c64, cond_false] at h
                obtain ⟨m, h1, rfl⟩ := leaf_short h
                have := num_len h1
                rw [List.length_cons] at this
                exact ⟨by omega, _, (Tx.num 0 m (num_lt h1)).up (by omega)⟩
theorem read_makes {l : List Nat} {x : Ex} {l' : List Nat} (h : read l = .ok x l') : l' = [] ∧ (x = Ex.mk 0 0 [] ∨ ∃ t, Tx l.length x t) := by
  unfold read at h
  have hs := skip_len l
  cases hk : skip l with
  | nil => rw [hk] at h; cases h; exact ⟨rfl, .inl rfl⟩
  | cons c r =>
    rw [hk] at h hs
    dsimp only at h
    cases hq : sum (factor 300 0) (c :: r) with
    | bad e r' => rw [hq] at h; cases h
    | ok z r' =>
      rw [hq] at h
      obtain ⟨g1, t, g2⟩ := chain_makes (chain_makes (factor_makes 300 0) 7 9 (by decide)) 5 6 (by decide) _ _ _ hq
      dsimp only at h
      cases hk' : skip r' with
      | nil => rw [hk'] at h; cases h; exact ⟨rfl, .inr ⟨t, g2.up (by omega)⟩⟩
      | cons c' r2 => rw [hk'] at h; cases h

/-! ## what is shown reads back -/
theorem dec_ind {P : Nat → Prop} (h0 : ∀ u, u < 10 → P u) (hs : ∀ u, ¬ u < 10 → P (u / 10) → P u) : ∀ u, P u := by
  intro u
  induction u using Nat.strongRecOn with
  | ind u ih =>
    by_cases h : u < 10
    · exact h0 u h
    · exact hs u h (ih _ (by omega))
theorem dec_small {u : Nat} (h : u < 10) : dec u = [48 + u] := by
  unfold dec
  rw [Lib.decDigits, dif_pos h]
  simp
  omega
theorem dec_big {u : Nat} (h : ¬ u < 10) : dec u = dec (u / 10) ++ [48 + u % 10] := by
  unfold dec
  rw [Lib.decDigits, dif_neg h]
  simp
  omega
theorem dec_dg (u : Nat) : (dec u).all isDg = true := by
  refine dec_ind (P := fun u => (dec u).all isDg = true) (fun u h => ?_) (fun u h ih => ?_) u
  · have : ∀ u, u < 10 → (dec u).all isDg = true := by
      intro u h
      rw [dec_small h]
      simp only [List.all_cons, List.all_nil, Bool.and_true]
      unfold isDg
      rw [Nat.ble_eq_true_of_le (by omega), Nat.ble_eq_true_of_le (by omega)]
      rfl
    exact this u h
  · rw [dec_big h, List.all_append, ih]
    simp only [List.all_cons, List.all_nil, Bool.and_true, Bool.true_and]
    unfold isDg
    rw [Nat.ble_eq_true_of_le (by omega), Nat.ble_eq_true_of_le (by omega)]
    rfl
theorem dec_ne (u : Nat) : dec u ≠ [] := by
  by_cases h : u < 10
  · rw [dec_small h]; exact List.cons_ne_nil _ _
  · rw [dec_big h]; simp
theorem dec_len {u k : Nat} (h : u < 10 ^ (k + 1)) : (dec u).length ≤ k + 1 := by
  induction k generalizing u with
  | zero => rw [dec_small (by simpa using h)]; simp
  | succ k ih =>
    by_cases hs : u < 10
    · rw [dec_small hs]; simp
    · rw [dec_big hs, List.length_append]
      have : 10 ^ (k + 2) = 10 * 10 ^ (k + 1) := by rw [Nat.pow_succ 10 (k + 1)]; omega
      have := ih (u := u / 10) (by omega)
      simp only [List.length_cons, List.length_nil]
      omega
/-- Nothing that goes on with a number. -/
def NoDg (w : List Nat) : Prop := ∀ c r, w = c :: r → isDg c = false
theorem numRaw_dec {w : List Nat} : ∀ (u : Nat) (m n : Nat) , m + (dec u).length ≤ 18 → numRaw m n (dec u ++ w) = numRaw (m + (dec u).length) (n * 10 ^ (dec u).length + u) w := by
  intro u
  refine dec_ind (P := fun u => ∀ (w : List Nat) (m n : Nat), m + (dec u).length ≤ 18 → numRaw m n (dec u ++ w) = numRaw (m + (dec u).length) (n * 10 ^ (dec u).length + u) w) (fun u h => ?_) (fun u h ih => ?_) u w
  · intro w m n hm
    rw [dec_small h] at hm ⊢
    simp only [List.length_cons, List.length_nil] at hm
    simp only [List.cons_append, List.nil_append, numRaw, List.length_cons, List.length_nil]
    have hd : isDg (48 + u) = true := by
      unfold isDg
      rw [Nat.ble_eq_true_of_le (by omega), Nat.ble_eq_true_of_le (by omega)]
      rfl
    have h18 : (m == 18) = false := by
      have : m ≠ 18 := by omega
      simpa using this
    rw [hd, h18]
    simp only [cond_true, cond_false]
    rw [show 10 * n + (48 + u - 48) = n * 10 ^ (0 + 1) + u by omega]
  · intro w m n hm
    have hl : (dec u).length = (dec (u / 10)).length + 1 := by rw [dec_big h, List.length_append]; rfl
    rw [hl] at hm ⊢
    rw [dec_big h, List.append_assoc, ih _ _ _ (by omega)]
    simp only [List.cons_append, List.nil_append, numRaw]
    have hd : isDg (48 + u % 10) = true := by
      unfold isDg
      rw [Nat.ble_eq_true_of_le (by omega), Nat.ble_eq_true_of_le (by omega)]
      rfl
    have h18 : (m + (dec (u / 10)).length == 18) = false := by
      have : m + (dec (u / 10)).length ≠ 18 := by omega
      simpa using this
    rw [hd, h18]
    simp only [cond_true, cond_false]
    have e : 10 * (n * 10 ^ (dec (u / 10)).length + u / 10) + (48 + u % 10 - 48) = n * 10 ^ ((dec (u / 10)).length + 1) + u := by
      rw [Nat.pow_succ, ← Nat.mul_assoc]
      omega
    rw [e]
    rfl
theorem num_dec {u : Nat} (hu : u < 10 ^ 18) {w : List Nat} (hw : NoDg w) : num (dec u ++ w) = .ok u w := by
  have hl := dec_len (k := 17) hu
  have hr : numRaw 0 0 (dec u ++ w) = .ok ((dec u).length, u) w := by
    rw [numRaw_dec u 0 0 (by omega), Nat.zero_mul, Nat.zero_add, Nat.zero_add]
    cases w with
    | nil => rfl
    | cons c r => rw [numRaw, hw c r rfl]; rfl
  unfold num
  rw [hr]
  dsimp only
  have : ((dec u).length == 0) = false := by
    have := dec_ne u
    cases h : dec u with
    | nil => exact absurd h this
    | cons c r => rfl
  rw [this]
  rfl
theorem dg_not {c : Nat} (h : isDg c = true) : isSp c = false ∧ (c == 45) = false ∧ (c == 40) = false ∧ (c == 36) = false ∧ (c == 64) = false ∧ begins c = true := by
  have hb := dg_bound h
  have e : ∀ k, (k < 48 ∨ 57 < k) → (c == k) = false := fun k hk => by
    have : c ≠ k := by omega
    simpa using this
  refine ⟨?_, e _ (by decide), e _ (by decide), e _ (by decide), e _ (by decide), ?_⟩
  · unfold isSp
    rw [e 32 (by decide), e 9 (by decide), e 10 (by decide), e 13 (by decide)]
    rfl
  · unfold begins
    rw [h]
    simp
/-- A text begins with what begins a factor, and not with a space. -/
theorem Tx.head {m : Nat} {x : Ex} {t : List Nat} (h : Tx m x t) : ∃ c r, t = c :: r ∧ isSp c = false ∧ begins c = true := by
  cases h with
  | num m n hn =>
    have := dec_dg n
    cases h : dec n with
    | nil => exact absurd h (dec_ne n)
    | cons c r =>
      rw [h] at this
      simp only [List.all_cons, Bool.and_eq_true] at this
      obtain ⟨h1, _, _, _, _, h2⟩ := dg_not this.1
      exact ⟨c, r, rfl, h1, h2⟩
  | val m n hn => exact ⟨_, _, rfl, rfl, rfl⟩
  | node m n hn => exact ⟨_, _, rfl, rfl, rfl⟩
  | neg h => exact ⟨_, _, rfl, rfl, rfl⟩
  | two k h5 h9 hx hy hm => exact ⟨_, _, rfl, rfl, rfl⟩
theorem skip_no {c : Nat} {r : List Nat} (h : isSp c = false) : skip (c :: r) = c :: r := by rw [skip, h]; rfl
/-- What it comes to: it, or too deep. -/
def Ours (x : Ex) (w : List Nat) (r : Rd Ex) : Prop := r = .ok x w ∨ ∃ l, r = .bad 13 l
theorem more_stop {part : List Nat → Rd Ex} {a b n : Nat} {x : Ex} {w : List Nat} (hn : n ≠ 0) (h : w = [] ∨ ∃ c r, w = c :: r ∧ isSp c = false ∧ inR a b (kindOf c) = false) : more part a b n x w = .ok x w := by
  obtain ⟨n, rfl⟩ : ∃ k, n = k + 1 := ⟨n - 1, by omega⟩
  rcases h with rfl | ⟨c, r, rfl, h1, h2⟩
  · rfl
  · rw [more, skip_no h1]
    dsimp only
    rw [h2]
    rfl
theorem sg_facts : ∀ k, 5 ≤ k → k ≤ 9 → isSp (sg k) = false ∧ kindOf (sg k) = k ∧ isDg (sg k) = false := by
  intro k h5 h9
  have : k = 5 ∨ k = 6 ∨ k = 7 ∨ k = 8 ∨ k = 9 := by omega
  rcases this with rfl | rfl | rfl | rfl | rfl <;> decide
theorem more_one {part : List Nat → Rd Ex} {a b n k : Nat} {x : Ex} {l : List Nat} (h5 : 5 ≤ k) (h9 : k ≤ 9) (hin : inR a b k = true) : more part a b (n + 1) x (32 :: sg k :: l) = (match part l with
    | .ok y l' => more part a b n (Ex.mk (k : Nat) 0 [x, y]) l'
    | .bad e l' => .bad e l') := by
  obtain ⟨g1, g2, _⟩ := sg_facts k h5 h9
  have hs : skip (32 :: sg k :: l) = sg k :: l := skip_no g1
  rw [more, hs]
  dsimp only
  rw [g2, hin]
  rfl
theorem chain_ours {part : List Nat → Rd Ex} {a b : Nat} {x : Ex} {l w : List Nat} (h : Ours x w (part l)) (hw : w = [] ∨ ∃ c r, w = c :: r ∧ isSp c = false ∧ inR a b (kindOf c) = false) : Ours x w (chain part a b l) := by
  unfold chain
  rcases h with h | ⟨l', h⟩
  · rw [h]
    exact .inl (more_stop (by simp) hw)
  · rw [h]
    exact .inr ⟨_, rfl⟩
theorem w41 {a b : Nat} (ha : 1 ≤ a) {w : List Nat} : (41 :: w) = [] ∨ ∃ c r, 41 :: w = c :: r ∧ isSp c = false ∧ inR a b (kindOf c) = false := by
  refine .inr ⟨_, _, rfl, rfl, ?_⟩
  have : Nat.ble a 0 = false := by
    cases h : Nat.ble a 0 with
    | false => rfl
    | true => have := Nat.le_of_ble_eq_true h; omega
  show inR a b 0 = false
  unfold inR
  rw [this]
  rfl
theorem sub_ok {k : Nat} (h5 : 5 ≤ k) (h9 : k ≤ 9) : (inR 7 9 k = true) ∨ (inR 7 9 k = false ∧ inR 5 6 k = true) := by
  have : k = 5 ∨ k = 6 ∨ k = 7 ∨ k = 8 ∨ k = 9 := by omega
  rcases this with rfl | rfl | rfl | rfl | rfl <;> decide
theorem factor_back {m : Nat} {x : Ex} {t : List Nat} (h : Tx m x t) : ∀ (n d : Nat) (w : List Nat), d ≤ 20 → 21 ≤ n + d → NoDg w → Ours x w (factor n d (t ++ w)) := by
  have hdeep : ∀ {n d c : Nat} {r : List Nat}, isSp c = false → begins c = true → 20 ≤ d → ∃ l, factor (n + 1) d (c :: r) = .bad 13 l := fun {n d c r} h1 h2 h3 => by
    refine ⟨c :: r, ?_⟩
    rw [factor, skip_no h1]
    dsimp only
    rw [h2, Nat.ble_eq_true_of_le h3]
    rfl
  have hnd : ∀ {d : Nat}, ¬ 20 ≤ d → Nat.ble 20 d = false := fun {d} h => by
    cases hh : Nat.ble 20 d with
    | false => rfl
    | true => exact absurd (Nat.le_of_ble_eq_true hh) h
  induction h with
  | num m u hu =>
    intro n d w hd hn hw
    obtain ⟨n, rfl⟩ : ∃ k, n = k + 1 := ⟨n - 1, by omega⟩
    have hdg := dec_dg u
    have hnum := num_dec hu hw
    cases hc : dec u with
    | nil => exact absurd hc (dec_ne u)
    | cons c r =>
      rw [hc] at hdg hnum
      simp only [List.all_cons, Bool.and_eq_true] at hdg
      obtain ⟨h1, c45, c40, c36, c64, h2⟩ := dg_not hdg.1
      rw [List.cons_append] at hnum ⊢
      by_cases h20 : 20 ≤ d
      · exact .inr (hdeep h1 h2 h20)
      · left
        rw [factor, skip_no h1]
        dsimp only
        rw [h2, hnd h20, c45, c40, c36, c64]
        simp only [Bool.and_false, cond_false]
        rw [hnum]
        rfl
  | val m u hu =>
    intro n d w hd hn hw
    obtain ⟨n, rfl⟩ : ∃ k, n = k + 1 := ⟨n - 1, by omega⟩
    rw [List.cons_append]
    by_cases h20 : 20 ≤ d
    · exact .inr (hdeep rfl rfl h20)
    · left
      rw [factor, skip_no rfl]
      dsimp only
      rw [hnd h20, num_dec hu hw]
      rfl
  | node m u hu =>
    intro n d w hd hn hw
    obtain ⟨n, rfl⟩ : ∃ k, n = k + 1 := ⟨n - 1, by omega⟩
    rw [List.cons_append]
    by_cases h20 : 20 ≤ d
    · exact .inr (hdeep rfl rfl h20)
    · left
      rw [factor, skip_no rfl]
      dsimp only
      rw [hnd h20, num_dec hu hw]
      rfl
  | @neg m x t h ih =>
    intro n d w hd hn hw
    obtain ⟨n, rfl⟩ : ∃ k, n = k + 1 := ⟨n - 1, by omega⟩
    by_cases h20 : 20 ≤ d
    · exact .inr (hdeep rfl rfl h20)
    · obtain ⟨n, rfl⟩ : ∃ k, n = k + 1 := ⟨n - 1, by omega⟩
      have e : 40 :: 45 :: (t ++ [41]) ++ w = 40 :: 45 :: (t ++ (41 :: w)) := by simp
      rw [e]
      have hin : Ours (Ex.mk 4 0 [x]) (41 :: w) (factor (n + 1) (d + 1) (45 :: (t ++ (41 :: w)))) := by
        by_cases h19 : 20 ≤ d + 1
        · exact .inr (hdeep rfl rfl h19)
        · rcases ih n (d + 1 + 1) (41 :: w) (by omega) (by omega) (fun c r e => by cases e; rfl) with hh | ⟨l, hh⟩
          · left
            rw [factor, skip_no rfl]
            dsimp only
            rw [hnd h19, hh]
            rfl
          · right
            rw [factor, skip_no rfl]
            dsimp only
            rw [hnd h19, hh]
            exact ⟨_, rfl⟩
      have hsum : Ours (Ex.mk 4 0 [x]) (41 :: w) (sum (factor (n + 1) (d + 1)) (45 :: (t ++ (41 :: w)))) := chain_ours (chain_ours hin (w41 (by decide))) (w41 (by decide))
      rw [factor, skip_no rfl]
      dsimp only
      rw [hnd h20]
      rcases hsum with hh | ⟨l, hh⟩
      · rw [hh]; exact .inl rfl
      · rw [hh]; exact .inr ⟨_, rfl⟩
  | @two a b m x y t u k h5 h9 hx hy hm ihx ihy =>
    intro n d w hd hn hw
    obtain ⟨n, rfl⟩ : ∃ k, n = k + 1 := ⟨n - 1, by omega⟩
    by_cases h20 : 20 ≤ d
    · exact .inr (hdeep rfl rfl h20)
    · have e : 40 :: (t ++ 32 :: sg k :: 32 :: (u ++ [41])) ++ w = 40 :: (t ++ 32 :: sg k :: 32 :: (u ++ 41 :: w)) := by simp
      rw [e]
      have h41 : NoDg (41 :: w) := fun c r e => by cases e; rfl
      have hX := ihx n (d + 1) (32 :: sg k :: 32 :: (u ++ 41 :: w)) (by omega) (by omega) (fun c r e => by cases e; rfl)
      have hY : Ours y (41 :: w) (factor n (d + 1) (32 :: (u ++ 41 :: w))) := by
        have := ihy n (d + 1) (41 :: w) (by omega) (by omega) h41
        rw [factor_skip n (d + 1) (l := 32 :: (u ++ 41 :: w)) (l' := u ++ 41 :: w) rfl (by omega)]
        exact this
      have hsum : Ours (Ex.mk (k : Nat) 0 [x, y]) (41 :: w) (sum (factor n (d + 1)) (t ++ 32 :: sg k :: 32 :: (u ++ 41 :: w))) := by
        rcases sub_ok h5 h9 with hin | ⟨hout, hin⟩
        · refine chain_ours ?_ (w41 (by decide))
          unfold product chain
          rcases hX with hX | ⟨l, hX⟩
          · rw [hX]
            dsimp only
            rw [more_one h5 h9 hin]
            rcases hY with hY | ⟨l, hY⟩
            · rw [hY]
              exact .inl (more_stop (by simp) (w41 (by decide)))
            · rw [hY]
              exact .inr ⟨_, rfl⟩
          · rw [hX]
            exact .inr ⟨_, rfl⟩
        · have hP : ∀ {z : Ex} {l v : List Nat}, Ours z v (factor n (d + 1) l) → (v = [] ∨ ∃ c r, v = c :: r ∧ isSp c = false ∧ inR 7 9 (kindOf c) = false) → Ours z v (product (factor n (d + 1)) l) := fun h1 h2 => chain_ours h1 h2
          have hPY := hP hY (w41 (by decide))
          obtain ⟨g1, g2, _⟩ := sg_facts k h5 h9
          have hPX : product (factor n (d + 1)) (t ++ 32 :: sg k :: 32 :: (u ++ 41 :: w)) = .ok x (sg k :: 32 :: (u ++ 41 :: w)) ∨ ∃ l, product (factor n (d + 1)) (t ++ 32 :: sg k :: 32 :: (u ++ 41 :: w)) = .bad 13 l := by
            unfold product chain
            rcases hX with hX | ⟨l, hX⟩
            · left
              rw [hX]
              dsimp only
              rw [more]
              have hs : skip (32 :: sg k :: 32 :: (u ++ 41 :: w)) = sg k :: 32 :: (u ++ 41 :: w) := skip_no g1
              rw [hs]
              dsimp only
              rw [g2, hout]
              rfl
            · rw [hX]
              exact .inr ⟨_, rfl⟩
          unfold sum
          rw [chain]
          rcases hPX with hPX | ⟨l, hPX⟩
          · rw [hPX]
            dsimp only
            rw [more, skip_no g1]
            dsimp only
            rw [g2, hin]
            rw [cond_true]
            rcases hPY with hPY | ⟨l, hPY⟩
            · rw [hPY]
              exact .inl (more_stop (by simp) (w41 (by decide)))
            · rw [hPY]
              exact .inr ⟨_, rfl⟩
          · rw [hPX]
            exact .inr ⟨_, rfl⟩
      rw [factor, skip_no rfl]
      dsimp only
      rw [hnd h20]
      rcases hsum with hh | ⟨l, hh⟩
      · rw [show (40 == 45) = false from rfl, show (40 == 40) = true from rfl]
        simp only [Bool.and_false, cond_false, cond_true]
        rw [hh]; exact .inl rfl
      · rw [show (40 == 45) = false from rfl, show (40 == 40) = true from rfl]
        simp only [Bool.and_false, cond_false, cond_true]
        rw [hh]; exact .inr ⟨_, rfl⟩
/-- What is shown reads back, or is too deep. -/
theorem read_back {m : Nat} {x : Ex} {t : List Nat} (h : Tx m x t) : Ours x [] (read t) := by
  have hf := factor_back h 300 0 [] (by decide) (by decide) (fun c r e => by cases e)
  rw [List.append_nil] at hf
  have hs : Ours x [] (sum (factor 300 0) t) := chain_ours (chain_ours hf (.inl rfl)) (.inl rfl)
  obtain ⟨c, r, rfl, h1, h2⟩ := h.head
  unfold read
  rw [skip_no h1]
  dsimp only
  rcases hs with hh | ⟨l, hh⟩
  · rw [hh]; exact .inl rfl
  · rw [hh]; exact .inr ⟨_, rfl⟩
end Go.Proofs.YtkhfdckieocciaaDoor
