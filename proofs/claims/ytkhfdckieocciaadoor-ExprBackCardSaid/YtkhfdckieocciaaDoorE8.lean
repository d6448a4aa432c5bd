/-
  EXPR, PLAIN PART 8: what stands behind a text: spaces, or a bracket.
  Conditions: none.
-/
import Derived.Test.YtkhfdckieocciaaDoorE7
namespace Go.Proofs.YtkhfdckieocciaaDoor
open Go Go.Eng
set_option linter.unusedVariables false
set_option linter.unusedSectionVars false

/-- Nothing that could go on with a text. -/
def Shut (w : List Nat) : Prop := (∀ c r, w = c :: r → isDg c = false) ∧ ∀ c r, skip w = c :: r → begins c = false ∧ kindOf c = 0
def rel (w l l' : List Nat) : Prop := l' = l ++ w ∨ (l = [] ∧ l' = skip w)
def Rel (w : List Nat) (deeper : Prop) : Rd Ex → Rd Ex → Prop
  | .ok x l, r => (∃ l', r = .ok x l' ∧ rel w l l') ∨ (deeper ∧ ∃ l', r = .bad 13 l')
  | .bad c l, r => skip w = [] → (∃ l', r = .bad c l') ∨ (deeper ∧ ∃ l', r = .bad 13 l')
theorem rel13 {w : List Nat} {D : Prop} (hd : D) (q : Rd Ex) (l : List Nat) : Rel w D q (.bad 13 l) := by
  cases q with
  | ok x l' => exact .inr ⟨hd, _, rfl⟩
  | bad e l' => exact fun _ => .inr ⟨hd, _, rfl⟩
theorem skip_app (l w : List Nat) : (skip l = [] ∧ skip (l ++ w) = skip w) ∨ (∃ c r, skip l = c :: r ∧ skip (l ++ w) = c :: (r ++ w)) := by
  induction l with
  | nil => exact .inl ⟨rfl, rfl⟩
  | cons c l ih =>
    cases h : isSp c with
    | true =>
      have e1 : skip (c :: l) = skip l := by rw [skip, h]; rfl
      have e2 : skip (c :: l ++ w) = skip (l ++ w) := by rw [List.cons_append, skip, h]; rfl
      rw [e1, e2]; exact ih
    | false =>
      have e1 : skip (c :: l) = c :: l := by rw [skip, h]; rfl
      have e2 : skip (c :: l ++ w) = c :: (l ++ w) := by rw [List.cons_append, skip, h]; rfl
      rw [e1, e2]; exact .inr ⟨c, l, rfl, rfl⟩
section
variable {w : List Nat} (hw : Shut w)
include hw
theorem numRaw_app : ∀ (l : List Nat) (m n : Nat), numRaw m n (l ++ w) = (match numRaw m n l with | .ok x l' => .ok x (l' ++ w) | .bad c l' => .bad c (l' ++ w)) := by
  intro l
  induction l with
  | nil =>
    intro m n
    cases w with
    | nil => rfl
    | cons c r =>
      have := hw.1 c r rfl
      show numRaw m n (c :: r) = .ok (m, n) (c :: r)
      rw [numRaw, this]
      rfl
  | cons c l ih =>
    intro m n
    rw [List.cons_append, numRaw, numRaw]
    cases hc : isDg c with
    | false => rfl
    | true =>
      simp only [cond_true]
      cases h18 : m == 18 with
      | true => rfl
      | false => simp only [cond_false]; exact ih _ _
theorem num_app (l : List Nat) : num (l ++ w) = (match num l with | .ok n l' => .ok n (l' ++ w) | .bad c l' => .bad c (l' ++ w)) := by
  unfold num
  rw [numRaw_app hw]
  cases hr : numRaw 0 0 l with
  | bad c l' => rfl
  | ok x l' =>
    dsimp only
    cases x.1 == 0 <;> rfl
theorem leaf_app (D : Prop) (k : Int) (l : List Nat) : Rel w D (leaf k (num l)) (leaf k (num (l ++ w))) := by
  rw [num_app hw]
  cases num l with
  | ok n l' => exact .inl ⟨_, rfl, .inl rfl⟩
  | bad c l' => exact fun _ => .inl ⟨_, rfl⟩
theorem more_app {D : Prop} {part part2 : List Nat → Rd Ex} (H : ∀ l, Rel w D (part l) (part2 (l ++ w))) (hr1 : ∀ l, rest (part l) <:+ l) (hr2 : ∀ l, rest (part2 l) <:+ l) (a b : Nat) (ha : 1 ≤ a) :
    ∀ (n m : Nat) (x : Ex) (l l2 : List Nat), l.length + 1 ≤ n → l2.length + 1 ≤ m → rel w l l2 → Rel w D (more part a b n x l) (more part2 a b m x l2) := by
  intro n
  induction n with
  | zero => intro m x l l2 h; omega
  | succ n ih =>
    intro m x l l2 hn hm hrel
    obtain ⟨m, rfl⟩ : ∃ k, m = k + 1 := ⟨m - 1, by omega⟩
    have hend : skip l = [] → skip l2 = skip w → Rel w D (more part a b (n + 1) x l) (more part2 a b (m + 1) x l2) := by
      intro h1 h2
      have e1 : more part a b (n + 1) x l = .ok x [] := by unfold more; rw [h1]
      have e2 : more part2 a b (m + 1) x l2 = .ok x (skip w) := by
        unfold more
        rw [h2]
        cases hk : skip w with
        | nil => rfl
        | cons c r =>
          have h0 := (hw.2 c r hk).2
          have : inR a b (kindOf c) = false := by
            rw [h0]
            unfold inR
            have : Nat.ble a 0 = false := by
              cases h : Nat.ble a 0 with
              | false => rfl
              | true => have := Nat.le_of_ble_eq_true h; omega
            rw [this]; rfl
          dsimp only
          rw [this]
          rfl
      rw [e1, e2]
      exact .inl ⟨_, rfl, .inr ⟨rfl, rfl⟩⟩
    rcases hrel with rfl | ⟨rfl, rfl⟩
    · rcases skip_app l w with ⟨h1, h2⟩ | ⟨c, r, h1, h2⟩
      · exact hend h1 h2
      · have hs1 := skip_len l
        have hs2 := skip_len (l ++ w)
        rw [h1, List.length_cons] at hs1
        rw [h2, List.length_cons] at hs2
        unfold more
        rw [h1, h2]
        dsimp only
        cases inR a b (kindOf c) with
        | false => exact .inl ⟨_, rfl, .inl rfl⟩
        | true =>
          simp only [cond_true]
          have HH := H r
          have q1 := hr1 r
          have q2 := hr2 (r ++ w)
          cases hp : part r with
          | bad e l' =>
            rw [hp] at HH
            intro hsp
            rcases HH hsp with ⟨l'', h⟩ | ⟨hd, l'', h⟩
            · rw [h]; exact .inl ⟨_, rfl⟩
            · rw [h]; exact .inr ⟨hd, _, rfl⟩
          | ok y l' =>
            rw [hp] at HH q1
            have q1 := (show l' <:+ r from q1).length_le
            rcases HH with ⟨l'', h, hrl⟩ | ⟨hd, l'', h⟩
            · rw [h] at q2 ⊢
              have q2 := (show l'' <:+ r ++ w from q2).length_le
              exact ih m _ l' l'' (by omega) (by omega) hrl
            · rw [h]
              dsimp only
              cases more part a b n (Ex.mk (kindOf c : Nat) 0 [x, y]) l' with
              | ok z l3 => exact .inr ⟨hd, _, rfl⟩
              | bad e l3 => exact fun _ => .inr ⟨hd, _, rfl⟩
    · exact hend rfl (skip_skip w)
theorem chain_app {D : Prop} {part part2 : List Nat → Rd Ex} (H : ∀ l, Rel w D (part l) (part2 (l ++ w))) (hr1 : ∀ l, rest (part l) <:+ l) (hr2 : ∀ l, rest (part2 l) <:+ l) (a b : Nat) (ha : 1 ≤ a) (l : List Nat) :
    Rel w D (chain part a b l) (chain part2 a b (l ++ w)) := by
  have HH := H l
  unfold chain
  cases hp : part l with
  | bad e l' =>
    rw [hp] at HH
    intro hsp
    rcases HH hsp with ⟨l'', h⟩ | ⟨hd, l'', h⟩
    · rw [h]; exact .inl ⟨_, rfl⟩
    · rw [h]; exact .inr ⟨hd, _, rfl⟩
  | ok y l' =>
    rw [hp] at HH
    rcases HH with ⟨l'', h, hrl⟩ | ⟨hd, l'', h⟩
    · rw [h]
      exact more_app hw H hr1 hr2 a b ha _ _ y l' l'' (Nat.le_refl _) (Nat.le_refl _) hrl
    · rw [h]
      dsimp only
      cases more part a b (l'.length + 1) y l' with
      | ok z l3 => exact .inr ⟨hd, _, rfl⟩
      | bad e l3 => exact fun _ => .inr ⟨hd, _, rfl⟩
theorem factor_app {D : Prop} (hb : ∀ c r, skip w = c :: r → isDg c = false) : ∀ (n n2 d d2 : Nat), d ≤ d2 → (d < d2 → D) → d2 ≤ 20 → 21 ≤ n + d → 21 ≤ n2 + d2 → ∀ l, Rel w D (factor n d l) (factor n2 d2 (l ++ w)) := by
  intro n
  induction n with
  | zero => intro n2 d d2 h1 _ h2 h3; omega
  | succ n ih =>
    intro n2 d d2 hdd hD h20 hn hn2 l
    obtain ⟨n2, rfl⟩ : ∃ k, n2 = k + 1 := ⟨n2 - 1, by omega⟩
    rcases skip_app l w with ⟨h1, h2⟩ | ⟨c, r, h1, h2⟩
    · have e1 : factor (n + 1) d l = .bad 30 [] := by unfold factor; rw [h1]
      rw [e1]
      intro hsp
      refine .inl ⟨[], ?_⟩
      unfold factor
      rw [h2, hsp]
    · unfold factor
      rw [h1, h2]
      dsimp only
      cases hg : begins c && Nat.ble 20 d with
      | true =>
        rw [Bool.and_eq_true] at hg
        have := Nat.le_of_ble_eq_true hg.2
        have e : (begins c && Nat.ble 20 d2) = true := by rw [hg.1, Nat.ble_eq_true_of_le (by omega)]; rfl
        rw [e]
        exact fun _ => .inl ⟨_, rfl⟩
      | false =>
        cases hg2 : begins c && Nat.ble 20 d2 with
        | true =>
          have hlt : d < d2 := by
            rw [Bool.and_eq_true] at hg2
            rw [hg2.1, Bool.true_and] at hg
            have : ¬ 20 ≤ d := fun g => by rw [Nat.ble_eq_true_of_le g] at hg; cases hg
            have := Nat.le_of_ble_eq_true hg2.2
            omega
          simp only [cond_false, cond_true]
          have hd := hD hlt
          exact rel13 hd _ _
        | false =>
          simp only [cond_false]
          have IH : begins c = true → ∀ l, Rel w D (factor n (d + 1) l) (factor n2 (d2 + 1) (l ++ w)) := fun hbc => by
            rw [hbc, Bool.true_and] at hg2
            have : ¬ 20 ≤ d2 := fun g => by rw [Nat.ble_eq_true_of_le g] at hg2; cases hg2
            exact ih n2 (d + 1) (d2 + 1) (by omega) (fun h => hD (by omega)) (by omega) (by omega) (by omega)
          cases c45 : c == 45 with
          | true =>
            have HH := IH (by unfold begins; rw [c45]; rfl) r
            simp only [cond_true]
            cases hq : factor n (d + 1) r with
            | bad e l' =>
              rw [hq] at HH
              intro hsp
              rcases HH hsp with ⟨l'', h⟩ | ⟨hd, l'', h⟩
              · rw [h]; exact .inl ⟨_, rfl⟩
              · rw [h]; exact .inr ⟨hd, _, rfl⟩
            | ok x l' =>
              rw [hq] at HH
              rcases HH with ⟨l'', h, hr⟩ | ⟨hd, l'', h⟩
              · rw [h]; exact .inl ⟨_, rfl, hr⟩
              · rw [h]; exact .inr ⟨hd, _, rfl⟩
          | false =>
            simp only [cond_false]
            cases c40 : c == 40 with
            | true =>
              have hbc : begins c = true := by unfold begins; rw [c45, c40]; rfl
              have HH : Rel w D (sum (factor n (d + 1)) r) (sum (factor n2 (d2 + 1)) (r ++ w)) :=
                chain_app hw (fun l => chain_app hw (IH hbc) (factor_rest _ _) (factor_rest _ _) 7 9 (by decide) l) (fun l => chain_rest (factor_rest _ _) 7 9 l) (fun l => chain_rest (factor_rest _ _) 7 9 l) 5 6 (by decide) r
              simp only [cond_true]
              cases hq : sum (factor n (d + 1)) r with
              | bad e l' =>
                rw [hq] at HH
                intro hsp
                rcases HH hsp with ⟨l'', h⟩ | ⟨hd, l'', h⟩
                · rw [h]; exact .inl ⟨_, rfl⟩
                · rw [h]; exact .inr ⟨hd, _, rfl⟩
              | ok x l' =>
                rw [hq] at HH
                rcases HH with ⟨l'', h, hr⟩ | ⟨hd, l'', h⟩
                · rw [h]
                  dsimp only
                  have hnil : skip l' = [] → skip l'' = skip w → Rel w D (match skip l' with | [] => .bad 30 [] | c' :: r' => bif c' == 41 then .ok x r' else .bad 30 (c' :: r')) (match skip l'' with | [] => .bad 30 [] | c' :: r' => bif c' == 41 then .ok x r' else .bad 30 (c' :: r')) := fun a1 a2 => by
                    rw [a1, a2]
                    intro hsp
                    rw [hsp]
                    exact .inl ⟨_, rfl⟩
                  rcases hr with rfl | ⟨rfl, rfl⟩
                  · rcases skip_app l' w with ⟨a1, a2⟩ | ⟨c', r', a1, a2⟩
                    · exact hnil a1 a2
                    · rw [a1, a2]
                      dsimp only
                      cases c' == 41 with
                      | true => exact .inl ⟨_, rfl, .inl rfl⟩
                      | false => exact fun _ => .inl ⟨_, rfl⟩
                  · exact hnil rfl (skip_skip w)
                · rw [h]
                  dsimp only
                  exact rel13 hd _ _
            | false =>
              simp only [cond_false]
              cases c == 36 with
              | true => exact leaf_app hw D 2 r
              | false =>
                simp only [cond_false]
                cases c == 64 with
                | true => exact leaf_app hw D 3 r
                | false => simp only [cond_false]; exact leaf_app hw D 1 (c :: r)
end
end Go.Proofs.YtkhfdckieocciaaDoor
