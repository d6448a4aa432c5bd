/-
  EXPR, PLAIN PART 9: ExprSpaces.
  Conditions: none.
-/
import Derived.Test.YtkhfdckieocciaaDoorE8
namespace Go.Proofs.YtkhfdckieocciaaDoor
open Go Go.Eng
set_option linter.unusedVariables false
set_option linter.unusedSectionVars false

theorem bs_app (a b : ByteArray) : bs (a ++ b) = bs a ++ bs b := by
  unfold bs
  rw [ByteArray.data_append, Array.toList_append, List.map_append]
theorem skip_sp {g : List Nat} (hg : g.all isSp = true) (l : List Nat) : skip (g ++ l) = skip l := by
  induction g with
  | nil => rfl
  | cons c g ih =>
    simp only [List.all_cons, Bool.and_eq_true] at hg
    rw [List.cons_append, skip, hg.1]
    exact ih hg.2
theorem factor_skip (n d : Nat) {l l' : List Nat} (h : skip l = skip l') (h0 : n ≠ 0) : factor n d l = factor n d l' := by
  obtain ⟨n, rfl⟩ : ∃ k, n = k + 1 := ⟨n - 1, by omega⟩
  unfold factor
  rw [h]
theorem chain_congr {part : List Nat → Rd Ex} {a b : Nat} {l l' : List Nat} (h : part l = part l') : chain part a b l = chain part a b l' := by
  unfold chain
  rw [h]
theorem sum_skip (n d : Nat) {l l' : List Nat} (h : skip l = skip l') (h0 : n ≠ 0) : sum (factor n d) l = sum (factor n d) l' := chain_congr (chain_congr (factor_skip n d h h0))
def Kinds (part : List Nat → Rd Ex) : Prop := ∀ l x l', part l = .ok x l' → x.kind ≠ 0
theorem more_kinds {part : List Nat → Rd Ex} (a b : Nat) (ha : 1 ≤ a) : ∀ (n : Nat) (x : Ex) (l : List Nat) y l', x.kind ≠ 0 → more part a b n x l = .ok y l' → y.kind ≠ 0 := by
  intro n
  induction n with
  | zero => intro x l y l' hx h; unfold more at h; cases h; exact hx
  | succ n ih =>
    intro x l y l' hx h
    unfold more at h
    cases hk : skip l with
    | nil => rw [hk] at h; cases h; exact hx
    | cons c r =>
      rw [hk] at h
      dsimp only at h
      cases hin : inR a b (kindOf c) with
      | false => rw [hin] at h; cases h; exact hx
      | true =>
        rw [hin, cond_true] at h
        cases hp : part r with
        | bad e r' => rw [hp] at h; cases h
        | ok z r' =>
          rw [hp] at h
          refine ih _ _ _ _ ?_ h
          unfold inR at hin
          rw [Bool.and_eq_true] at hin
          have := Nat.le_of_ble_eq_true hin.1
          show ((kindOf c : Nat) : Int) ≠ 0
          omega
theorem chain_kinds {part : List Nat → Rd Ex} (H : Kinds part) (a b : Nat) (ha : 1 ≤ a) : Kinds (chain part a b) := by
  intro l x l' h
  unfold chain at h
  cases hp : part l with
  | bad e r => rw [hp] at h; cases h
  | ok z r => rw [hp] at h; exact more_kinds a b ha _ _ _ _ _ (H _ _ _ hp) h
theorem factor_kinds : ∀ (n d : Nat), Kinds (factor n d) := by
  intro n
  induction n with
  | zero => intro d l x l' h; unfold factor at h; cases h
  | succ n ih =>
    intro d l x l' h
    unfold factor at h
    cases hk : skip l with
    | nil => rw [hk] at h; cases h
    | cons c r =>
      rw [hk] at h
      dsimp only at h
      cases hb : begins c && Nat.ble 20 d with
      | true => rw [hb] at h; cases h
      | false =>
        rw [hb, cond_false] at h
        cases c45 : c == 45 with
        | true =>
          rw [c45, cond_true] at h
          cases hq : factor n (d + 1) r with
          | bad e r' => rw [hq] at h; cases h
          | ok z r' => rw [hq] at h; cases h; show (4 : Int) ≠ 0; decide
        | false =>
          rw [c45, cond_false] at h
          cases c40 : c == 40 with
          | true =>
            rw [c40, cond_true] at h
            cases hq : sum (factor n (d + 1)) r with
            | bad e r' => rw [hq] at h; cases h
            | ok z r' =>
              rw [hq] at h
              have hz := chain_kinds (chain_kinds (ih (d + 1)) 7 9 (by decide)) 5 6 (by decide) _ _ _ hq
              dsimp only at h
              cases hk' : skip r' with
              | nil => rw [hk'] at h; cases h
              | cons c' r2 =>
                rw [hk'] at h
                dsimp only at h
                cases c41 : c' == 41 with
                | false => rw [c41] at h; cases h
                | true => rw [c41] at h; cases h; exact hz
          | false =>
            rw [c40, cond_false] at h
            cases c36 : c == 36 with
            | true => rw [c36, cond_true] at h; obtain ⟨m, h1, rfl⟩ := leaf_short h; show (2 : Int) ≠ 0; decide
            | false =>
              rw [c36, cond_false] at h
              cases c64 : c == 64 with
              | true => rw [c64, cond_true] at h; obtain ⟨m, h1, rfl⟩ := leaf_short h; show (3 : Int) ≠ 0; decide
              | false => rw [c64, cond_false] at h; obtain ⟨m, h1, rfl⟩ := leaf_short h; show (1 : Int) ≠ 0; decide
def outC : Rd Ex → Ex × Nat
  | .ok x _ => (x, 0)
  | .bad c _ => (Ex.mk 0 0 [], c)
theorem shut_sp {g : List Nat} (hg : g.all isSp = true) : Shut g ∧ skip g = [] := by
  have h0 : skip g = [] := by have := skip_sp hg []; rw [List.append_nil] at this; exact this
  refine ⟨⟨fun c r e => ?_, fun c r e => by rw [h0] at e; cases e⟩, h0⟩
  subst e
  simp only [List.all_cons, Bool.and_eq_true] at hg
  have := hg.1
  unfold isSp at this
  unfold isDg
  simp only [Bool.or_eq_true, beq_iff_eq] at this
  rcases this with ((rfl | rfl) | rfl) | rfl <;> rfl
/-- Spaces about a text mean nothing. -/
theorem read_gap {g : List Nat} (hg : g.all isSp = true) (l : List Nat) : outC (read (g ++ l ++ g)) = outC (read l) := by
  obtain ⟨hw, h0⟩ := shut_sp hg
  have e : read (g ++ l ++ g) = read (l ++ g) := by
    unfold read
    rw [List.append_assoc, skip_sp hg]
  rw [e]
  unfold read
  rcases skip_app l g with ⟨h1, h2⟩ | ⟨c, r, h1, h2⟩
  · rw [h1, h2, h0]
  · rw [h1, h2]
    dsimp only
    have HF : ∀ l, Rel g False (factor 300 0 l) (factor 300 0 (l ++ g)) := factor_app hw (fun c r e => by rw [h0] at e; cases e) 300 300 0 0 (Nat.le_refl _) (fun h => absurd h (by decide)) (by decide) (by decide) (by decide)
    have HS : Rel g False (sum (factor 300 0) (c :: r)) (sum (factor 300 0) ((c :: r) ++ g)) :=
      chain_app hw (fun l => chain_app hw HF (factor_rest _ _) (factor_rest _ _) 7 9 (by decide) l) (fun l => chain_rest (factor_rest _ _) 7 9 l) (fun l => chain_rest (factor_rest _ _) 7 9 l) 5 6 (by decide) (c :: r)
    rw [List.cons_append] at HS
    cases hq : sum (factor 300 0) (c :: r) with
    | bad e l' =>
      rw [hq] at HS
      rcases HS h0 with ⟨l'', h⟩ | ⟨hd, _⟩
      · rw [h]; rfl
      · exact hd.elim
    | ok x l' =>
      rw [hq] at HS
      rcases HS with ⟨l'', h, hr⟩ | ⟨hd, _⟩
      · rw [h]
        dsimp only
        rcases hr with rfl | ⟨rfl, rfl⟩
        · rcases skip_app l' g with ⟨a1, a2⟩ | ⟨c', r', a1, a2⟩
          · rw [a1, a2, h0]
          · rw [a1, a2]; rfl
        · rw [h0]
      · exact hd.elim
theorem shut41 : Shut [41] ∧ skip [41] = [41] := ⟨⟨fun c r e => by cases e; rfl, fun c r e => by cases (show [41] = c :: r from e); exact ⟨rfl, rfl⟩⟩, rfl⟩
/-- In brackets a text is the same, or too deep. -/
theorem read_brk {g : List Nat} (hg : g.all isSp = true) (l : List Nat) : (skip l = [] → outC (read (40 :: (g ++ l ++ [41]))) = (Ex.mk 0 0 [], 30)) ∧
    (∀ x l', skip l ≠ [] → read l = .ok x l' → outC (read (40 :: (g ++ l ++ [41]))) = (x, 0) ∨ ∃ l2, read (40 :: (g ++ l ++ [41])) = .bad 13 l2) := by
  obtain ⟨hw, h0⟩ := shut41
  have hin : sum (factor 299 1) (g ++ l ++ [41]) = sum (factor 299 1) (l ++ [41]) := sum_skip 299 1 (by rw [List.append_assoc, skip_sp hg]) (by decide)
  have hsk : skip (40 :: (g ++ l ++ [41])) = 40 :: (g ++ l ++ [41]) := rfl
  have hf : factor 300 0 (40 :: (g ++ l ++ [41])) = (match sum (factor 299 1) (l ++ [41]) with
        | .ok x l' => (match skip l' with
          | [] => .bad 30 []
          | c' :: r' => bif c' == 41 then .ok x r' else .bad 30 (c' :: r'))
        | .bad e l' => .bad e l') := by
    rw [← hin]
    rfl
  constructor
  · intro hl
    have hb : factor 299 1 (l ++ [41]) = .bad 30 [41] := by
      rcases skip_app l [41] with ⟨h1, h2⟩ | ⟨c, r, h1, h2⟩
      · rw [factor_skip 299 1 (l := l ++ [41]) (l' := [41]) h2 (by decide)]; rfl
      · rw [hl] at h1; cases h1
    have hs : sum (factor 299 1) (l ++ [41]) = .bad 30 [41] := by
      unfold sum chain product chain
      rw [hb]
    rw [hs] at hf
    unfold read
    rw [hsk]
    dsimp only
    have : sum (factor 300 0) (40 :: (g ++ l ++ [41])) = .bad 30 [41] := by
      unfold sum chain product chain
      rw [hf]
    rw [this]
    rfl
  · intro x l' hne hr
    have HF : ∀ l, Rel [41] True (factor 300 0 l) (factor 299 1 (l ++ [41])) := factor_app hw (fun c r e => by cases (show [41] = c :: r from e); rfl) 300 299 0 1 (by decide) (fun _ => trivial) (by decide) (by decide) (by decide)
    have HS : ∀ l, Rel [41] True (sum (factor 300 0) l) (sum (factor 299 1) (l ++ [41])) := fun l =>
      chain_app hw (fun l => chain_app hw HF (factor_rest _ _) (factor_rest _ _) 7 9 (by decide) l) (fun l => chain_rest (factor_rest _ _) 7 9 l) (fun l => chain_rest (factor_rest _ _) 7 9 l) 5 6 (by decide) l
    unfold read at hr
    cases hk : skip l with
    | nil => exact absurd hk hne
    | cons c r =>
      rw [hk] at hr
      dsimp only at hr
      have e1 : sum (factor 300 0) (c :: r) = sum (factor 300 0) l := sum_skip 300 0 (by rw [← hk, skip_skip]) (by decide)
      rw [e1] at hr
      have HH := HS l
      have fin13 : ∀ l2, factor 300 0 (40 :: (g ++ l ++ [41])) = .bad 13 l2 → ∃ l2, read (40 :: (g ++ l ++ [41])) = .bad 13 l2 := fun l2 h => by
        refine ⟨l2, ?_⟩
        unfold read
        rw [hsk]
        dsimp only
        have : sum (factor 300 0) (40 :: (g ++ l ++ [41])) = .bad 13 l2 := by
          unfold sum chain product chain
          rw [h]
        rw [this]
      cases hq : sum (factor 300 0) l with
      | bad e l3 => rw [hq] at hr; cases hr
      | ok z l3 =>
        rw [hq] at hr HH
        dsimp only at hr
        cases hk3 : skip l3 with
        | cons c3 r3 => rw [hk3] at hr; cases hr
        | nil =>
          rw [hk3] at hr
          cases hr
          rcases HH with ⟨l4, h, hrl⟩ | ⟨_, l4, h⟩
          · left
            have h4 : skip l4 = [41] := by
              rcases hrl with rfl | ⟨_, rfl⟩
              · rcases skip_app l3 [41] with ⟨a1, a2⟩ | ⟨c', r', a1, a2⟩
                · exact a2
                · rw [hk3] at a1; cases a1
              · rfl
            rw [h] at hf
            dsimp only at hf
            rw [h4] at hf
            have hf : factor 300 0 (40 :: (g ++ l ++ [41])) = .ok x [] := hf
            unfold read
            rw [hsk]
            dsimp only
            have : sum (factor 300 0) (40 :: (g ++ l ++ [41])) = .ok x [] := by
              unfold sum chain product chain
              rw [hf]
              rfl
            rw [this]
            rfl
          · right
            rw [h] at hf
            exact fin13 l4 hf
end Go.Proofs.YtkhfdckieocciaaDoor
