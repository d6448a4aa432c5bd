/-
  EXPR, PLAIN PART 5: how deep an expression is; one is the same as itself; what is read is no deeper than its text is long.
  Conditions: none.
-/
import Derived.Test.YtkhfdckieocciaaDoorE4
namespace Go.Proofs.YtkhfdckieocciaaDoor
open Go Go.Eng
set_option linter.unusedVariables false

/-- At most so deep, and nowhere too broad. -/
def dle : Nat → Ex → Prop
  | 0, _ => False
  | n + 1, x => x.kids.length ≤ 9223372036854775807 ∧ ∀ y ∈ x.kids, dle n y
theorem dle_up : ∀ (n : Nat) (x : Ex), dle n x → dle (n + 1) x := by
  intro n
  induction n with
  | zero => intro x h; exact h.elim
  | succ n ih => intro x h; exact ⟨h.1, fun y hy => ih y (h.2 y hy)⟩
theorem dle_le {n m : Nat} (h : n ≤ m) {x : Ex} (hx : dle n x) : dle m x := by
  induction h with
  | refl => exact hx
  | step _ ih => exact dle_up _ _ ih
theorem same_self : ∀ (n : Nat) (x : Ex), dle n x → tronageref20_Same_D n x x = some true := by
  intro n
  induction n with
  | zero => intro x h; exact h.elim
  | succ n ih =>
    intro x h
    show tronageref20_Same_B (tronageref20_Same_D n) x x = some true
    unfold tronageref20_Same_B
    have e1 : (x.kind != x.kind) = false := by simp
    have e2 : (x.n != x.n) = false := by simp
    have e3 : ((((List.length x.kids) : Nat) : Int) != (((List.length x.kids) : Nat) : Int)) = false := by simp
    rw [e1, e2, e3]
    simp only [cond_false, Option.bind_some]
    obtain ⟨s', h1, _⟩ := forN_all (σ := Unit) (β := Bool) (fun _ _ => True) h.1 (s := ()) trivial (f := fun i_z11 z11 =>
      (idx x.kids i_z11).bind fun e47 =>
      (idx x.kids i_z11).bind fun e64 =>
      (tronageref20_Same_D n (Ex.mk e47.kind e47.n e47.kids) (Ex.mk e64.kind e64.n e64.kids)).bind fun t23 =>
      cond (!t23)
      (some (Step.done false))
      (some (Step.next ()))) (fun k s hk _ => ⟨(), by
        have hm : x.kids[k] ∈ x.kids := List.getElem_mem hk
        simp only [idx_lt hk, Option.bind_some, Ex.eta]
        rw [ih _ (h.2 _ hm)]
        rfl, trivial⟩)
    rw [h1]
    rfl
theorem same_self' {n : Nat} {k m : Int} {l : List Ex} (h : dle n (Ex.mk k m l)) : tronageref20_Same_D n (Ex.mk k m l) (Ex.mk k m l) = some true := same_self n _ h

/-! ## how deep what is read is -/
/-- What comes of a part is no deeper than what it takes is long. -/
def Short (part : List Nat → Rd Ex) : Prop := ∀ l x l', part l = .ok x l' → l'.length < l.length ∧ dle (l.length - l'.length) x
theorem skip_len (l : List Nat) : (skip l).length ≤ l.length := (skip_suf l).length_le
theorem num_len {l l' : List Nat} {n : Nat} (h : num l = .ok n l') : l'.length < l.length := by
  have key : ∀ (l : List Nat) (m n : Nat) x l', numRaw m n l = .ok x l' → l'.length + x.1 = l.length + m := by
    intro l
    induction l with
    | nil => intro m n x l' h; unfold numRaw at h; cases h; rfl
    | cons c l ih =>
      intro m n x l' h
      unfold numRaw at h
      cases hc : isDg c with
      | true =>
        rw [hc, cond_true] at h
        cases h18 : m == 18 with
        | true => rw [h18] at h; cases h
        | false =>
          rw [h18] at h
          have := ih _ _ _ _ h
          rw [List.length_cons]
          omega
      | false => rw [hc] at h; cases h; rfl
  unfold num at h
  cases hr : numRaw 0 0 l with
  | bad c r => rw [hr] at h; cases h
  | ok x r =>
    rw [hr] at h
    have := key _ _ _ _ _ hr
    dsimp only at h
    cases hx : x.1 == 0 with
    | true => rw [hx] at h; cases h
    | false =>
      rw [hx] at h
      cases h
      have : x.1 ≠ 0 := by simpa using hx
      omega
theorem dle_mk2 {n : Nat} {k m : Int} {x y : Ex} (hx : dle n x) (hy : dle n y) : dle (n + 1) (Ex.mk k m [x, y]) := by
  refine ⟨by simp [Ex.kids], fun z hz => ?_⟩
  simp only [Ex.kids, List.mem_cons, List.not_mem_nil, or_false] at hz
  rcases hz with rfl | rfl
  · exact hx
  · exact hy
theorem dle_mk1 {n : Nat} {k m : Int} {x : Ex} (hx : dle n x) : dle (n + 1) (Ex.mk k m [x]) := by
  refine ⟨by simp [Ex.kids], fun z hz => ?_⟩
  simp only [Ex.kids, List.mem_cons, List.not_mem_nil, or_false] at hz
  subst hz
  exact hx
theorem dle_mk0 {n : Nat} {k m : Int} : dle (n + 1) (Ex.mk k m []) := ⟨by simp [Ex.kids], fun z hz => by cases hz⟩
theorem more_short {part : List Nat → Rd Ex} (H : Short part) (a b : Nat) : ∀ (n : Nat) (x : Ex) (l : List Nat) (N : Nat) y l', dle (N - l.length) x → l.length < N → more part a b n x l = .ok y l' → l'.length ≤ l.length ∧ dle (N - l'.length) y := by
  intro n
  induction n with
  | zero => intro x l N y l' hx hN h; unfold more at h; cases h; exact ⟨Nat.le_refl _, hx⟩
  | succ n ih =>
    intro x l N y l' hx hN h
    unfold more at h
    have hs := skip_len l
    cases hk : skip l with
    | nil => rw [hk] at h; cases h; exact ⟨Nat.zero_le _, dle_le (by simp) hx⟩
    | cons c r =>
      rw [hk] at h hs
      rw [List.length_cons] at hs
      dsimp only at h
      cases hin : inR a b (kindOf c) with
      | false => rw [hin] at h; cases h; rw [List.length_cons]; exact ⟨hs, dle_le (by omega) hx⟩
      | true =>
        rw [hin, cond_true] at h
        cases hp : part r with
        | bad e r' => rw [hp] at h; cases h
        | ok z r' =>
          rw [hp] at h
          obtain ⟨g1, g2⟩ := H _ _ _ hp
          have hd : dle (N - r'.length) (Ex.mk (kindOf c : Nat) 0 [x, z]) := by
            refine dle_le (n := (N - r'.length - 1) + 1) (by omega) (dle_mk2 (dle_le (by omega) hx) (dle_le (by omega) g2))
          obtain ⟨q1, q2⟩ := ih _ r' N y l' hd (by omega) h
          exact ⟨by omega, q2⟩
theorem chain_short {part : List Nat → Rd Ex} (H : Short part) (a b : Nat) : Short (chain part a b) := by
  intro l x l' h
  unfold chain at h
  cases hp : part l with
  | bad e r => rw [hp] at h; cases h
  | ok z r =>
    rw [hp] at h
    obtain ⟨g1, g2⟩ := H _ _ _ hp
    obtain ⟨q1, q2⟩ := more_short H a b _ z r l.length x l' g2 g1 h
    exact ⟨by omega, q2⟩
theorem leaf_short {k : Int} {r : Rd Nat} {x : Ex} {l' : List Nat} (h : leaf k r = .ok x l') : ∃ n, r = .ok n l' ∧ x = Ex.mk k n [] := by
  cases r with
  | bad e l => cases h
  | ok n l => cases h; exact ⟨n, rfl, rfl⟩
theorem factor_short : ∀ (n d : Nat), Short (factor n d) := by
  intro n
  induction n with
  | zero => intro d l x l' h; unfold factor at h; cases h
  | succ n ih =>
    intro d l x l' h
    unfold factor at h
    have hs := skip_len l
    cases hk : skip l with
    | nil => rw [hk] at h; cases h
    | cons c r =>
      rw [hk] at h hs
      rw [List.length_cons] at hs
      dsimp only at h
      cases hb : begins c && Nat.ble 20 d with
      | true => rw [hb] at h; cases h
      | false =>
        rw [hb, cond_false] at h
        have hnum : ∀ (k : Int) (m : Nat) (l' : List Nat), l'.length < l.length → dle (l.length - l'.length) (Ex.mk k m []) := fun k m l' hl => by
          obtain ⟨q, hq⟩ : ∃ q, l.length - l'.length = q + 1 := ⟨l.length - l'.length - 1, by omega⟩
          rw [hq]; exact dle_mk0
        cases c45 : c == 45 with
        | true =>
          rw [c45, cond_true] at h
          cases hq : factor n (d + 1) r with
          | bad e r' => rw [hq] at h; cases h
          | ok z r' =>
            rw [hq] at h
            cases h
            obtain ⟨g1, g2⟩ := ih _ _ _ _ hq
            exact ⟨by omega, dle_le (n := (r.length - l'.length) + 1) (by omega) (dle_mk1 g2)⟩
        | false =>
          rw [c45, cond_false] at h
          cases c40 : c == 40 with
          | true =>
            rw [c40, cond_true] at h
            cases hq : sum (factor n (d + 1)) r with
            | bad e r' => rw [hq] at h; cases h
            | ok z r' =>
              rw [hq] at h
              obtain ⟨g1, g2⟩ := chain_short (chain_short (ih (d + 1)) 7 9) 5 6 _ _ _ hq
              have hs' := skip_len r'
              dsimp only at h
              cases hk' : skip r' with
              | nil => rw [hk'] at h; cases h
              | cons c' r2 =>
                rw [hk'] at h hs'
                rw [List.length_cons] at hs'
                dsimp only at h
                cases c41 : c' == 41 with
                | false => rw [c41] at h; cases h
                | true => rw [c41] at h; cases h; exact ⟨by omega, dle_le (by omega) g2⟩
          | false =>
            rw [c40, cond_false] at h
            cases c36 : c == 36 with
            | true =>
              rw [c36, cond_true] at h
              obtain ⟨m, h1, rfl⟩ := leaf_short h
              have := num_len h1
              exact ⟨by omega, hnum _ _ _ (by omega)⟩
            | false =>
              rw [c36, cond_false] at h
              cases c64 : c == 64 with
              | true =>
                rw [c64, cond_true] at h
                obtain ⟨m, h1, rfl⟩ := leaf_short h
                have := num_len h1
                exact ⟨by omega, hnum _ _ _ (by omega)⟩
              | false =>
                rw [c64, cond_false] at h
                obtain ⟨m, h1, rfl⟩ := leaf_short h
                have := num_len h1
                rw [List.length_cons] at this
                exact ⟨by omega, hnum _ _ _ (by omega)⟩
theorem read_dle {l : List Nat} {x : Ex} {l' : List Nat} (h : read l = .ok x l') : dle (l.length + 1) x := by
  unfold read at h
  have hs := skip_len l
  cases hk : skip l with
  | nil => rw [hk] at h; cases h; exact dle_mk0
  | cons c r =>
    rw [hk] at h hs
    dsimp only at h
    cases hq : sum (factor 300 0) (c :: r) with
    | bad e r' => rw [hq] at h; cases h
    | ok z r' =>
      rw [hq] at h
      obtain ⟨g1, g2⟩ := chain_short (chain_short (factor_short 300 0) 7 9) 5 6 _ _ _ hq
      dsimp only at h
      cases hk' : skip r' with
      | nil => rw [hk'] at h; cases h; exact dle_le (by omega) g2
      | cons c' r2 => rw [hk'] at h; cases h
theorem readA_dle (s : ByteArray) : dle 300 (Ex.mk (readA s).1 (readA s).2.1 (readA s).2.2.1) := by
  unfold readA
  cases hsz : decide (s.size > 200) with
  | true => exact dle_mk0
  | false =>
    have h : ¬ s.size > 200 := by simpa using hsz
    rw [cond_false]
    cases hr : read (bs s) with
    | bad e l => exact dle_mk0
    | ok x l =>
      show dle 300 (Ex.mk x.kind x.n x.kids)
      rw [Ex.eta]
      have := read_dle hr
      rw [bs_length] at this
      exact dle_le (by omega) this
end Go.Proofs.YtkhfdckieocciaaDoor
