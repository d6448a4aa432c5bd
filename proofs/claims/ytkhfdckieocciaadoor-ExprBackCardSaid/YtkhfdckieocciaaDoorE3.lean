/-
  EXPR, PLAIN PART 3: the program's factor and Read are the parser's.
  Conditions: none.
-/
import Derived.Test.YtkhfdckieocciaaDoorE2
namespace Go.Proofs.YtkhfdckieocciaaDoor
open Go Go.Eng
set_option linter.unusedVariables false
set_option linter.unusedSectionVars false

section
variable {s : ByteArray} (hm : s.size ≤ 1073741824)
include hm
theorem begins_dec (c : Nat) : (cond (((c : Nat) : Int) == (45 : Int))
    (some true)
    (cond (((c : Nat) : Int) == (40 : Int))
      (some true)
      (cond (((c : Nat) : Int) == (36 : Int))
        (some true)
        (cond (((c : Nat) : Int) == (64 : Int))
          (some true)
          (cond (decide (((c : Nat) : Int) ≥ (48 : Int)))
            (some (decide (((c : Nat) : Int) ≤ (57 : Int))))
            (some false)))))) = some (begins c) := by
  rw [dg_dec]
  have e := eqN c
  have h45 := e 45; have h40 := e 40; have h36 := e 36; have h64 := e 64
  simp only [show ((45 : Nat) : Int) = 45 from rfl, show ((40 : Nat) : Int) = 40 from rfl, show ((36 : Nat) : Int) = 36 from rfl, show ((64 : Nat) : Int) = 64 from rfl] at h45 h40 h36 h64
  rw [h45, h40, h36, h64]
  unfold begins
  cases c == 45 <;> cases c == 40 <;> cases c == 36 <;> cases c == 64 <;> rfl
theorem num_nodig {c : Nat} {r : List Nat} (h : isDg c = false) : num (c :: r) = .bad 30 (c :: r) := by
  unfold num numRaw
  rw [h]
  rfl
theorem factorB_ok {rec : PSt → Option (Step (Int × Int × List Ex × PSt) (Int × Int))} {n d : Nat} (hd : d ≤ 20) (H : d < 20 → Impl s ((d + 1 : Nat) : Int) rec (factor n (d + 1))) :
    Impl s (d : Int) (expr_reader_factor_B rec) (factor (n + 1) d) := by
  intro l hl
  have hw : IntKind.wrap .i64 ((d : Int) + 1) = ((d + 1 : Nat) : Int) := by rw [w64 (by omega) (by omega)]; omega
  have hw2 : IntKind.wrap .i64 (((d + 1 : Nat) : Int) - 1) = (d : Int) := by rw [w64 (by omega) (by omega)]; omega
  have hdep : decide (((d + 1 : Nat) : Int) > (20 : Int)) = Nat.ble 20 d := by
    cases h : Nat.ble 20 d with
    | true => have := Nat.le_of_ble_eq_true h; rw [decide_eq_true (by omega)]
    | false =>
      have : ¬ 20 ≤ d := fun g => by rw [Nat.ble_eq_true_of_le g] at h; cases h
      rw [decide_eq_false (by omega)]
  have hs := skip_suf l
  unfold expr_reader_factor_B
  rw [now_ok hl hm]
  simp only [Option.bind_some]
  rw [hw, hdep]
  cases hk : skip l with
  | nil =>
    have hf : factor (n + 1) d l = .bad 30 [] := by unfold factor; rw [hk]
    rw [hf]
    refine ⟨?_, List.nil_suffix⟩
    have hz : hd0 ([] : List Nat) = 0 := rfl
    rw [hz]
    have e : (cond (Nat.ble 20 d) (cond ((0 : Int) == 45) (some true) (cond ((0 : Int) == 40) (some true) (cond ((0 : Int) == 36) (some true) (cond ((0 : Int) == 64) (some true) (cond (decide ((0 : Int) ≥ 48)) (some (decide ((0 : Int) ≤ 57))) (some false)))))) (some false)) = some false := by
      cases Nat.ble 20 d <;> rfl
    rw [e]
    simp only [Option.bind_some, cond_false]
    have hnum := number_ok (s := s) (l := []) (d := ((d + 1 : Nat) : Int)) List.nil_suffix hm
    have hn0 : num [] = .bad 30 [] := rfl
    rw [hn0] at hnum
    have e45 : ((0 : Int) == 45) = false := rfl
    have e40 : ((0 : Int) == 40) = false := rfl
    have e36 : ((0 : Int) == 36) = false := rfl
    have e64 : ((0 : Int) == 64) = false := rfl
    rw [e45, e40, e36, e64]
    simp only [cond_false]
    rw [hnum]
    rfl
  | cons c r =>
    rw [hk] at hs
    have hcr := hs.trans hl
    obtain ⟨g1, g2, g3, g4, g5⟩ := ps_cons hcr hm
    have hrl : r <:+ l := (List.suffix_cons _ _).trans hs
    have hz : hd0 (c :: r) = (c : Int) := rfl
    rw [hz, begins_dec hm]
    have e0 : (cond (Nat.ble 20 d) (some (begins c)) (some false)) = some (Nat.ble 20 d && begins c) := by cases Nat.ble 20 d <;> rfl
    rw [e0]
    have e := eqN c
    have h45 := e 45; have h40 := e 40; have h36 := e 36; have h64 := e 64
    simp only [show ((45 : Nat) : Int) = 45 from rfl, show ((40 : Nat) : Int) = 40 from rfl, show ((36 : Nat) : Int) = 36 from rfl, show ((64 : Nat) : Int) = 64 from rfl] at h45 h40 h36 h64
    rw [h45, h40, h36, h64, g3]
    simp only [Option.bind_some]
    unfold factor
    rw [hk]
    dsimp only
    cases hb : begins c && Nat.ble 20 d with
    | true =>
      rw [Bool.and_comm] at hb
      rw [hb]
      exact ⟨rfl, hs⟩
    | false =>
      have hb' := hb
      rw [Bool.and_comm] at hb'
      rw [hb']
      simp only [cond_false, Option.bind_some]
      have hrec : begins c = true → Impl s ((d + 1 : Nat) : Int) rec (factor n (d + 1)) := fun hbc => H (by
        rw [hbc, Bool.true_and] at hb
        have : ¬ 20 ≤ d := fun g => by rw [Nat.ble_eq_true_of_le g] at hb; cases hb
        omega)
      cases c45 : c == 45 with
      | true =>
        have hbc : begins c = true := by unfold begins; rw [c45]; rfl
        obtain ⟨p1, p2⟩ := hrec hbc r g4
        simp only [cond_true]
        rw [p1]
        cases hq : factor n (d + 1) r with
        | bad e l' => rw [hq] at p2; exact ⟨rfl, p2.trans hrl⟩
        | ok x l' =>
          rw [hq] at p2
          refine ⟨?_, (show l' <:+ r from p2).trans hrl⟩
          simp only [enc, Option.bind_some, hw2, Ex.eta]
          rfl
      | false =>
        cases c40 : c == 40 with
        | true =>
          have hbc : begins c = true := by unfold begins; rw [c45, c40]; rfl
          obtain ⟨p1, p2⟩ := sum_ok hm (hrec hbc) r g4
          simp only [cond_true, cond_false]
          rw [p1]
          cases hq : sum (factor n (d + 1)) r with
          | bad e l' => rw [hq] at p2; exact ⟨rfl, p2.trans hrl⟩
          | ok x l' =>
            rw [hq] at p2
            have p2 : l' <:+ r := p2
            have hs' := skip_suf l'
            simp only [enc, Option.bind_some]
            rw [now_ok (p2.trans g4) hm]
            simp only [Option.bind_some]
            cases hk' : skip l' with
            | nil =>
              have : (hd0 ([] : List Nat) != (41 : Int)) = true := rfl
              rw [this]
              exact ⟨rfl, List.nil_suffix⟩
            | cons c' r' =>
              rw [hk'] at hs'
              obtain ⟨q1, q2, q3, q4, q5⟩ := ps_cons (hs'.trans (p2.trans g4)) hm
              have e41 : (((c' : Nat) : Int) == (41 : Int)) = (c' == 41) := eqN c' 41
              have : (hd0 (c' :: r') != (41 : Int)) = !(c' == 41) := by
                show (!(((c' : Nat) : Int) == (41 : Int))) = _
                rw [e41]
              rw [this]
              dsimp only
              cases c41 : c' == 41 with
              | true =>
                refine ⟨?_, (List.suffix_cons _ _).trans (hs'.trans (p2.trans hrl))⟩
                simp only [Bool.not_true, cond_false, cond_true, Option.bind_some, q3, hw2]
              | false =>
                refine ⟨?_, hs'.trans (p2.trans hrl)⟩
                rfl
        | false =>
          cases c36 : c == 36 with
          | true =>
            simp only [cond_true, cond_false]
            rw [number_ok g4 hm]
            refine ⟨?_, by rw [leaf_rest]; exact (num_rest r).trans hrl⟩
            cases num r with
            | bad e l' => rfl
            | ok x l' => simp only [Option.bind_some, hw2, leaf, enc, Ex.kind_mk, Ex.n_mk, Ex.kids_mk]
          | false =>
            cases c64 : c == 64 with
            | true =>
              simp only [cond_true, cond_false]
              rw [number_ok g4 hm]
              refine ⟨?_, by rw [leaf_rest]; exact (num_rest r).trans hrl⟩
              cases num r with
              | bad e l' => rfl
              | ok x l' => simp only [Option.bind_some, hw2, leaf, enc, Ex.kind_mk, Ex.n_mk, Ex.kids_mk]
            | false =>
              simp only [cond_false]
              rw [number_ok hcr hm]
              refine ⟨?_, by rw [leaf_rest]; exact (num_rest _).trans hs⟩
              cases num (c :: r) with
              | bad e l' => rfl
              | ok x l' => simp only [Option.bind_some, hw2, leaf, enc, Ex.kind_mk, Ex.n_mk, Ex.kids_mk]
theorem factor_ok : ∀ (n d : Nat), d ≤ 20 → 21 ≤ n + d → Impl s (d : Int) (expr_reader_factor_D n) (factor n d) := by
  intro n
  induction n with
  | zero => intro d h1 h2; omega
  | succ n ih => intro d h1 h2; exact factorB_ok hm h1 fun h => ih (d + 1) (by omega) (by omega)
end
theorem skip_skip (l : List Nat) : skip (skip l) = skip l := by
  induction l with
  | nil => rfl
  | cons c l ih =>
    cases h : isSp c with
    | true =>
      have : skip (c :: l) = skip l := by rw [skip, h]; rfl
      rw [this, ih]
    | false =>
      have : skip (c :: l) = c :: l := by rw [skip, h]; rfl
      rw [this, this]
def outR (s : ByteArray) : Rd Ex → Int × Int × List Ex × Int × Int
  | .ok x _ => (x.kind, x.n, x.kids, 0, 0)
  | .bad c l => (0, 0, [], (c : Int), ps s l)
/-- What Read answers. -/
def readA (s : ByteArray) : Int × Int × List Ex × Int × Int := bif decide (s.size > 200) then (0, 0, [], 12, 0) else outR s (read (bs s))
theorem read_ok (s : ByteArray) : expr_Read_D 300 s = some (readA s) := by
  unfold expr_Read_D readA
  cases hsz : decide (s.size > 200) with
  | true =>
    have h : s.size > 200 := by simpa using hsz
    rw [decide_eq_true (by omega)]
    rfl
  | false =>
    have h : ¬ s.size > 200 := by simpa using hsz
    rw [decide_eq_false (by omega)]
    simp only [cond_false]
    have hm : s.size ≤ 1073741824 := by omega
    have hl : bs s <:+ bs s := List.suffix_refl _
    have e0 : (s, (0 : Int), (0 : Int)) = (s, ps s (bs s), (0 : Int)) := by rw [ps_bs]
    rw [e0, now_ok hl hm]
    simp only [Option.bind_some]
    have hs := skip_suf (bs s)
    unfold read
    cases hk : skip (bs s) with
    | nil =>
      have h1 : (hd0 ([] : List Nat) == (0 : Int)) = true := rfl
      have h2 : (ps s [] == ((s.size : Nat) : Int)) = true := by rw [ps_nil]; simp
      rw [h1, h2]
      rfl
    | cons c r =>
      rw [hk] at hs
      have hcs := hs
      obtain ⟨g1, g2, g3, g4, g5⟩ := ps_cons hcs hm
      have hne : (ps s (c :: r) == ((s.size : Nat) : Int)) = false := by
        cases hh : ps s (c :: r) == ((s.size : Nat) : Int) with
        | false => rfl
        | true => have : ps s (c :: r) = ((s.size : Nat) : Int) := by simpa using hh
                  omega
      have e1 : (cond (hd0 (c :: r) == (0 : Int)) (some ((ps s (c :: r) == ((s.size : Nat) : Int)), (s, ps s (c :: r), (0 : Int)))) (some (false, (s, ps s (c :: r), (0 : Int))))) = some (false, (s, ps s (c :: r), (0 : Int))) := by
        rw [hne]
        cases hd0 (c :: r) == (0 : Int) <;> rfl
      rw [e1]
      simp only [Option.bind_some, cond_false]
      obtain ⟨p1, p2⟩ := sum_ok hm (factor_ok hm 300 0 (by decide) (by decide)) (c :: r) hcs
      have p1 : expr_reader_sum_D (expr_reader_factor_D 300) (s, ps s (c :: r), (0 : Int)) = _ := p1
      rw [p1]
      cases hq : sum (factor 300 0) (c :: r) with
      | bad e l' => rfl
      | ok x l' =>
        rw [hq] at p2
        have p2 : l' <:+ c :: r := p2
        simp only [enc, Option.bind_some]
        have e2 : (s, ps s l', ((0 : Nat) : Int)) = (s, ps s l', (0 : Int)) := rfl
        rw [e2, now_ok (p2.trans hcs) hm]
        simp only [Option.bind_some]
        have hs' := skip_suf l'
        cases hk' : skip l' with
        | nil =>
          rw [decide_eq_false (by rw [ps_nil]; omega)]
          rfl
        | cons c' r' =>
          rw [hk'] at hs'
          obtain ⟨q1, q2, q3, q4, q5⟩ := ps_cons (hs'.trans (p2.trans hcs)) hm
          rw [decide_eq_true q1]
          rfl
end Go.Proofs.YtkhfdckieocciaaDoor
