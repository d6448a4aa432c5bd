/-
  EXPR, PLAIN PART 7: the document's factor and Read are the parser's; ExprReads.
  Conditions: none.
-/
import Derived.Test.YtkhfdckieocciaaDoorE6
namespace Go.Proofs.YtkhfdckieocciaaDoor
open Go Go.Eng
set_option linter.unusedVariables false
set_option linter.unusedSectionVars false

theorem more_rest {part : List Nat → Rd Ex} (hp : ∀ l, rest (part l) <:+ l) (a b : Nat) : ∀ (n : Nat) (x : Ex) (l : List Nat), rest (more part a b n x l) <:+ l := by
  intro n
  induction n with
  | zero => intro x l; exact List.suffix_refl _
  | succ n ih =>
    intro x l
    unfold more
    have hs := skip_suf l
    cases hk : skip l with
    | nil => exact List.nil_suffix
    | cons c r =>
      rw [hk] at hs
      dsimp only
      cases inR a b (kindOf c) with
      | false => exact hs
      | true =>
        have hr : r <:+ l := (List.suffix_cons _ _).trans hs
        have h := hp r
        simp only [cond_true]
        cases hq : part r with
        | bad e l' => rw [hq] at h; exact h.trans hr
        | ok y l' => rw [hq] at h; exact (ih _ l').trans ((show l' <:+ r from h).trans hr)
theorem chain_rest {part : List Nat → Rd Ex} (hp : ∀ l, rest (part l) <:+ l) (a b : Nat) (l : List Nat) : rest (chain part a b l) <:+ l := by
  unfold chain
  have h := hp l
  cases hq : part l with
  | bad e l' => rw [hq] at h; exact h
  | ok y l' => rw [hq] at h; exact (more_rest hp a b _ _ l').trans h
theorem factor_rest : ∀ (n d : Nat) (l : List Nat), rest (factor n d l) <:+ l := by
  intro n
  induction n with
  | zero => intro d l; exact List.suffix_refl _
  | succ n ih =>
    intro d l
    unfold factor
    have hs := skip_suf l
    cases hk : skip l with
    | nil => exact List.nil_suffix
    | cons c r =>
      rw [hk] at hs
      have hr : r <:+ l := (List.suffix_cons _ _).trans hs
      dsimp only
      cases begins c && Nat.ble 20 d with
      | true => exact hs
      | false =>
        simp only [cond_false]
        cases c == 45 with
        | true =>
          simp only [cond_true]
          have h := ih (d + 1) r
          cases hq : factor n (d + 1) r <;> rw [hq] at h <;> exact (show _ <:+ r from h).trans hr
        | false =>
          simp only [cond_false]
          cases c == 40 with
          | true =>
            simp only [cond_true]
            have h : rest (sum (factor n (d + 1)) r) <:+ r := chain_rest (chain_rest (ih (d + 1)) 7 9) 5 6 r
            cases hq : sum (factor n (d + 1)) r with
            | bad e l' => rw [hq] at h; exact (show _ <:+ r from h).trans hr
            | ok x l' =>
              rw [hq] at h
              have h : l' <:+ r := h
              have hs' := skip_suf l'
              dsimp only
              cases hk' : skip l' with
              | nil => exact List.nil_suffix
              | cons c' r' =>
                rw [hk'] at hs'
                dsimp only
                cases c' == 41 with
                | true => exact (List.suffix_cons _ _).trans (hs'.trans (h.trans hr))
                | false => exact hs'.trans (h.trans hr)
          | false =>
            simp only [cond_false]
            cases c == 36 with
            | true => simp only [cond_true]; rw [leaf_rest]; exact (num_rest r).trans hr
            | false =>
              simp only [cond_false]
              cases c == 64 with
              | true => simp only [cond_true]; rw [leaf_rest]; exact (num_rest r).trans hr
              | false => simp only [cond_false]; rw [leaf_rest]; exact (num_rest _).trans hs
section
variable {s : ByteArray} (hm : s.size ≤ 1073741824)
include hm
theorem Er.deep {c : Nat} {l : List Nat} {m : Nat} {st : RSt} (H : Er s c l m st) (x : Int) : Er s c l m (st.1, st.2.1, x, st.2.2.2.1, st.2.2.2.2) := H
theorem Er.inc {c : Nat} {l : List Nat} {m : Nat} {st : RSt} (hmm : m ≤ 1000) (H : Er s c l m st) (x : Int) : Er s c l (m + 1) (st.1, IntKind.wrap .i64 (st.2.1 + 1), x, st.2.2.2.1, st.2.2.2.2) := by
  obtain ⟨h0, h1, h2, h3, h4, h5⟩ := H
  refine ⟨h0, h1, ?_, ?_, h4, h5⟩
  · dsimp only; rw [w64 (by omega) (by omega)]; omega
  · dsimp only; rw [w64 (by omega) (by omega)]; omega
theorem rbegins (l : List Nat) : ((cond (hd1 l == (45 : Int))
  (some true)
  (cond (hd1 l == (40 : Int))
    (some true)
    (cond (hd1 l == (36 : Int))
      (some true)
      (cond (hd1 l == (64 : Int))
        (some true)
        (cond (decide (hd1 l ≥ (48 : Int)))
          (some (decide (hd1 l ≤ (57 : Int))))
          (some false)))))) : Option Bool) = some (match l with | [] => false | c :: _ => begins c) := by
  cases l with
  | nil => rfl
  | cons c l => exact begins_dec hm c
theorem rleaf {d b : Int} {n : Nat} (k : Int) {l : List Nat} (hl : l <:+ bs s) (hd : IntKind.wrap .i64 ((d + 1) - 1) = d) : ∃ t, tronageref20_Reader_number_D (s, ps s l, d + 1, 0, b) = some t ∧
    Told s d b (n + 1) (leaf k (num l)) (k, t.1, ([] : List Ex), (t.2.1, t.2.2.1, IntKind.wrap .i64 (t.2.2.2.1 - 1), t.2.2.2.2.1, t.2.2.2.2.2)) := by
  have h := rnumber_ok (d := d + 1) (b := b) hl hm
  have hn : ∀ c l', num l = .bad c l' → c ≠ 0 := by
    intro c l' hc
    have key : ∀ (l : List Nat) (m n : Nat) c l', numRaw m n l = .bad c l' → c ≠ 0 := by
      intro l
      induction l with
      | nil => intro m n c l' h; unfold numRaw at h; cases h
      | cons a l ih =>
        intro m n c l' h
        unfold numRaw at h
        cases hc : isDg a with
        | true =>
          rw [hc, cond_true] at h
          cases h18 : m == 18 with
          | true => rw [h18] at h; cases h; decide
          | false => rw [h18] at h; exact ih _ _ _ _ h
        | false => rw [hc] at h; cases h
    unfold num at hc
    cases hr : numRaw 0 0 l with
    | bad c2 r => rw [hr] at hc; cases hc; exact key _ _ _ _ _ hr
    | ok x r =>
      rw [hr] at hc
      dsimp only at hc
      cases hx : x.1 == 0 with
      | true => rw [hx] at hc; cases hc; decide
      | false => rw [hx] at hc; cases hc
  refine ⟨_, h, ?_⟩
  cases hq : num l with
  | ok x l' =>
    show _ = _
    simp only [hd, Ex.kind_mk, Ex.n_mk, Ex.kids_mk]
  | bad c l' => exact ((Er.of hm (hn _ _ hq) (l := l') d).up (m' := n + 1) (by omega)).deep hm _
theorem rfactorB_ok {rec : RSt → Option (Int × Int × List Ex × RSt)} {n d : Nat} (hn : n ≤ 900) (hd : d ≤ 20) (H : d < 20 → RImpl s ((d + 1 : Nat) : Int) n rec (factor n (d + 1))) :
    RImpl s (d : Int) (n + 1) (tronageref20_Reader_factor_B rec) (factor (n + 1) d) := by
  intro l b hl
  have hw : IntKind.wrap .i64 ((d : Int) + 1) = ((d + 1 : Nat) : Int) := by rw [w64 (by omega) (by omega)]; omega
  have hw2 : IntKind.wrap .i64 (((d + 1 : Nat) : Int) - 1) = (d : Int) := by rw [w64 (by omega) (by omega)]; omega
  have hs := skip_suf l
  have h20 : ((d : Int) == 20) = Nat.ble 20 d := by
    have e : ((d : Int) == 20) = (d == 20) := eqN d 20
    rw [e]
    cases h : Nat.ble 20 d with
    | true => have := Nat.le_of_ble_eq_true h; have : d = 20 := by omega
              subst this; rfl
    | false =>
      have : ¬ 20 ≤ d := fun g => by rw [Nat.ble_eq_true_of_le g] at h; cases h
      simp; omega
  unfold tronageref20_Reader_factor_B
  rw [rnow_ok hl hm]
  simp only [Option.bind_some]
  rw [rbegins hm]
  simp only [Option.bind_some]
  rw [show ((0 : Int) != 0) = false from rfl]
  simp only [cond_false, Option.bind_some]
  cases hk : skip l with
  | nil =>
    have hf : factor (n + 1) d l = .bad 30 [] := by unfold factor; rw [hk]
    rw [hf]
    exact ⟨_, rfl, (Er.of hm (c := 30) (by decide) (l := []) (d : Int)).up (by omega)⟩
  | cons c r =>
    rw [hk] at hs
    have hcr := hs.trans hl
    obtain ⟨g1, g2, g3, g4, g5⟩ := ps_cons hcr hm
    have e := eqN c
    have h45 := e 45; have h40 := e 40; have h36 := e 36; have h64 := e 64
    simp only [show ((45 : Nat) : Int) = 45 from rfl, show ((40 : Nat) : Int) = 40 from rfl, show ((36 : Nat) : Int) = 36 from rfl, show ((64 : Nat) : Int) = 64 from rfl] at h45 h40 h36 h64
    have hz : hd1 (c :: r) = (c : Int) := rfl
    rw [hz, h45, h40, h36, h64, h20, g3, hw]
    unfold factor
    rw [hk]
    dsimp only
    cases hb : begins c with
    | false =>
      have hdg : isDg c = false := by
        unfold begins at hb
        cases h : isDg c with
        | false => rfl
        | true => rw [h] at hb; simp at hb
      have c45 : (c == 45) = false := by unfold begins at hb; cases h : c == 45 with | false => rfl | true => rw [h] at hb; cases hb
      have c40 : (c == 40) = false := by unfold begins at hb; cases h : c == 40 with | false => rfl | true => rw [h, c45] at hb; cases hb
      have c36 : (c == 36) = false := by unfold begins at hb; cases h : c == 36 with | false => rfl | true => rw [h, c45, c40] at hb; cases hb
      have c64 : (c == 64) = false := by unfold begins at hb; cases h : c == 64 with | false => rfl | true => rw [h, c45, c40, c36] at hb; cases hb
      rw [c45, c40, c36, c64, num_nodig hm hdg]
      exact ⟨_, rfl, (Er.of hm (c := 30) (by decide) (l := c :: r) (d : Int)).up (by omega)⟩
    | true =>
      simp only [Bool.not_true, cond_false, Bool.true_and]
      cases hdp : Nat.ble 20 d with
      | true => exact ⟨_, rfl, (Er.of hm (c := 13) (by decide) (l := c :: r) (d : Int)).up (by omega)⟩
      | false =>
        have hlt : d < 20 := by
          have : ¬ 20 ≤ d := fun g => by rw [Nat.ble_eq_true_of_le g] at hdp; cases hdp
          omega
        have HR := H hlt
        have hrest : ∀ l, l <:+ bs s → rest (factor n (d + 1) l) <:+ l := fun l hl => factor_rest n (d + 1) l
        simp only [cond_false]
        cases c45 : c == 45 with
        | true =>
          obtain ⟨q, h1, h2⟩ := HR r b g4
          simp only [cond_true]
          rw [h1]
          simp only [Option.bind_some]
          refine ⟨_, rfl, ?_⟩
          cases hq : factor n (d + 1) r with
          | ok x l' =>
            rw [hq] at h2
            have h2 : q = _ := h2
            subst h2
            show _ = _
            simp only [hw2, Ex.eta, Ex.kind_mk, Ex.n_mk, Ex.kids_mk]
          | bad e l' =>
            rw [hq] at h2
            exact (Er.up h2 (by omega)).deep hm _
        | false =>
          cases c40 : c == 40 with
          | true =>
            have HS := rsum_ok hm (rproduct_ok hm HR hrest) (fun l hl => chain_rest (factor_rest n (d + 1)) 7 9 l)
            obtain ⟨q, h1, h2⟩ := HS r b g4
            have hsuf : rest (sum (factor n (d + 1)) r) <:+ r := chain_rest (chain_rest (factor_rest n (d + 1)) 7 9) 5 6 r
            simp only [cond_true, cond_false]
            rw [h1]
            simp only [Option.bind_some]
            cases hq : sum (factor n (d + 1)) r with
            | bad e l' =>
              rw [hq] at h2
              have h2 : Er s e l' n q.2.2.2 := h2
              obtain ⟨k, st', k1, k2⟩ := h2.now hm
              rw [k1]
              simp only [Option.bind_some]
              have kf : (cond (k != (41 : Int)) ((tronageref20_Reader_fail_D st' (30 : Int)).bind fun t38 => some t38) (some st')) = some st' := by
                rw [k2.fail hm]
                cases k != (41 : Int) <;> rfl
              rw [kf]
              exact ⟨_, rfl, (k2.inc hm (by omega) _).deep hm _⟩
            | ok x l' =>
              rw [hq] at h2 hsuf
              have h2 : q = _ := h2
              have hsuf : l' <:+ r := hsuf
              subst h2
              have hl' := hsuf.trans g4
              have hs' := skip_suf l'
              simp only
              rw [rnow_ok hl' hm]
              simp only [Option.bind_some]
              cases hk' : skip l' with
              | nil =>
                rw [show (hd1 ([] : List Nat) != (41 : Int)) = true from rfl]
                exact ⟨_, rfl, ((((Er.of hm (c := 30) (by decide) (l := []) ((d + 1 : Nat) : Int)).up (m' := n) (by omega)).inc hm (by omega) _)).deep hm _⟩
              | cons c' r' =>
                rw [hk'] at hs'
                obtain ⟨q1, q2, q3, q4, q5⟩ := ps_cons (hs'.trans hl') hm
                have e41 : (((c' : Nat) : Int) == (41 : Int)) = (c' == 41) := eqN c' 41
                have : (hd1 (c' :: r') != (41 : Int)) = !(c' == 41) := by
                  show (!(((c' : Nat) : Int) == (41 : Int))) = _
                  rw [e41]
                rw [this]
                dsimp only
                cases c41 : c' == 41 with
                | true =>
                  refine ⟨_, rfl, ?_⟩
                  show _ = _
                  simp only [q3, hw2]
                | false =>
                  exact ⟨_, rfl, ((((Er.of hm (c := 30) (by decide) (l := c' :: r') ((d + 1 : Nat) : Int)).up (m' := n) (by omega)).inc hm (by omega) _)).deep hm _⟩
          | false =>
            have hwd : IntKind.wrap .i64 (((d : Int) + 1) - 1) = (d : Int) := by rw [w64 (by omega) (by omega)]; omega
            have hcast : ((d + 1 : Nat) : Int) = (d : Int) + 1 := by omega
            cases c36 : c == 36 with
            | true =>
              obtain ⟨t, h1, h2⟩ := rleaf hm (b := b) (n := n) 2 g4 hwd
              simp only [cond_true, cond_false]
              rw [hcast, h1]
              exact ⟨_, rfl, h2⟩
            | false =>
              cases c64 : c == 64 with
              | true =>
                obtain ⟨t, h1, h2⟩ := rleaf hm (b := b) (n := n) 3 g4 hwd
                simp only [cond_true, cond_false]
                rw [hcast, h1]
                exact ⟨_, rfl, h2⟩
              | false =>
                obtain ⟨t, h1, h2⟩ := rleaf hm (b := b) (n := n) 1 hcr hwd
                simp only [cond_false]
                rw [hcast, h1]
                exact ⟨_, rfl, h2⟩
theorem rfactor_ok : ∀ (n d : Nat), n ≤ 900 → d ≤ 20 → 21 ≤ n + d → RImpl s (d : Int) n (tronageref20_Reader_factor_D n) (factor n d) := by
  intro n
  induction n with
  | zero => intro d _ h1 h2; omega
  | succ n ih => intro d h0 h1 h2; exact rfactorB_ok hm (by omega) h1 fun h => ih (d + 1) (by omega) (by omega) (by omega)
end
theorem rread_ok (s : ByteArray) : tronageref20_Read_D 300 s = some (readA s) := by
  unfold tronageref20_Read_D readA
  cases hsz : decide (s.size > 200) with
  | true =>
    have h : s.size > 200 := by simpa using hsz
    rw [decide_eq_true (by omega)]
    rfl
  | false =>
    have h : ¬ s.size > 200 := by simpa using hsz
    rw [decide_eq_false (by omega)]
    simp only [cond_false]
    have hm : s.size ≤ 1073741824 := by omega
    have hl : bs s <:+ bs s := List.suffix_refl _
    have e0 : (s, (0 : Int), (0 : Int), (0 : Int), (0 : Int)) = (s, ps s (bs s), (0 : Int), (0 : Int), (0 : Int)) := by rw [ps_bs]
    rw [e0, rnow_ok hl hm]
    simp only [Option.bind_some]
    have hs := skip_suf (bs s)
    unfold read
    cases hk : skip (bs s) with
    | nil => rfl
    | cons c r =>
      rw [hk] at hs
      have hneg : decide (hd1 (c :: r) < (0 : Int)) = false := decide_eq_false (by show ¬ ((c : Nat) : Int) < 0; omega)
      rw [hneg]
      simp only [cond_false]
      have HF := rfactor_ok hm 300 0 (by decide) (by decide) (by decide)
      have HS := rsum_ok hm (rproduct_ok hm HF (fun l hl => factor_rest 300 0 l)) (fun l hl => chain_rest (factor_rest 300 0) 7 9 l)
      have hsuf : rest (sum (factor 300 0) (c :: r)) <:+ c :: r := chain_rest (chain_rest (factor_rest 300 0) 7 9) 5 6 _
      obtain ⟨q, h1, h2⟩ := HS (c :: r) 0 hs
      have h1 : tronageref20_Reader_sum_D (tronageref20_Reader_factor_D 300) (s, ps s (c :: r), (0 : Int), (0 : Int), (0 : Int)) = some q := h1
      rw [h1]
      simp only [Option.bind_some]
      cases hq : sum (factor 300 0) (c :: r) with
      | bad e l' =>
        rw [hq] at h2
        have h2 : Er s e l' 300 q.2.2.2 := h2
        obtain ⟨k, st', k1, k2⟩ := h2.now hm
        rw [k1]
        simp only [Option.bind_some]
        have kf : (cond (decide (k ≥ (0 : Int))) ((tronageref20_Reader_fail_D st' (30 : Int)).bind fun t14 => some t14) (some st')) = some st' := by
          rw [k2.fail hm]
          cases decide (k ≥ (0 : Int)) <;> rfl
        rw [kf]
        simp only [Option.bind_some]
        have hc := k2.code hm
        have hc' : (st'.2.2.2.1 != (0 : Int)) = true := by unfold bne; rw [hc]; rfl
        rw [hc', k2.2.2.2.2.1, k2.2.2.2.2.2]
        rfl
      | ok x l' =>
        rw [hq] at h2 hsuf
        have h2 : q = _ := h2
        have hsuf : l' <:+ c :: r := hsuf
        subst h2
        have hl' := hsuf.trans hs
        simp only
        have e2 : (s, ps s l', ((0 : Nat) : Int), (0 : Int), (0 : Int)) = (s, ps s l', (0 : Int), (0 : Int), (0 : Int)) := rfl
        rw [e2, rnow_ok hl' hm]
        simp only [Option.bind_some]
        cases hk' : skip l' with
        | nil => rfl
        | cons c' r' =>
          have : decide (hd1 (c' :: r') ≥ (0 : Int)) = true := decide_eq_true (by show ((c' : Nat) : Int) ≥ 0; omega)
          rw [this]
          rfl
theorem reads_law (s : ByteArray) : tronagelaw20_ExprReads_D 300 s = some true := by
  unfold tronagelaw20_ExprReads_D
  rw [awake_ok]
  simp only [Option.bind_some]
  cases decide (((ByteArray.size s : Nat) : Int) > (300 : Int)) with
  | true => rfl
  | false =>
    simp only [cond_false]
    rw [read_ok, rread_ok]
    simp only [Option.bind_some, cond_true]
    rw [same_self' (readA_dle s)]
    simp
end Go.Proofs.YtkhfdckieocciaaDoor
