/-
  EXPR, PLAIN PART 10: ExprSpaces' law.
  Conditions: none.
-/
import Derived.Test.YtkhfdckieocciaaDoorE9
namespace Go.Proofs.YtkhfdckieocciaaDoor
open Go Go.Eng
set_option linter.unusedVariables false

/-- What is wrong has a name. -/
theorem read_code {s : ByteArray} (hm : s.size ≤ 1073741824) {c : Nat} {l : List Nat} (h : read (bs s) = .bad c l) : c ≠ 0 := by
  unfold read at h
  have hs := skip_suf (bs s)
  cases hk : skip (bs s) with
  | nil => rw [hk] at h; cases h
  | cons a r =>
    rw [hk] at h hs
    dsimp only at h
    have HF := rfactor_ok hm 300 0 (by decide) (by decide) (by decide)
    have HS := rsum_ok hm (rproduct_ok hm HF (fun l hl => factor_rest 300 0 l)) (fun l hl => chain_rest (factor_rest 300 0) 7 9 l)
    obtain ⟨q, h1, h2⟩ := HS (a :: r) 0 hs
    cases hq : sum (factor 300 0) (a :: r) with
    | bad e l' => rw [hq] at h h2; cases h; exact h2.1
    | ok x l' =>
      rw [hq] at h
      dsimp only at h
      cases hk' : skip l' with
      | nil => rw [hk'] at h; cases h
      | cons c' r' => rw [hk'] at h; cases h; decide
theorem read_kind {l : List Nat} {x : Ex} {l' : List Nat} (h : read l = .ok x l') (hk : x.kind = 0) : skip l = [] := by
  unfold read at h
  cases hs : skip l with
  | nil => rfl
  | cons c r =>
    rw [hs] at h
    dsimp only at h
    cases hq : sum (factor 300 0) (c :: r) with
    | bad e l' => rw [hq] at h; cases h
    | ok z l3 =>
      rw [hq] at h
      have hz := chain_kinds (chain_kinds (factor_kinds 300 0) 7 9 (by decide)) 5 6 (by decide) _ _ _ hq
      dsimp only at h
      cases hk' : skip l3 with
      | nil => rw [hk'] at h; cases h; exact absurd hk hz
      | cons c' r' => rw [hk'] at h; cases h
theorem read_nil {l : List Nat} (h : skip l = []) : read l = .ok (Ex.mk 0 0 []) [] := by unfold read; rw [h]
/-- Read's answer but for the place. -/
theorem readA_out {s : ByteArray} (h : s.size ≤ 200) : (readA s).1 = (outC (read (bs s))).1.kind ∧ (readA s).2.1 = (outC (read (bs s))).1.n ∧ (readA s).2.2.1 = (outC (read (bs s))).1.kids ∧ (readA s).2.2.2.1 = (((outC (read (bs s))).2 : Nat) : Int) := by
  unfold readA
  rw [decide_eq_false (by omega)]
  simp only [cond_false]
  cases read (bs s) <;> exact ⟨rfl, rfl, rfl, rfl⟩
theorem gap_ok : ∀ k, k < 10 → ((bs (ByteArray.extract { data := #[32, 9, 10, 13, 32, 9, 10, 13, 32] } (Int.toNat (0 : Int)) k)).all isSp = true ∧ (ByteArray.extract { data := #[32, 9, 10, 13, 32, 9, 10, 13, 32] } (Int.toNat (0 : Int)) k).size ≤ 9) := by decide +kernel
theorem out_dle {s : ByteArray} (h : s.size ≤ 200) : dle 300 (outC (read (bs s))).1 := by
  have h1 := readA_dle s
  obtain ⟨a, b, c, _⟩ := readA_out h
  rw [a, b, c, Ex.eta] at h1
  exact h1
theorem spaces_law (s : ByteArray) (n : Int) : tronagelaw20_ExprSpaces_D 300 s n = some true := by
  unfold tronagelaw20_ExprSpaces_D
  rw [awake_ok]
  simp only [Option.bind_some]
  cases h1 : decide (((ByteArray.size s : Nat) : Int) > (150 : Int)) with
  | true => rfl
  | false =>
    cases h2 : decide (n < (0 : Int)) with
    | true => rfl
    | false =>
      cases h3 : decide (n > (9 : Int)) with
      | true => rfl
      | false =>
        have h1 := of_decide_eq_false h1
        have h2 := of_decide_eq_false h2
        have h3 := of_decide_eq_false h3
        simp only [cond_false, Option.bind_some]
        obtain ⟨k, rfl⟩ : ∃ k : Nat, n = (k : Int) := ⟨n.toNat, by omega⟩
        rw [Int.toNat_natCast]
        obtain ⟨g1, g2⟩ := gap_ok k (by omega)
        have hsz9 : ByteArray.size { data := #[32, 9, 10, 13, 32, 9, 10, 13, 32] } = 9 := rfl
        rw [need_ok ⟨Int.le_refl _, by omega, by rw [hsz9]; omega⟩]
        generalize ByteArray.extract { data := #[32, 9, 10, 13, 32, 9, 10, 13, 32] } (Int.toNat (0 : Int)) k = G at g1 g2
        have e40 : ByteArray.size { data := #[40] } = 1 := rfl
        have e41 : ByteArray.size { data := #[41] } = 1 := rfl
        have hmax : IntKind.max .i64 = 9223372036854775807 := rfl
        simp only [read_ok, Option.bind_some]
        rw [need_ok (by rw [hmax]; omega), need_ok (by rw [hmax, ByteArray.size_append]; omega), need_ok (by rw [hmax, e40]; omega), need_ok (by rw [hmax, ByteArray.size_append, e40]; omega), need_ok (by rw [hmax, ByteArray.size_append, ByteArray.size_append, e40, e41]; omega)]
        have s1 : s.size ≤ 200 := by omega
        have s2 : (G ++ s ++ G).size ≤ 200 := by rw [ByteArray.size_append, ByteArray.size_append]; omega
        have s3 : ({ data := #[40] } ++ G ++ s ++ { data := #[41] } : ByteArray).size ≤ 200 := by rw [ByteArray.size_append, ByteArray.size_append, ByteArray.size_append, e40, e41]; omega
        obtain ⟨a1, a2, a3, a4⟩ := readA_out s1
        obtain ⟨b1, b2, b3, b4⟩ := readA_out s2
        obtain ⟨c1, c2, c3, c4⟩ := readA_out s3
        have hb2 : bs (G ++ s ++ G) = bs G ++ bs s ++ bs G := by rw [bs_app, bs_app]
        have hb3 : bs ({ data := #[40] } ++ G ++ s ++ { data := #[41] }) = 40 :: (bs G ++ bs s ++ [41]) := by
          rw [bs_app, bs_app, bs_app]
          show [40] ++ bs G ++ bs s ++ [41] = _
          simp
        rw [hb2, read_gap g1 (bs s)] at b1 b2 b3 b4
        rw [hb3] at c1 c2 c3 c4
        obtain ⟨q1, q2⟩ := read_brk g1 (bs s)
        have hd := out_dle s1
        simp only [a1, a2, a3, a4, b1, b2, b3, b4, c1, c2, c3, c4, Ex.eta]
        rw [show ((((outC (read (bs s))).2 : Nat) : Int) != (((outC (read (bs s))).2 : Nat) : Int)) = false by simp, same_self 300 _ hd]
        simp only [cond_false, Option.bind_some, Bool.not_true]
        cases hr : read (bs s) with
        | bad c l =>
          have hc := read_code (by omega) hr
          have : ((((outC (Rd.bad c l)).2 : Nat) : Int) != (0 : Int)) = true := by
            show (((c : Nat) : Int) != 0) = true
            simp [hc]
          rw [this]
          rfl
        | ok x l =>
          rw [hr] at hd
          have hd : dle 300 x := hd
          have : ((((outC (Rd.ok x l)).2 : Nat) : Int) != (0 : Int)) = false := rfl
          rw [this]
          simp only [cond_false, cond_true, outC]
          cases hk : x.kind == (0 : Int) with
          | true =>
            have hk0 : x.kind = 0 := by simpa using hk
            have hq := q1 (read_kind hr hk0)
            simp only [outC] at hq
            rw [hq]
            rfl
          | false =>
            have hk0 : x.kind ≠ 0 := by simpa using hk
            have hne : skip (bs s) ≠ [] := fun h => by
              rw [read_nil h] at hr
              cases hr
              exact hk0 rfl
            simp only [cond_false]
            rcases q2 x l hne hr with h | ⟨l2, h⟩
            · simp only [outC] at h
              rw [h]
              simp only [same_self 300 x hd]
              rfl
            · rw [h]
              rfl
end Go.Proofs.YtkhfdckieocciaaDoor
