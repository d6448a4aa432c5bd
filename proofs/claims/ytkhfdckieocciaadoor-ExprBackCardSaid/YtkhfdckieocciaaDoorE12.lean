/-
  EXPR, PLAIN PART 12: both ways to show one that can be give its text; both ways to ask whether one can be.
  Conditions: none.
-/
import Derived.Test.YtkhfdckieocciaaDoorE11
import Derived.Lib.ItoaLen
namespace Go.Proofs.YtkhfdckieocciaaDoor
open Go Go.Eng
set_option linter.unusedVariables false
set_option linter.unusedSectionVars false

theorem bs_inj {a b : ByteArray} (h : bs a = bs b) : a = b := by
  unfold bs at h
  have h1 : a.data.toList = b.data.toList := by
    refine List.map_inj_right (f := UInt8.toNat) (fun x y hxy => ?_) |>.1 h
    exact UInt8.toNat_inj.1 hxy
  have h2 : a.data = b.data := by rw [← Array.toArray_toList (xs := a.data), h1]
  cases a; cases b; simp only at h2; rw [h2]
theorem bs_mk (l : List UInt8) : bs ⟨l.toArray⟩ = l.map UInt8.toNat := by unfold bs; simp
theorem itoa_ok {n : Nat} (h : n < 10 ^ 18) : ∃ B, strconv_Itoa_D (n : Int) = some B ∧ bs B = dec n := by
  refine ⟨⟨(Lib.itoa (n : Int)).toArray⟩, ?_, ?_⟩
  · unfold strconv_Itoa_D internal_strconv_Itoa_D fmtD
    have h18 : (10 : Nat) ^ 18 = 1000000000000000000 := by decide
    rw [if_pos ⟨rfl, by omega, by omega⟩]
    rfl
  · rw [bs_mk, Lib.itoa_nonneg]
    rfl
theorem itoa_any {n : Int} (h0 : -9223372036854775808 ≤ n) (h1 : n ≤ 9223372036854775807) : ∃ B, strconv_Itoa_D n = some B ∧ B.size ≤ 21 := by
  refine ⟨⟨(Lib.itoa n).toArray⟩, ?_, ?_⟩
  · unfold strconv_Itoa_D internal_strconv_Itoa_D fmtD
    rw [if_pos ⟨rfl, h0, h1⟩]
    rfl
  · have := Lib.itoa_length_le n h0 h1
    show (Lib.itoa n).toArray.size ≤ 21
    simpa using this
theorem chr_ok {m : Nat} (h : m < 10) : toStr ([IntKind.wrap .u8 (IntKind.wrap .i64 ((48 : Int) + (m : Int)))] : List Int) = some { data := #[UInt8.ofNat (48 + m)] } := by
  rw [w64 (by omega) (by omega), w8 (by omega) (by omega)]
  have e : (48 : Int) + (m : Int) = ((48 + m : Nat) : Int) := by omega
  rw [e]
  unfold toStr
  have hb : List.all [((48 + m : Nat) : Int)] isByte = true := by
    have : ∀ m, m < 10 → List.all [((48 + m : Nat) : Int)] isByte = true := by decide +kernel
    exact this m h
  rw [if_pos hb]
  rfl
theorem bs_chr {m : Nat} (h : m < 10) : bs { data := #[UInt8.ofNat (48 + m)] } = [48 + m] := by
  have : ∀ m, m < 10 → bs { data := #[UInt8.ofNat (48 + m)] } = [48 + m] := by decide +kernel
  exact this m h
theorem need_ok' {α : Type} {p : Prop} {d : Decidable p} (h : p) (k : Option α) : @need α p d k = k := by unfold need; exact if_pos h
theorem hmax : IntKind.max .i64 = 9223372036854775807 := rfl
theorem digits_ok {n : Nat} (h : n < 10 ^ 18) : ∃ B, tronageref20_digits_D (n : Int) = some B ∧ bs B = dec n := by
  have h18 : (10 : Nat) ^ 18 = 1000000000000000000 := by decide
  have hlen := dec_len (k := 17) h
  have key : ∀ (n : Nat) (s : ByteArray), n < 1000000000000000000 → (dec n).length + s.size ≤ 1000 → ∃ s' m, m < 10 ∧ s'.size ≤ 1000 ∧ (48 + m) :: bs s' = dec n ++ bs s ∧
      loop (σ := (ByteArray × Int)) (β := (ByteArray × Int)) (s, (n : Int)) (fun z2 =>
        cond (decide (z2.2 > (9 : Int)))
        (need ((10 : Int) ≠ 0) <|
          (toStr ([(IntKind.wrap .u8 (IntKind.wrap .i64 ((48 : Int) + (Int.tmod z2.2 (10 : Int)))))] : List Int)).bind fun t4 =>
          need (((ByteArray.size t4 + ByteArray.size z2.1 : Nat) : Int) ≤ IntKind.max .i64) <|
          need ((10 : Int) ≠ 0) <|
          some (Step.next ((t4 ++ z2.1), (IntKind.wrap .i64 (Int.tdiv z2.2 (10 : Int))))))
        (some (Step.done (z2.1, z2.2)))) = some (s', ((m : Nat) : Int)) := by
    intro n
    refine dec_ind (P := fun n => ∀ (s : ByteArray), n < 1000000000000000000 → (dec n).length + s.size ≤ 1000 → ∃ s' m, m < 10 ∧ s'.size ≤ 1000 ∧ (48 + m) :: bs s' = dec n ++ bs s ∧
      loop (σ := (ByteArray × Int)) (β := (ByteArray × Int)) (s, (n : Int)) (fun z2 =>
        cond (decide (z2.2 > (9 : Int)))
        (need ((10 : Int) ≠ 0) <|
          (toStr ([(IntKind.wrap .u8 (IntKind.wrap .i64 ((48 : Int) + (Int.tmod z2.2 (10 : Int)))))] : List Int)).bind fun t4 =>
          need (((ByteArray.size t4 + ByteArray.size z2.1 : Nat) : Int) ≤ IntKind.max .i64) <|
          need ((10 : Int) ≠ 0) <|
          some (Step.next ((t4 ++ z2.1), (IntKind.wrap .i64 (Int.tdiv z2.2 (10 : Int))))))
        (some (Step.done (z2.1, z2.2)))) = some (s', ((m : Nat) : Int))) (fun n hn => ?_) (fun n hn ih => ?_) n
    · intro s _ hs
      refine ⟨s, n, hn, by omega, by rw [dec_small hn]; rfl, loop_done ?_⟩
      dsimp only
      rw [decide_eq_false (by omega)]
      rfl
    · intro s h18' hs
      have hm : n % 10 < 10 := Nat.mod_lt _ (by decide)
      have hl : (dec n).length = (dec (n / 10)).length + 1 := by rw [dec_big hn, List.length_append]; rfl
      have hsz : ({ data := #[UInt8.ofNat (48 + n % 10)] } ++ s : ByteArray).size = 1 + s.size := by rw [ByteArray.size_append]; rfl
      obtain ⟨s', m, g1, g2, g3, g4⟩ := ih ({ data := #[UInt8.ofNat (48 + n % 10)] } ++ s) (by omega) (by rw [hsz]; omega)
      refine ⟨s', m, g1, g2, ?_, (loop_step ?_).trans g4⟩
      · rw [g3, bs_app, bs_chr hm, dec_big hn]
        simp
      · dsimp only
        rw [decide_eq_true (by omega), cond_true, need_ok (by decide)]
        have e : Int.tmod (n : Int) 10 = ((n % 10 : Nat) : Int) := by rw [Int.tmod_eq_emod_of_nonneg (by omega)]; omega
        have e2 : Int.tdiv (n : Int) 10 = ((n / 10 : Nat) : Int) := by rw [Int.tdiv_eq_ediv_of_nonneg (by omega)]; omega
        rw [e, e2, chr_ok hm, Option.bind_some, need_ok (by
          have : ByteArray.size { data := #[UInt8.ofNat (48 + n % 10)] } = 1 := rfl
          rw [hmax, this]; omega), need_ok (by decide), w64 (by omega) (by omega)]
  obtain ⟨s', m, g1, g2, g3, g4⟩ := key n { data := #[] } (by omega) (by have : ByteArray.size { data := #[] } = 0 := rfl; omega)
  refine ⟨{ data := #[UInt8.ofNat (48 + m)] } ++ s', ?_, ?_⟩
  · unfold tronageref20_digits_D
    rw [g4, Option.bind_some]
    dsimp only
    rw [chr_ok g1, Option.bind_some, need_ok (by
          have : ByteArray.size { data := #[UInt8.ofNat (48 + m)] } = 1 := rfl
          rw [hmax, this]; omega)]
  · rw [bs_app, bs_chr g1]
    have : bs { data := #[] } = [] := rfl
    rw [this, List.append_nil] at g3
    exact g3
theorem Tx.len {m : Nat} {x : Ex} {t : List Nat} (h : Tx m x t) : t.length ≤ 30 * m := by
  induction h with
  | num m n hn => have := dec_len (k := 17) hn; omega
  | val m n hn => have := dec_len (k := 17) hn; simp only [List.length_cons]; omega
  | node m n hn => have := dec_len (k := 17) hn; simp only [List.length_cons]; omega
  | neg h ih => simp only [List.length_cons, List.length_append, List.length_nil]; omega
  | two k h5 h9 hx hy hm ihx ihy => simp only [List.length_cons, List.length_append, List.length_nil]; omega
theorem pow18 : (10 : Nat) ^ 18 = 1000000000000000000 := by decide
theorem sign_text : ∀ k : Nat, 5 ≤ k → k ≤ 9 → (0 ≤ (IntKind.wrap .i64 ((k : Int) - (5 : Int))) ∧ (IntKind.wrap .i64 ((k : Int) - (5 : Int))) ≤ (IntKind.wrap .i64 ((IntKind.wrap .i64 ((k : Int) - (5 : Int))) + (1 : Int))) ∧ (IntKind.wrap .i64 ((IntKind.wrap .i64 ((k : Int) - (5 : Int))) + (1 : Int))) ≤ ((ByteArray.size { data := #[43, 45, 42, 47, 37] } : Nat) : Int)) ∧
    (IntKind.wrap .i64 ((IntKind.wrap .i64 ((k : Int) - (5 : Int))) + (1 : Int))) = (IntKind.wrap .i64 ((k : Int) - (4 : Int))) ∧
    bs (ByteArray.extract { data := #[43, 45, 42, 47, 37] } (Int.toNat (IntKind.wrap .i64 ((k : Int) - (5 : Int)))) (Int.toNat (IntKind.wrap .i64 ((k : Int) - (4 : Int))))) = [sg k] ∧
    ByteArray.size (ByteArray.extract { data := #[43, 45, 42, 47, 37] } (Int.toNat (IntKind.wrap .i64 ((k : Int) - (5 : Int)))) (Int.toNat (IntKind.wrap .i64 ((k : Int) - (4 : Int))))) = 1 := by
  intro k h5 h9
  have : k = 5 ∨ k = 6 ∨ k = 7 ∨ k = 8 ∨ k = 9 := by omega
  rcases this with rfl | rfl | rfl | rfl | rfl <;> decide +kernel
/-- Both ways to show it are its text. -/
theorem show_ok {m : Nat} {x : Ex} {t : List Nat} (h : Tx m x t) : m ≤ 100000 → ∀ n, m ≤ n → ∃ B, expr_Show_D n x = some B ∧ tronageref20_Show_D n x = some B ∧ bs B = t := by
  induction h with
  | num m u hu =>
    intro _ n hn
    obtain ⟨n, rfl⟩ : ∃ k, n = k + 1 := ⟨n - 1, by omega⟩
    obtain ⟨B, b1, b2⟩ := itoa_ok hu
    obtain ⟨C, c1, c2⟩ := digits_ok hu
    obtain rfl : B = C := bs_inj (b2.trans c2.symm)
    refine ⟨B, ?_, ?_, b2⟩
    · show (strconv_Itoa_D (u : Int)).bind _ = _
      rw [b1]; rfl
    · show (tronageref20_digits_D (u : Int)).bind _ = _
      rw [c1]; rfl
  | val m u hu =>
    intro _ n hn
    obtain ⟨n, rfl⟩ : ∃ k, n = k + 1 := ⟨n - 1, by omega⟩
    obtain ⟨B, b1, b2⟩ := itoa_ok hu
    obtain ⟨C, c1, c2⟩ := digits_ok hu
    obtain rfl : B = C := bs_inj (b2.trans c2.symm)
    have hl := dec_len (k := 17) hu
    have hsz : B.size = (dec u).length := by rw [← b2, bs_length]
    have e36 : ByteArray.size { data := #[36] } = 1 := rfl
    refine ⟨{ data := #[36] } ++ B, ?_, ?_, ?_⟩
    · show (strconv_Itoa_D (u : Int)).bind _ = _
      rw [b1, Option.bind_some, need_ok' (by rw [hmax, e36]; omega)]
    · show (tronageref20_digits_D (u : Int)).bind _ = _
      rw [c1, Option.bind_some, need_ok' (by rw [hmax, e36]; omega)]
    · rw [bs_app, b2]; rfl
  | node m u hu =>
    intro _ n hn
    obtain ⟨n, rfl⟩ : ∃ k, n = k + 1 := ⟨n - 1, by omega⟩
    obtain ⟨B, b1, b2⟩ := itoa_ok hu
    obtain ⟨C, c1, c2⟩ := digits_ok hu
    obtain rfl : B = C := bs_inj (b2.trans c2.symm)
    have hl := dec_len (k := 17) hu
    have hsz : B.size = (dec u).length := by rw [← b2, bs_length]
    have e64 : ByteArray.size { data := #[64] } = 1 := rfl
    refine ⟨{ data := #[64] } ++ B, ?_, ?_, ?_⟩
    · show (strconv_Itoa_D (u : Int)).bind _ = _
      rw [b1, Option.bind_some, need_ok' (by rw [hmax, e64]; omega)]
    · show (tronageref20_digits_D (u : Int)).bind _ = _
      rw [c1, Option.bind_some, need_ok' (by rw [hmax, e64]; omega)]
    · rw [bs_app, b2]; rfl
  | @neg m x t h ih =>
    intro hm n hn
    obtain ⟨n, rfl⟩ : ∃ k, n = k + 1 := ⟨n - 1, by omega⟩
    obtain ⟨B, b1, b2, b3⟩ := ih (by omega) n (by omega)
    have hl := h.len
    have hsz : B.size = t.length := by rw [← b3, bs_length]
    have e1 : ByteArray.size { data := #[40, 45] } = 2 := rfl
    have e2 : ByteArray.size { data := #[41] } = 1 := rfl
    have n1 : ((ByteArray.size { data := #[40, 45] } + ByteArray.size B : Nat) : Int) ≤ IntKind.max .i64 := by rw [hmax, e1]; omega
    have n2 : ((ByteArray.size ({ data := #[40, 45] } ++ B) + ByteArray.size { data := #[41] } : Nat) : Int) ≤ IntKind.max .i64 := by rw [hmax, ByteArray.size_append, e1, e2]; omega
    refine ⟨({ data := #[40, 45] } ++ B) ++ { data := #[41] }, ?_, ?_, ?_⟩
    · show (expr_Show_D n (Ex.mk x.kind x.n x.kids)).bind _ = _
      rw [Ex.eta, b1, Option.bind_some, need_ok' n1, need_ok' n2]
    · show (tronageref20_Show_D n (Ex.mk x.kind x.n x.kids)).bind _ = _
      rw [Ex.eta, b2, Option.bind_some, need_ok' n1, need_ok' n2]
    · rw [bs_app, bs_app, b3]
      show [40, 45] ++ t ++ [41] = _
      simp
  | @two a b m x y t u k h5 h9 hx hy hm ihx ihy =>
    intro hM n hn
    obtain ⟨n, rfl⟩ : ∃ k, n = k + 1 := ⟨n - 1, by omega⟩
    obtain ⟨B, b1, b2, b3⟩ := ihx (by omega) n (by omega)
    obtain ⟨C, c1, c2, c3⟩ := ihy (by omega) n (by omega)
    have hl := hx.len
    have hl2 := hy.len
    have hsz : B.size = t.length := by rw [← b3, bs_length]
    have hsz2 : C.size = u.length := by rw [← c3, bs_length]
    obtain ⟨g1, g2, g3, g4⟩ := sign_text k h5 h9
    have e1 : ByteArray.size { data := #[40] } = 1 := rfl
    have e2 : ByteArray.size { data := #[41] } = 1 := rfl
    have e3 : ByteArray.size { data := #[32] } = 1 := rfl
    have hk : ((k : Int) == 1) = false ∧ ((k : Int) == 2) = false ∧ ((k : Int) == 3) = false ∧ ((k : Int) == 4) = false := by
      have e := eqN k
      have h1 := e 1; have h2 := e 2; have h3 := e 3; have h4 := e 4
      have f : ∀ j, j < 5 → (k == j) = false := fun j hj => by
        have : k ≠ j := by omega
        simpa using this
      rw [f _ (by decide)] at h1 h2 h3 h4
      exact ⟨h1, h2, h3, h4⟩
    have hz : ((cond ((k : Int) == (5 : Int))
          (some ((k : Int) == (5 : Int)))
          ((cond ((k : Int) == (6 : Int))
            (some ((k : Int) == (6 : Int)))
            ((cond ((k : Int) == (7 : Int))
              (some ((k : Int) == (7 : Int)))
              ((cond ((k : Int) == (8 : Int))
                (some ((k : Int) == (8 : Int)))
                (some ((k : Int) == (9 : Int)))).bind fun z17 =>
                some z17)).bind fun z16 =>
              some z16)).bind fun z15 =>
            some z15)) : Option Bool) = some true := by
      have : k = 5 ∨ k = 6 ∨ k = 7 ∨ k = 8 ∨ k = 9 := by omega
      rcases this with rfl | rfl | rfl | rfl | rfl <;> rfl
    obtain ⟨k1, k2, k3, k4⟩ := hk
    generalize hE : ByteArray.extract { data := #[43, 45, 42, 47, 37] } (Int.toNat (IntKind.wrap .i64 ((k : Int) - (5 : Int)))) (Int.toNat (IntKind.wrap .i64 ((k : Int) - (4 : Int)))) = E at g3 g4
    have n1 : ((ByteArray.size { data := #[40] } + ByteArray.size B : Nat) : Int) ≤ IntKind.max .i64 := by rw [hmax, e1]; omega
    have n2 : ((ByteArray.size ({ data := #[40] } ++ B) + ByteArray.size { data := #[32] } : Nat) : Int) ≤ IntKind.max .i64 := by simp only [hmax, ByteArray.size_append, e1, e3]; omega
    have n3 : ((ByteArray.size (({ data := #[40] } ++ B) ++ { data := #[32] }) + ByteArray.size E : Nat) : Int) ≤ IntKind.max .i64 := by simp only [hmax, ByteArray.size_append, e1, e3, g4]; omega
    have n4 : ((ByteArray.size ((({ data := #[40] } ++ B) ++ { data := #[32] }) ++ E) + ByteArray.size { data := #[32] } : Nat) : Int) ≤ IntKind.max .i64 := by simp only [hmax, ByteArray.size_append, e1, e3, g4]; omega
    have n5 : ((ByteArray.size (((({ data := #[40] } ++ B) ++ { data := #[32] }) ++ E) ++ { data := #[32] }) + ByteArray.size C : Nat) : Int) ≤ IntKind.max .i64 := by simp only [hmax, ByteArray.size_append, e1, e3, g4]; omega
    have n6 : ((ByteArray.size ((((({ data := #[40] } ++ B) ++ { data := #[32] }) ++ E) ++ { data := #[32] }) ++ C) + ByteArray.size { data := #[41] } : Nat) : Int) ≤ IntKind.max .i64 := by simp only [hmax, ByteArray.size_append, e1, e2, e3, g4]; omega
    refine ⟨((((({ data := #[40] } ++ B) ++ { data := #[32] }) ++ E) ++ { data := #[32] }) ++ C) ++ { data := #[41] }, ?_, ?_, ?_⟩
    · show expr_Show_B (expr_Show_D n) _ = _
      unfold expr_Show_B
      dsimp +instances only [Ex.kind_mk, Ex.n_mk, Ex.kids_mk]
      rw [k1, k2, k3, k4]
      simp only [cond_false]
      rw [hz]
      simp only [Option.bind_some, cond_true]
      rw [need_ok' g1, g2, hE]
      have q0 : expr_kid_D (Ex.mk (k : Int) 0 [x, y]) (0 : Int) = some (x.kind, x.n, x.kids) := rfl
      have q1 : expr_kid_D (Ex.mk (k : Int) 0 [x, y]) (1 : Int) = some (y.kind, y.n, y.kids) := rfl
      rw [q0, q1]
      simp only [Option.bind_some, Ex.eta]
      rw [b1, c1]
      simp only [Option.bind_some]
      rw [need_ok' n1, need_ok' n2, need_ok' n3, need_ok' n4, need_ok' n5, need_ok' n6]
    · show tronageref20_Show_B (tronageref20_Show_D n) _ = _
      unfold tronageref20_Show_B
      dsimp +instances only [Ex.kind_mk, Ex.n_mk, Ex.kids_mk]
      rw [k1, k2, k3, k4]
      simp only [cond_false]
      rw [hz]
      simp only [Option.bind_some, cond_true]
      have q0 : idx [x, y] (0 : Int) = some x := rfl
      have q1 : idx [x, y] (1 : Int) = some y := rfl
      rw [g2] at g1
      rw [q0, q1]
      simp only [Option.bind_some, Ex.eta]
      rw [need_ok' g1, hE, b2, c2]
      simp only [Option.bind_some]
      rw [need_ok' n1, need_ok' n2, need_ok' n3, need_ok' n4, need_ok' n5, need_ok' n6]
    · rw [bs_app, bs_app, bs_app, bs_app, bs_app, bs_app, b3, c3, g3]
      show [40] ++ t ++ [32] ++ [sg k] ++ [32] ++ u ++ [41] = _
      simp

/-! ## whether one can be -/
theorem sure_ok {m : Nat} {x : Ex} {t : List Nat} (h : Tx m x t) : ∀ n, m ≤ n → expr_sure_D n x = some true ∧ tronageref20_sure_D n x = some true := by
  have hle : ∀ u, u < 10 ^ 18 → decide (((u : Nat) : Int) < 0) = false ∧ decide (((u : Nat) : Int) > 999999999999999999) = false := fun u hu => by
    rw [pow18] at hu
    exact ⟨decide_eq_false (by omega), decide_eq_false (by omega)⟩
  induction h with
  | num m u hu =>
    intro n hn
    obtain ⟨n, rfl⟩ : ∃ k, n = k + 1 := ⟨n - 1, by omega⟩
    obtain ⟨h1, h2⟩ := hle u hu
    constructor
    · show expr_sure_B (expr_sure_D n) _ = _
      unfold expr_sure_B
      dsimp +instances only [Ex.kind_mk, Ex.n_mk, Ex.kids_mk]
      rw [h1, h2]
      rfl
    · show tronageref20_sure_B (tronageref20_sure_D n) _ = _
      unfold tronageref20_sure_B
      dsimp +instances only [Ex.kind_mk, Ex.n_mk, Ex.kids_mk]
      rw [h1, h2]
      rfl
  | val m u hu =>
    intro n hn
    obtain ⟨n, rfl⟩ : ∃ k, n = k + 1 := ⟨n - 1, by omega⟩
    obtain ⟨h1, h2⟩ := hle u hu
    constructor
    · show expr_sure_B (expr_sure_D n) _ = _
      unfold expr_sure_B
      dsimp +instances only [Ex.kind_mk, Ex.n_mk, Ex.kids_mk]
      rw [h1, h2]
      rfl
    · show tronageref20_sure_B (tronageref20_sure_D n) _ = _
      unfold tronageref20_sure_B
      dsimp +instances only [Ex.kind_mk, Ex.n_mk, Ex.kids_mk]
      rw [h1, h2]
      rfl
  | node m u hu =>
    intro n hn
    obtain ⟨n, rfl⟩ : ∃ k, n = k + 1 := ⟨n - 1, by omega⟩
    obtain ⟨h1, h2⟩ := hle u hu
    constructor
    · show expr_sure_B (expr_sure_D n) _ = _
      unfold expr_sure_B
      dsimp +instances only [Ex.kind_mk, Ex.n_mk, Ex.kids_mk]
      rw [h1, h2]
      rfl
    · show tronageref20_sure_B (tronageref20_sure_D n) _ = _
      unfold tronageref20_sure_B
      dsimp +instances only [Ex.kind_mk, Ex.n_mk, Ex.kids_mk]
      rw [h1, h2]
      rfl
  | @neg m x t h ih =>
    intro n hn
    obtain ⟨n, rfl⟩ : ∃ k, n = k + 1 := ⟨n - 1, by omega⟩
    obtain ⟨i1, i2⟩ := ih n (by omega)
    constructor
    · show (slices_ContainsFunc_api_Expr_api_Expr_43_D (expr_sure_D n) [x]).bind _ = _
      have : slices_ContainsFunc_api_Expr_api_Expr_43_D (expr_sure_D n) [x] = some false := by
        show ((((((expr_sure_D n (Ex.mk x.kind x.n x.kids)).bind _).bind _).bind _).bind _).bind _) = _
        rw [Ex.eta, i1]
        rfl
      rw [this]
      rfl
    · show ((((tronageref20_sure_D n (Ex.mk x.kind x.n x.kids)).bind _).bind _).bind _) = _
      rw [Ex.eta, i2]
      rfl
  | @two a b m x y t u k h5 h9 hx hy hm ihx ihy =>
    intro n hn
    obtain ⟨n, rfl⟩ : ∃ k, n = k + 1 := ⟨n - 1, by omega⟩
    obtain ⟨i1, i2⟩ := ihx n (by omega)
    obtain ⟨j1, j2⟩ := ihy n (by omega)
    have h4 : ((k : Int) == 4) = false := by
      have e := eqN k 4
      have : (k == 4) = false := by
        have : k ≠ 4 := by omega
        simpa using this
      rw [this] at e
      exact e
    constructor
    · show expr_sure_B (expr_sure_D n) _ = _
      have hc : slices_ContainsFunc_api_Expr_api_Expr_43_D (expr_sure_D n) [x, y] = some false := by
        unfold slices_ContainsFunc_api_Expr_api_Expr_43_D slices_IndexFunc_api_Expr_api_Expr_43_D forN expr_sure_1_D
        rw [if_pos ⟨by decide, by simp⟩]
        have e : ((((List.length [x, y] : Nat) : Int) - 0).toNat) = 2 := rfl
        rw [e]
        simp only [forGo]
        rw [show idx [x, y] 0 = some x from rfl, show idx [x, y] (0 + 1) = some y from rfl]
        simp only [Option.bind_some, Ex.eta]
        rw [i1, j1]
        rfl
      unfold expr_sure_B expr_many_D
      dsimp +instances only [Ex.kind_mk, Ex.n_mk, Ex.kids_mk]
      rw [decide_eq_false (show ¬ ((k : Int) < 1) by omega), decide_eq_false (show ¬ ((k : Int) > 9) by omega), decide_eq_false (show ¬ ((k : Int) < 4) by omega), decide_eq_true (show ((k : Int) ≥ 4) by omega), h4, hc]
      rfl
    · show tronageref20_sure_B (tronageref20_sure_D n) _ = _
      unfold tronageref20_sure_B
      dsimp +instances only [Ex.kind_mk, Ex.n_mk, Ex.kids_mk]
      rw [decide_eq_false (show ¬ ((k : Int) < 1) by omega), decide_eq_false (show ¬ ((k : Int) > 9) by omega), decide_eq_true (show ((k : Int) > 4) by omega), h4]
      have hf : forN (σ := Unit) (β := Bool) (0 : Int) (2 : Int) () (fun i_z15 z15 =>
        (idx [x, y] i_z15).bind fun e58 =>
        (tronageref20_sure_D n (Ex.mk e58.kind e58.n e58.kids)).bind fun t21 =>
        cond (!t21)
        (some (Step.done false))
        (some (Step.next ()))) = some (.next ()) := by
        unfold forN
        rw [if_pos ⟨by decide, by decide⟩]
        have e : (((2 : Int) - 0).toNat) = 2 := rfl
        rw [e]
        simp only [forGo]
        rw [show idx [x, y] 0 = some x from rfl, show idx [x, y] (0 + 1) = some y from rfl]
        simp only [Option.bind_some, Ex.eta]
        rw [i2, j2]
        rfl
      have e2 : ((((List.length [x, y] : Nat) : Int) != 2)) = false := rfl
      simp only [cond_false, cond_true, Option.bind_some]
      rw [e2]
      simp only [cond_false, Option.bind_some]
      rw [show decide ((2 : Int) > 0) = true from rfl, show ((0 : Int) != 0) = false from rfl]
      simp only [cond_true, cond_false, Option.bind_some]
      rw [hf]
      rfl
theorem right_ok {m : Nat} {x : Ex} {t : List Nat} (h : Tx m x t) {n : Nat} (hn : m ≤ n) : expr_Right_D n x = some true ∧ tronageref20_Right_D n x = some true := by
  obtain ⟨h1, h2⟩ := sure_ok h n hn
  unfold expr_Right_D tronageref20_Right_D
  rw [Ex.eta, h1, h2]
  constructor <;> (cases x.kind == (0 : Int) <;> cases x.n == (0 : Int) <;> cases ((List.length x.kids : Nat) : Int) == (0 : Int) <;> rfl)
end Go.Proofs.YtkhfdckieocciaaDoor
