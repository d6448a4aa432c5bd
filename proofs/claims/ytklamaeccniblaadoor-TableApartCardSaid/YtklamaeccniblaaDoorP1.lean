/-
  TABLE, PLAIN 1: a row's key; a row without noughts at its end.
  Conditions: numbers of 64 bits; rows of at most a thousand numbers.
-/
import Derived.Test.YtklamaeccniblaaDoorSim
import Derived.Test.YtklamaeccniblaaDoorEngP
namespace Go.Proofs.YtklamaeccniblaaDoor
open Go Go.Eng
set_option linter.unusedVariables false

/-! ## digits -/
theorem dec_digit (u : Nat) : ∀ b ∈ Lib.decDigits u, 48 ≤ b.toNat ∧ b.toNat ≤ 57 := by
  induction u using Nat.strongRecOn with
  | ind u ih =>
    intro b hb
    rw [Lib.decDigits] at hb
    split at hb
    · rename_i h
      have hb := List.mem_singleton.1 hb; subst hb
      have : (UInt8.ofNat (48 + u)).toNat = 48 + u := by simp; omega
      omega
    · rename_i h
      rcases List.mem_append.1 hb with hb | hb
      · exact ih (u / 10) (by omega) b hb
      · have hb := List.mem_singleton.1 hb; subst hb
        have : (UInt8.ofNat (48 + u % 10)).toNat = 48 + u % 10 := by simp; omega
        omega
def valD (l : List UInt8) : Nat := l.foldl (fun a b => a * 10 + (b.toNat - 48)) 0
theorem valD_dec (u : Nat) : valD (Lib.decDigits u) = u := by
  induction u using Nat.strongRecOn with
  | ind u ih =>
    rw [Lib.decDigits]
    split
    · rename_i h
      have : (UInt8.ofNat (48 + u)).toNat = 48 + u := by simp; omega
      simp only [valD, List.foldl_cons, List.foldl_nil, this]
      omega
    · rename_i h
      have e : (UInt8.ofNat (48 + u % 10)).toNat = 48 + u % 10 := by simp; omega
      have := ih (u / 10) (by omega)
      unfold valD at this ⊢
      rw [List.foldl_append, this]
      simp only [List.foldl_cons, List.foldl_nil, e]
      omega
theorem dec_inj {u v : Nat} (h : Lib.decDigits u = Lib.decDigits v) : u = v := by rw [← valD_dec u, h, valD_dec]
theorem itoa_byte (i : Int) : ∀ b ∈ Lib.itoa i, b = 45 ∨ (48 ≤ b.toNat ∧ b.toNat ≤ 57) := by
  intro b hb
  unfold Lib.itoa at hb
  split at hb
  · rcases List.mem_cons.1 hb with hb | hb
    · exact .inl hb
    · exact .inr (dec_digit _ b hb)
  · exact .inr (dec_digit _ b hb)
theorem itoa_inj {i j : Int} (h : Lib.itoa i = Lib.itoa j) : i = j := by
  have no45 : ∀ (u : Nat) (r : List UInt8), Lib.decDigits u ≠ 45 :: r := fun u r e => by
    have := dec_digit u 45 (by rw [e]; simp)
    simp at this
  unfold Lib.itoa at h
  split at h <;> split at h
  · have := dec_inj (List.cons.inj h).2; omega
  · exact absurd h.symm (no45 _ _)
  · exact absurd h (no45 _ _)
  · have := dec_inj h; omega
theorem digits_byte (i : Int) : ∀ x ∈ digits i, isByte x = true ∧ x ≠ 32 := by
  intro x hx
  unfold digits at hx
  obtain ⟨b, hb, rfl⟩ := List.mem_map.1 hx
  unfold isByte
  simp only [Bool.and_eq_true, decide_eq_true_eq]
  rcases itoa_byte i b hb with rfl | h
  · decide
  · omega
theorem digits_inj {i j : Int} (h : digits i = digits j) : i = j := by
  unfold digits at h
  refine itoa_inj ?_
  refine List.map_inj_right (f := fun b : UInt8 => (b.toNat : Int)) ?_ |>.1 h
  intro a b hab
  have : a.toNat = b.toNat := by omega
  exact UInt8.toNat_inj.1 this
theorem digits_len {i : Int} (h0 : -9223372036854775808 ≤ i) (h1 : i ≤ 9223372036854775807) : (digits i).length ≤ 21 := by
  unfold digits
  rw [List.length_map]
  exact Lib.itoa_length_le i h0 h1

/-! ## a row's key -/
def R64 (l : List Int) : Prop := ∀ x ∈ l, -9223372036854775808 ≤ x ∧ x ≤ 9223372036854775807
theorem R64.take {l : List Int} (h : R64 l) (n : Nat) : R64 (l.take n) := fun x hx => h x (List.mem_of_mem_take hx)
def keyL : List Int → List Int
  | [] => []
  | x :: l => digits x ++ 32 :: keyL l
theorem keyL_append (l m : List Int) : keyL (l ++ m) = keyL l ++ keyL m := by
  induction l with
  | nil => rfl
  | cons x l ih => simp [keyL, ih]
theorem split32 : ∀ {a b r s : List Int}, (∀ x ∈ a, x ≠ 32) → (∀ x ∈ b, x ≠ 32) → a ++ 32 :: r = b ++ 32 :: s → a = b ∧ r = s := by
  intro a
  induction a with
  | nil =>
    intro b r s _ hb h
    cases b with
    | nil => simpa using h
    | cons y b => simp at h; exact absurd h.1.symm (hb y (by simp))
  | cons x a ih =>
    intro b r s ha hb h
    cases b with
    | nil => simp at h; exact absurd h.1 (ha x (by simp))
    | cons y b =>
      simp at h
      obtain ⟨h1, h2⟩ := ih (fun z hz => ha z (by simp [hz])) (fun z hz => hb z (by simp [hz])) h.2
      exact ⟨by rw [h.1, h1], h2⟩
theorem keyL_inj : ∀ {a b : List Int}, keyL a = keyL b → a = b := by
  intro a
  induction a with
  | nil =>
    intro b h
    cases b with
    | nil => rfl
    | cons y b => simp [keyL] at h
  | cons x a ih =>
    intro b h
    cases b with
    | nil => simp [keyL] at h
    | cons y b =>
      obtain ⟨h1, h2⟩ := split32 (fun z hz => (digits_byte x z hz).2) (fun z hz => (digits_byte y z hz).2) h
      rw [digits_inj h1, ih h2]
theorem keyL_byte (l : List Int) : ∀ x ∈ keyL l, isByte x = true := by
  induction l with
  | nil => intro x hx; cases hx
  | cons y l ih =>
    intro x hx
    rcases List.mem_append.1 hx with h | h
    · exact (digits_byte y x h).1
    · rcases List.mem_cons.1 h with rfl | h
      · decide
      · exact ih x h
theorem keyL_len {l : List Int} (h : R64 l) : (keyL l).length ≤ 22 * l.length := by
  induction l with
  | nil => simp [keyL]
  | cons x l ih =>
    have h1 := digits_len (h x (by simp)).1 (h x (by simp)).2
    have h2 := ih fun y hy => h y (by simp [hy])
    simp only [keyL, List.length_append, List.length_cons]
    omega
def strOf (l : List Int) : ByteArray := ⟨(l.map fun x => UInt8.ofNat x.toNat).toArray⟩
theorem strOf_inj {a b : List Int} (ha : ∀ x ∈ a, isByte x = true) (hb : ∀ x ∈ b, isByte x = true) (h : strOf a = strOf b) : a = b := by
  have h1 : (a.map fun x => UInt8.ofNat x.toNat) = (b.map fun x => UInt8.ofNat x.toNat) := by
    have := congrArg (fun s : ByteArray => s.data.toList) h
    simpa [strOf] using this
  have key : ∀ l : List Int, (∀ x ∈ l, isByte x = true) → (l.map fun x => UInt8.ofNat x.toNat).map (fun b => (b.toNat : Int)) = l := fun l hl => by
    rw [List.map_map]
    refine Eq.trans (List.map_congr_left (g := id) fun x hx => ?_) (List.map_id l)
    have := hl x hx
    simp only [isByte, Bool.and_eq_true, decide_eq_true_eq] at this
    have e : (UInt8.ofNat x.toNat).toNat = x.toNat := by simp; omega
    show ((UInt8.ofNat x.toNat).toNat : Int) = x
    rw [e]; omega
  rw [← key a ha, h1, key b hb]
theorem key_D {row : List Int} (hr : R64 row) (hl : row.length ≤ 1000) : table_key_D row = some (strOf (keyL row)) := by
  unfold table_key_D
  obtain ⟨s, h1, h2⟩ := forS_inv (n := row.length) (f := fun i_z2 z2 => (idx row i_z2).bind fun e28 => (appendIntD z2 e28 (10 : Int)).bind fun t5 => (app t5 ([(32 : Int)] : List Int)).bind fun t7 => some t7)
    (fun k s => s = keyL (row.take k)) (by omega) (s := []) rfl fun k s hk hI => by
      subst hI
      have hx : row[k] ∈ row := List.getElem_mem hk
      have h1 := hr _ hx
      have hlen : (keyL (row.take k)).length ≤ 22 * 1000 := by
        have := keyL_len (hr.take k)
        have : (row.take k).length ≤ 1000 := by simp; omega
        omega
      have hd := digits_len h1.1 h1.2
      refine ⟨_, ?_, rfl⟩
      rw [bind_some' (idx_lt hk)]
      unfold appendIntD
      rw [if_pos ⟨rfl, h1.1, h1.2, by omega⟩]
      rw [Option.bind_some, app_ok (by simp; omega), Option.bind_some]
      rw [List.take_add_one, List.getElem?_eq_getElem hk, keyL_append]
      simp [keyL]
  rw [h1, Option.bind_some]
  subst h2
  rw [List.take_length]
  unfold toStr
  rw [if_pos (List.all_eq_true.2 (keyL_byte row))]
  rfl

/-! ## noughts at the end -/
def trimL : List Int → List Int
  | [] => []
  | x :: l => match trimL l with
    | [] => if x = 0 then [] else [x]
    | y :: m => x :: y :: m
theorem trimL_snoc0 (l : List Int) : trimL (l ++ [0]) = trimL l := by
  induction l with
  | nil => rfl
  | cons x l ih => simp only [List.cons_append, trimL, ih]
theorem trimL_snoc (l : List Int) {x : Int} (hx : x ≠ 0) : trimL (l ++ [x]) = l ++ [x] := by
  induction l with
  | nil => simp [trimL, hx]
  | cons y l ih =>
    simp only [List.cons_append, trimL, ih]
    cases l <;> rfl
theorem trimL_zeros (l : List Int) (n : Nat) : trimL (l ++ List.replicate n 0) = trimL l := by
  induction n generalizing l with
  | zero => simp
  | succ n ih => rw [List.replicate_succ', ← List.append_assoc, trimL_snoc0, ih]
theorem trimL_len (l : List Int) : (trimL l).length ≤ l.length := by
  induction l with
  | nil => exact Nat.le_refl _
  | cons x l ih =>
    simp only [trimL]
    split
    · split <;> simp
    · rename_i y m h; rw [h] at ih; simp at ih ⊢; omega
theorem trimL_take (l : List Int) : trimL l = l.take (trimL l).length := by
  induction l with
  | nil => rfl
  | cons x l ih =>
    simp only [trimL]
    split
    · split
      · rfl
      · simp
    · rename_i y m h
      rw [h] at ih
      simp only [List.length_cons, List.take_succ_cons]
      rw [List.length_cons] at ih
      rw [← ih]
theorem trimL_mem {l : List Int} {x : Int} (h : x ∈ trimL l) : x ∈ l := by rw [trimL_take] at h; exact List.mem_of_mem_take h
theorem trimL_r64 {l : List Int} (h : R64 l) : R64 (trimL l) := fun x hx => h x (trimL_mem hx)
theorem trim_D {row : List Int} (hl : row.length ≤ 1000000) : table_trim_D row = some (trimL row) := by
  unfold table_trim_D
  obtain ⟨z, h1, h0, h2, h3⟩ := loop_inv (σ := Int) (β := Int) (f := fun z2 => (cond (decide (z2 > (0 : Int))) ((idx row (IntKind.wrap .i64 (z2 - (1 : Int)))).bind fun e21 => some (e21 == (0 : Int))) (some false)).bind fun z3 =>
      cond z3 (some (Step.next (IntKind.wrap .i64 (z2 - (1 : Int))))) (some (Step.done z2)))
    (fun z => 0 ≤ z ∧ z ≤ row.length ∧ trimL row = trimL (row.take z.toNat)) (fun z => z.toNat) (fun z => 0 ≤ z ∧ z ≤ row.length ∧ trimL row = row.take z.toNat)
    (fun z ⟨h0, h1, h2⟩ => by
      by_cases hz : 0 < z
      · have hw : IntKind.wrap .i64 (z - 1) = z - 1 := w64 (by omega) (by omega)
        have hlt : (z - 1).toNat < row.length := by omega
        rw [hw, idx_get (by omega) hlt, decide_eq_true (by omega : z > 0)]
        have ht : row.take z.toNat = row.take (z - 1).toNat ++ [row[(z - 1).toNat]] := by
          rw [show z.toNat = (z - 1).toNat + 1 by omega, List.take_add_one, List.getElem?_eq_getElem hlt]; rfl
        by_cases hx : row[(z - 1).toNat] = 0
        · left
          have hb : (row[(z - 1).toNat] == 0) = true := beq_iff_eq.2 hx
          refine ⟨z - 1, by simp only [Option.bind_some, cond_true, hb], ⟨by omega, by omega, ?_⟩, by omega⟩
          rw [h2, ht, hx, trimL_snoc0]
        · right
          have hb : (row[(z - 1).toNat] == 0) = false := beq_eq_false_iff_ne.2 hx
          refine ⟨z, by simp only [Option.bind_some, cond_true, cond_false, hb], h0, h1, ?_⟩
          rw [h2, ht, trimL_snoc _ hx]
      · right
        refine ⟨z, by simp [hz], h0, h1, ?_⟩
        rw [h2, show z.toNat = 0 by omega]; rfl) (s := (row.length : Int)) ⟨by omega, by omega, by simp⟩
  rw [h1, Option.bind_some, cut_ok (by omega) h0 h2, Option.bind_some, app_ok (by simp; omega)]
  simp [← h3]
theorem Trim_D {row : List Int} (hl : row.length ≤ 1000000) : tronageref15_Trim_D row = some (trimL row) := by
  unfold tronageref15_Trim_D
  obtain ⟨z, h1, h0, h2, h3⟩ := forS_inv (σ := Int) (n := row.length) (f := fun i_z2 z2 => (idx row i_z2).bind fun e23 => (cond (e23 != (0 : Int)) (some (IntKind.wrap .i64 (i_z2 + (1 : Int)))) (some z2)).bind fun z5 => some z5)
    (fun k z => 0 ≤ z ∧ z ≤ k ∧ trimL (row.take k) = row.take z.toNat) (by omega) (s := 0) ⟨by omega, by omega, rfl⟩ fun k z hk ⟨h0, h1, h2⟩ => by
      rw [bind_some' (idx_lt hk)]
      have hw : IntKind.wrap .i64 ((k : Int) + 1) = k + 1 := w64 (by omega) (by omega)
      rw [hw]
      by_cases hx : row[k] = 0
      · have hb : (row[k] != 0) = false := by rw [hx]; rfl
        refine ⟨z, by simp only [Option.bind_some, cond_false, hb], h0, by omega, ?_⟩
        rw [List.take_add_one, List.getElem?_eq_getElem hk, hx]
        exact (trimL_snoc0 _).trans h2
      · have hb : (row[k] != 0) = true := bne_iff_ne.2 hx
        refine ⟨k + 1, by simp only [Option.bind_some, cond_true, hb], by omega, by omega, ?_⟩
        rw [show ((k : Int) + 1).toNat = k + 1 by omega, List.take_add_one, List.getElem?_eq_getElem hk]
        exact trimL_snoc _ hx
  rw [h1, Option.bind_some, cut_ok (by omega) h0 (by omega), Option.bind_some, app_ok (by simp; omega)]
  rw [List.take_length] at h3
  simp [← h3]
end Go.Proofs.YtklamaeccniblaaDoor
