/-
  EXPR, PLAIN PART 1: a parser over the bytes that are left; the two readings' spaces and numbers are its.
  Conditions: none.
-/
import Derived.Test.YtkhfdckieocciaaDoorSim4
import Derived.Test.YtkhfdckieocciaaDoorEngP
namespace Go.Proofs.YtkhfdckieocciaaDoor
open Go Go.Eng
set_option linter.unusedVariables false

def bs (s : ByteArray) : List Nat := s.data.toList.map UInt8.toNat
theorem bs_length (s : ByteArray) : (bs s).length = s.size := by
  unfold bs
  rw [List.length_map]
  rfl
/-- The place where so much is left. -/
def ps (s : ByteArray) (l : List Nat) : Int := ((s.size - l.length : Nat) : Int)
theorem suf_len {s : ByteArray} {l : List Nat} (h : l <:+ bs s) : l.length ≤ s.size := by rw [← bs_length]; exact h.length_le
theorem ps_nil (s : ByteArray) : ps s [] = ((s.size : Nat) : Int) := rfl
theorem ps_bs (s : ByteArray) : ps s (bs s) = 0 := by unfold ps; rw [bs_length]; simp
theorem ps_nn (s : ByteArray) (l : List Nat) : 0 ≤ ps s l := by unfold ps; omega
theorem ps_cons {s : ByteArray} {c : Nat} {l : List Nat} (h : (c :: l) <:+ bs s) (hm : s.size ≤ 1073741824) :
    ps s (c :: l) < ((s.size : Nat) : Int) ∧ ((UInt8.toNat (byteAt s (Int.toNat (ps s (c :: l)))) : Nat) : Int) = (c : Int) ∧ IntKind.wrap .i64 (ps s (c :: l) + 1) = ps s l ∧ l <:+ bs s ∧ c < 256 := by
  have hl := suf_len h
  obtain ⟨t, ht⟩ := h
  have e1 : t.length + (l.length + 1) = s.size := by rw [← bs_length, ← ht]; simp
  rw [List.length_cons] at hl
  have e2 : s.size - (c :: l).length = t.length := by rw [List.length_cons]; omega
  have hlt : t.length < s.data.toList.length := by
    have : s.data.toList.length = s.size := by rw [← bs_length]; simp [bs]
    omega
  have e3 : (bs s)[t.length]? = some c := by rw [← ht]; simp
  have e4 : UInt8.toNat (byteAt s t.length) = c := by
    unfold bs at e3
    rw [List.getElem?_map, List.getElem?_eq_getElem hlt] at e3
    unfold byteAt
    rw [List.getD_eq_getElem?_getD, List.getElem?_eq_getElem hlt]
    simpa using e3
  refine ⟨?_, ?_, ?_, ⟨t ++ [c], by rw [← ht]; simp⟩, by rw [← e4]; exact UInt8.toNat_lt _⟩
  · unfold ps; rw [e2]; omega
  · unfold ps; rw [e2, Int.toNat_natCast, e4]
  · unfold ps
    rw [e2, w64 (by omega) (by omega)]
    omega

/-! ## the parser -/
def isSp (c : Nat) : Bool := c == 32 || c == 9 || c == 10 || c == 13
def isDg (c : Nat) : Bool := Nat.ble 48 c && Nat.ble c 57
def begins (c : Nat) : Bool := c == 45 || c == 40 || c == 36 || c == 64 || isDg c
def skip : List Nat → List Nat
  | [] => []
  | c :: l => bif isSp c then skip l else c :: l
/-- What a reading comes to: something, and what is left; or what is wrong, and what is left there. -/
inductive Rd (α : Type) where
  | ok (x : α) (l : List Nat)
  | bad (code : Nat) (l : List Nat)
def numRaw : Nat → Nat → List Nat → Rd (Nat × Nat)
  | m, n, [] => .ok (m, n) []
  | m, n, c :: l => bif isDg c then (bif m == 18 then .bad 30 (c :: l) else numRaw (m + 1) (10 * n + (c - 48)) l) else .ok (m, n) (c :: l)
def num (l : List Nat) : Rd Nat := match numRaw 0 0 l with
  | .ok x l' => bif x.1 == 0 then .bad 30 l' else .ok x.2 l'
  | .bad c l' => .bad c l'
theorem skip_suf (l : List Nat) : skip l <:+ l := by
  induction l with
  | nil => exact List.suffix_refl _
  | cons c l ih =>
    unfold skip
    cases isSp c with
    | true => exact ih.trans (List.suffix_cons _ _)
    | false => exact List.suffix_refl _
theorem skip_hd {l : List Nat} {c : Nat} {r : List Nat} (h : skip l = c :: r) : isSp c = false := by
  induction l with
  | nil => cases h
  | cons d l ih =>
    unfold skip at h
    cases hd : isSp d with
    | true => rw [hd] at h; exact ih h
    | false => rw [hd] at h; cases h; exact hd
def hd0 : List Nat → Int
  | [] => 0
  | c :: _ => c
def hd1 : List Nat → Int
  | [] => -1
  | c :: _ => c

/-! ## spaces -/
theorem loop_step {σ β : Type} {s s' : σ} {f : σ → Option (Step σ β)} (h : f s = some (.next s')) : loop s f = loop s' f := by rw [loop_eq, h]; rfl
theorem loop_done {σ β : Type} {s : σ} {b : β} {f : σ → Option (Step σ β)} (h : f s = some (.done b)) : loop s f = some b := by rw [loop_eq, h]; rfl

theorem contains_sp (c : Nat) : slices_Contains_byte_byte_D ([(32 : Int), (9 : Int), (10 : Int), (13 : Int)] : List Int) ((c : Nat) : Int) = some (isSp c) := by
  unfold slices_Contains_byte_byte_D slices_Index_byte_byte_D forN
  rw [if_pos ⟨by decide, by decide⟩]
  have e : ((((List.length ([(32 : Int), (9 : Int), (10 : Int), (13 : Int)] : List Int) : Nat) : Int) - 0).toNat) = 4 := rfl
  rw [e]
  have hc : ∀ k : Nat, (((c : Nat) : Int) == (k : Int)) = (c == k) := fun k => by
    cases h : c == k with
    | true => have : c = k := by simpa using h
              subst this; simp
    | false => have : c ≠ k := by simpa using h
               simp; omega
  have h32 := hc 32; have h9 := hc 9; have h10 := hc 10; have h13 := hc 13
  unfold isSp
  simp only [forGo]
  rw [show idx ([(32 : Int), 9, 10, 13]) 0 = some 32 from rfl, show idx ([(32 : Int), 9, 10, 13]) (0 + 1) = some 9 from rfl, show idx ([(32 : Int), 9, 10, 13]) (0 + 1 + 1) = some 10 from rfl, show idx ([(32 : Int), 9, 10, 13]) (0 + 1 + 1 + 1) = some 13 from rfl]
  simp only [Option.bind_some]
  simp only [show ((32 : Nat) : Int) = 32 from rfl, show ((9 : Nat) : Int) = 9 from rfl, show ((10 : Nat) : Int) = 10 from rfl, show ((13 : Nat) : Int) = 13 from rfl] at h32 h9 h10 h13
  rw [h32, h9, h10, h13]
  cases c == 32 <;> cases c == 9 <;> cases c == 10 <;> cases c == 13 <;> rfl

theorem now_ok {s : ByteArray} {l : List Nat} {d : Int} (hl : l <:+ bs s) (hm : s.size ≤ 1073741824) : expr_reader_now_D (s, ps s l, d) = some (hd0 (skip l), (s, ps s (skip l), d)) := by
  unfold expr_reader_now_D
  refine (bind_some' (x := (s, ps s (skip l), d)) ?_ _).trans ?_
  · induction l with
    | nil =>
      refine loop_done ?_
      dsimp only
      rw [decide_eq_false (by rw [ps_nil]; omega)]
      rfl
    | cons c l ih =>
      obtain ⟨h1, h2, h3, h4, h5⟩ := ps_cons hl hm
      unfold skip
      cases hc : isSp c with
      | true =>
        refine (loop_step (s' := (s, ps s l, d)) ?_).trans (ih h4)
        dsimp only
        rw [decide_eq_true h1, cond_true, need_ok ⟨ps_nn _ _, h1⟩, h2, contains_sp, hc, h3]
        rfl
      | false =>
        refine loop_done ?_
        dsimp only
        rw [decide_eq_true h1, cond_true, need_ok ⟨ps_nn _ _, h1⟩, h2, contains_sp, hc]
        rfl
  · dsimp only
    have hs : skip l <:+ bs s := (skip_suf l).trans hl
    cases hk : skip l with
    | nil =>
      rw [decide_eq_true (by rw [ps_nil]; omega)]
      rfl
    | cons c r =>
      rw [hk] at hs
      obtain ⟨h1, h2, h3, h4, h5⟩ := ps_cons hs hm
      rw [decide_eq_false (by omega), cond_false, need_ok ⟨ps_nn _ _, h1⟩, h2]
      rfl
theorem eqN (c k : Nat) : (((c : Nat) : Int) == ((k : Nat) : Int)) = (c == k) := by
  cases h : c == k with
  | true => have : c = k := by simpa using h
            subst this; simp
  | false => have : c ≠ k := by simpa using h
             simp; omega
theorem rnow_ok {s : ByteArray} {l : List Nat} {d e b : Int} (hl : l <:+ bs s) (hm : s.size ≤ 1073741824) : tronageref20_Reader_now_D (s, ps s l, d, e, b) = some (hd1 (skip l), (s, ps s (skip l), d, e, b)) := by
  unfold tronageref20_Reader_now_D
  refine (bind_some' (x := (s, ps s (skip l), d, e, b)) ?_ _).trans ?_
  · induction l with
    | nil =>
      refine loop_done ?_
      dsimp only
      rw [decide_eq_false (by rw [ps_nil]; omega)]
      rfl
    | cons c l ih =>
      obtain ⟨h1, h2, h3, h4, h5⟩ := ps_cons hl hm
      have q32 := eqN c 32
      have q9 := eqN c 9
      have q10 := eqN c 10
      have q13 := eqN c 13
      simp only [show ((32 : Nat) : Int) = 32 from rfl, show ((9 : Nat) : Int) = 9 from rfl, show ((10 : Nat) : Int) = 10 from rfl, show ((13 : Nat) : Int) = 13 from rfl] at q32 q9 q10 q13
      unfold skip
      cases hc : isSp c with
      | true =>
        refine (loop_step (s' := (s, ps s l, d, e, b)) ?_).trans (ih h4)
        dsimp only
        rw [decide_eq_true h1, cond_true]
        simp only [need_ok (show 0 ≤ ps s (c :: l) ∧ ps s (c :: l) < ((s.size : Nat) : Int) from ⟨ps_nn _ _, h1⟩), h2, h3, q32, q9, q10, q13]
        unfold isSp at hc
        revert hc
        cases c == 32 <;> cases c == 9 <;> cases c == 10 <;> cases c == 13 <;> intro hc <;> first | rfl | cases hc
      | false =>
        refine loop_done ?_
        dsimp only
        rw [decide_eq_true h1, cond_true]
        simp only [need_ok (show 0 ≤ ps s (c :: l) ∧ ps s (c :: l) < ((s.size : Nat) : Int) from ⟨ps_nn _ _, h1⟩), h2, h3, q32, q9, q10, q13]
        unfold isSp at hc
        revert hc
        cases c == 32 <;> cases c == 9 <;> cases c == 10 <;> cases c == 13 <;> intro hc <;> first | rfl | cases hc
  · dsimp only
    have hs : skip l <:+ bs s := (skip_suf l).trans hl
    cases hk : skip l with
    | nil =>
      rw [decide_eq_false (by rw [ps_nil]; omega)]
      rfl
    | cons c r =>
      rw [hk] at hs
      obtain ⟨h1, h2, h3, h4, h5⟩ := ps_cons hs hm
      rw [decide_eq_true h1, cond_true, need_ok ⟨ps_nn _ _, h1⟩, h2, w64 (by omega) (by omega)]
      rfl

/-! ## numbers -/
theorem numRaw_suf : ∀ (l : List Nat) (m n : Nat), (match numRaw m n l with | .ok _ l' => l' | .bad _ l' => l') <:+ l := by
  intro l
  induction l with
  | nil => intro m n; exact List.suffix_refl _
  | cons c l ih =>
    intro m n
    unfold numRaw
    cases isDg c with
    | true =>
      cases m == 18 with
      | true => exact List.suffix_refl _
      | false => exact (ih (m + 1) (10 * n + (c - 48))).trans (List.suffix_cons _ _)
    | false => exact List.suffix_refl _
theorem w8 {n : Int} (h0 : 0 ≤ n) (h1 : n ≤ 255) : IntKind.wrap .u8 n = n := by
  unfold IntKind.wrap
  simp only [IntKind.bits, IntKind.signed]
  have : n % 256 = n := by omega
  simp
  omega
theorem dg_dec (c : Nat) : (cond (decide (((c : Nat) : Int) ≥ (48 : Int))) (some (decide (((c : Nat) : Int) ≤ (57 : Int)))) (some false)) = some (isDg c) := by
  unfold isDg
  cases h1 : Nat.ble 48 c with
  | true =>
    have h1' := Nat.le_of_ble_eq_true h1
    rw [decide_eq_true (by omega)]
    cases h2 : Nat.ble c 57 with
    | true =>
      have h2' := Nat.le_of_ble_eq_true h2
      rw [decide_eq_true (by omega)]; rfl
    | false =>
      have h2' : ¬ c ≤ 57 := fun h => by rw [Nat.ble_eq_true_of_le h] at h2; cases h2
      rw [decide_eq_false (by omega)]; rfl
  | false =>
    have h1' : ¬ 48 ≤ c := fun h => by rw [Nat.ble_eq_true_of_le h] at h1; cases h1
    rw [decide_eq_false (by omega)]; rfl
theorem dg_bound {c : Nat} (h : isDg c = true) : 48 ≤ c ∧ c ≤ 57 := by
  unfold isDg at h
  rw [Bool.and_eq_true] at h
  exact ⟨Nat.le_of_ble_eq_true h.1, Nat.le_of_ble_eq_true h.2⟩
theorem dig_add {m n c : Nat} (hm : m < 18) (hn : n < 10 ^ m) (hc : 48 ≤ c ∧ c ≤ 57) :
    IntKind.wrap .i64 (IntKind.wrap .i64 ((10 : Int) * (n : Int)) + IntKind.wrap .i64 (IntKind.wrap .u8 ((c : Int) - 48))) = ((10 * n + (c - 48) : Nat) : Int) ∧ 10 * n + (c - 48) < 10 ^ (m + 1) := by
  have h1 : 10 ^ m ≤ 10 ^ 17 := Nat.pow_le_pow_right (by decide) (by omega)
  have h2 : (10 : Nat) ^ (m + 1) = 10 * 10 ^ m := by rw [Nat.pow_succ]; omega
  have h3 : (10 : Nat) ^ 17 = 100000000000000000 := by decide
  rw [w8 (by omega) (by omega), w64 (n := 10 * (n : Int)) (by omega) (by omega), w64 (n := (c : Int) - 48) (by omega) (by omega), w64 (by omega) (by omega)]
  constructor <;> omega
def lft (s : ByteArray) (d : Int) : Rd (Nat × Nat) → Step (Int × Int × (ByteArray × Int × Int)) (Int × Int)
  | .ok x l => .next ((x.1 : Int), (x.2 : Int), (s, ps s l, d))
  | .bad c l => .done ((c : Int), ps s l)
theorem number_ok {s : ByteArray} {l : List Nat} {d : Int} (hl : l <:+ bs s) (hm : s.size ≤ 1073741824) : expr_reader_number_D (s, ps s l, d) =
    some (match num l with | .ok n l' => Step.next ((n : Int), (s, ps s l', d)) | .bad c l' => Step.done ((c : Int), ps s l')) := by
  unfold expr_reader_number_D
  refine (bind_some' (x := lft s d (numRaw 0 0 l)) ?_ _).trans ?_
  · have key : ∀ (l : List Nat) (m n : Nat), l <:+ bs s → m ≤ 18 → n < 10 ^ m → loop (σ := (Int × Int × (ByteArray × Int × Int))) (β := Step (Int × Int × (ByteArray × Int × Int)) (Int × Int)) ((m : Int), (n : Int), (s, ps s l, d)) (fun z2 =>
        (cond (decide ((z2.2.2.2.1) < ((ByteArray.size (z2.2.2.1) : Nat) : Int)))
        (need (0 ≤ (z2.2.2.2.1) ∧ (z2.2.2.2.1) < (ByteArray.size (z2.2.2.1) : Nat)) <|
          cond (decide (((UInt8.toNat (byteAt (z2.2.2.1) (Int.toNat (z2.2.2.2.1))) : Nat) : Int) ≥ (48 : Int)))
          (need (0 ≤ (z2.2.2.2.1) ∧ (z2.2.2.2.1) < (ByteArray.size (z2.2.2.1) : Nat)) <|
            some (decide (((UInt8.toNat (byteAt (z2.2.2.1) (Int.toNat (z2.2.2.2.1))) : Nat) : Int) ≤ (57 : Int))))
          (some false))
        (some false)).bind fun z3 =>
        cond z3
        (((cond (decide ((IntKind.wrap .i64 (z2.1 + (1 : Int))) > (18 : Int)))
          ((expr_reader_fail_D z2.2.2 (30 : Int)).bind fun e_t17 => match e_t17 with
            | .next t17 =>
              some (Step.next ())
            | .done p_t17 => some (Step.done p_t17))
          (some (Step.next ()))) : Option (Step Unit (Int × Int))).bind fun e_z16 => match e_z16 with
          | .next z16 =>
            need (0 ≤ (z2.2.2.2.1) ∧ (z2.2.2.2.1) < (ByteArray.size (z2.2.2.1) : Nat)) <|
            some (Step.next ((IntKind.wrap .i64 (z2.1 + (1 : Int))), (IntKind.wrap .i64 ((IntKind.wrap .i64 ((10 : Int) * z2.2.1)) + (IntKind.wrap .i64 (IntKind.wrap .u8 (((UInt8.toNat (byteAt (z2.2.2.1) (Int.toNat (z2.2.2.2.1))) : Nat) : Int) - (48 : Int)))))), ((z2.2.2.1), (IntKind.wrap .i64 ((z2.2.2.2.1) + (1 : Int))), (z2.2.2.2.2))))
          | .done q118 => some (Step.done (Step.done q118)))
        (some (Step.done (Step.next (z2.1, z2.2.1, z2.2.2))))) = some (lft s d (numRaw m n l)) := by
      intro l
      induction l with
      | nil =>
        intro m n hl _ _
        refine loop_done ?_
        dsimp only
        rw [decide_eq_false (by rw [ps_nil]; omega)]
        rfl
      | cons c l ih =>
        intro m n hl hm18 hn
        obtain ⟨h1, h2, h3, h4, h5⟩ := ps_cons hl hm
        unfold numRaw
        have hb : 0 ≤ ps s (c :: l) ∧ ps s (c :: l) < ((s.size : Nat) : Int) := ⟨ps_nn _ _, h1⟩
        cases hc : isDg c with
        | true =>
          have hcb := dg_bound hc
          cases h18 : m == 18 with
          | true =>
            have : m = 18 := by simpa using h18
            subst this
            refine loop_done ?_
            dsimp only
            rw [decide_eq_true h1, cond_true]
            simp only [need_ok hb, h2]
            rw [dg_dec, hc]
            rfl
          | false =>
            have hm' : m < 18 := by have : m ≠ 18 := by simpa using h18
                                    omega
            obtain ⟨g1, g2⟩ := dig_add hm' hn hcb
            refine (loop_step (s' := (((m + 1 : Nat) : Int), ((10 * n + (c - 48) : Nat) : Int), (s, ps s l, d))) ?_).trans (ih (m + 1) _ h4 (by omega) g2)
            dsimp only
            rw [decide_eq_true h1, cond_true]
            simp only [need_ok hb, h2]
            rw [dg_dec, hc]
            simp only [Option.bind_some, cond_true]
            rw [w64 (by omega) (by omega), decide_eq_false (by omega), cond_false, Option.bind_some]
            dsimp only
            rw [g1, h3]
            rfl
        | false =>
          refine loop_done ?_
          dsimp only
          rw [decide_eq_true h1, cond_true]
          simp only [need_ok hb, h2]
          rw [dg_dec, hc]
          rfl
    exact key l 0 0 hl (by decide) (by decide)
  · unfold num
    cases hr : numRaw 0 0 l with
    | bad c l' => rfl
    | ok x l' =>
      obtain ⟨m, n⟩ := x
      dsimp only [lft]
      have e : (((m : Nat) : Int) == (0 : Int)) = (m == 0) := eqN m 0
      rw [e]
      cases m == 0 <;> rfl

abbrev RSt := ByteArray × Int × Int × Int × Int
def rlft (s : ByteArray) (d b : Int) : Rd (Nat × Nat) → Step (Int × Int × RSt) (Int × RSt)
  | .ok x l => .next ((x.1 : Int), (x.2 : Int), (s, ps s l, d, 0, b))
  | .bad c l => .done (0, (s, ps s l, d, (c : Int), ps s l))
theorem rfail_ok {s : ByteArray} {a d b c : Int} : tronageref20_Reader_fail_D (s, a, d, 0, b) c = some (s, a, d, c, a) := rfl
theorem rnumber_ok {s : ByteArray} {l : List Nat} {d b : Int} (hl : l <:+ bs s) (hm : s.size ≤ 1073741824) : tronageref20_Reader_number_D (s, ps s l, d, 0, b) =
    some (match num l with | .ok n l' => ((n : Int), (s, ps s l', d, 0, b)) | .bad c l' => (0, (s, ps s l', d, (c : Int), ps s l'))) := by
  unfold tronageref20_Reader_number_D
  have hz : ∀ (l : List Nat) (m n : Nat), (m = 0 → n = 0) → match numRaw m n l with | .ok x _ => (x.1 = 0 → x.2 = 0) | .bad _ _ => True := by
    intro l
    induction l with
    | nil => intro m n h; exact h
    | cons c l ih =>
      intro m n h
      unfold numRaw
      cases isDg c with
      | true =>
        cases m == 18 with
        | true => exact trivial
        | false => exact ih (m + 1) _ (fun h => by omega)
      | false => exact h
  refine (bind_some' (x := rlft s d b (numRaw 0 0 l)) ?_ _).trans ?_
  · have key : ∀ (l : List Nat) (m n : Nat), l <:+ bs s → m ≤ 18 → n < 10 ^ m → loop (σ := (Int × Int × (ByteArray × Int × Int × Int × Int))) (β := Step (Int × Int × (ByteArray × Int × Int × Int × Int)) (Int × (ByteArray × Int × Int × Int × Int))) ((m : Int), (n : Int), (s, ps s l, d, 0, b)) (fun z2 =>
        (cond (decide ((z2.2.2.2.1) < ((ByteArray.size (z2.2.2.1) : Nat) : Int)))
        (need (0 ≤ (z2.2.2.2.1) ∧ (z2.2.2.2.1) < (ByteArray.size (z2.2.2.1) : Nat)) <|
          cond (decide (((UInt8.toNat (byteAt (z2.2.2.1) (Int.toNat (z2.2.2.2.1))) : Nat) : Int) ≥ (48 : Int)))
          (need (0 ≤ (z2.2.2.2.1) ∧ (z2.2.2.2.1) < (ByteArray.size (z2.2.2.1) : Nat)) <|
            some (decide (((UInt8.toNat (byteAt (z2.2.2.1) (Int.toNat (z2.2.2.2.1))) : Nat) : Int) ≤ (57 : Int))))
          (some false))
        (some false)).bind fun z3 =>
        cond z3
        (cond (z2.1 == (18 : Int))
          ((tronageref20_Reader_fail_D z2.2.2 (30 : Int)).bind fun t16 =>
            some (Step.done (Step.done ((0 : Int), t16))))
          (need (0 ≤ (z2.2.2.2.1) ∧ (z2.2.2.2.1) < (ByteArray.size (z2.2.2.1) : Nat)) <|
            some (Step.next ((IntKind.wrap .i64 (z2.1 + (1 : Int))), (IntKind.wrap .i64 ((IntKind.wrap .i64 ((10 : Int) * z2.2.1)) + (IntKind.wrap .i64 (IntKind.wrap .u8 (((UInt8.toNat (byteAt (z2.2.2.1) (Int.toNat (z2.2.2.2.1))) : Nat) : Int) - (48 : Int)))))), ((z2.2.2.1), (IntKind.wrap .i64 ((z2.2.2.2.1) + (1 : Int))), (z2.2.2.2.2.1), (z2.2.2.2.2.2.1), (z2.2.2.2.2.2.2))))))
        (some (Step.done (Step.next (z2.1, z2.2.1, z2.2.2))))) = some (rlft s d b (numRaw m n l)) := by
      intro l
      induction l with
      | nil =>
        intro m n hl _ _
        refine loop_done ?_
        dsimp only
        rw [decide_eq_false (by rw [ps_nil]; omega)]
        rfl
      | cons c l ih =>
        intro m n hl hm18 hn
        obtain ⟨h1, h2, h3, h4, h5⟩ := ps_cons hl hm
        unfold numRaw
        have hb : 0 ≤ ps s (c :: l) ∧ ps s (c :: l) < ((s.size : Nat) : Int) := ⟨ps_nn _ _, h1⟩
        have e18 : (((m : Nat) : Int) == (18 : Int)) = (m == 18) := eqN m 18
        cases hc : isDg c with
        | true =>
          have hcb := dg_bound hc
          cases h18 : m == 18 with
          | true =>
            refine loop_done ?_
            dsimp only
            rw [decide_eq_true h1, cond_true]
            simp only [need_ok hb, h2]
            rw [dg_dec, hc]
            simp only [Option.bind_some, cond_true]
            rw [e18, h18]
            rfl
          | false =>
            have hm' : m < 18 := by have : m ≠ 18 := by simpa using h18
                                    omega
            obtain ⟨g1, g2⟩ := dig_add hm' hn hcb
            refine (loop_step (s' := (((m + 1 : Nat) : Int), ((10 * n + (c - 48) : Nat) : Int), (s, ps s l, d, 0, b))) ?_).trans (ih (m + 1) _ h4 (by omega) g2)
            dsimp only
            rw [decide_eq_true h1, cond_true]
            simp only [need_ok hb, h2]
            rw [dg_dec, hc]
            simp only [Option.bind_some, cond_true]
            rw [e18, h18, cond_false, w64 (n := (m : Int) + 1) (by omega) (by omega), g1, h3]
            rfl
        | false =>
          refine loop_done ?_
          dsimp only
          rw [decide_eq_true h1, cond_true]
          simp only [need_ok hb, h2]
          rw [dg_dec, hc]
          rfl
    exact key l 0 0 hl (by decide) (by decide)
  · have hz := hz l 0 0 (fun _ => rfl)
    unfold num
    cases hr : numRaw 0 0 l with
    | bad c l' => rfl
    | ok x l' =>
      obtain ⟨m, n⟩ := x
      rw [hr] at hz
      dsimp only [rlft]
      have e : (((m : Nat) : Int) == (0 : Int)) = (m == 0) := eqN m 0
      rw [e]
      cases hm0 : m == 0 with
      | true =>
        have : n = 0 := hz (by simpa using hm0)
        subst this
        rfl
      | false => rfl
end Go.Proofs.YtkhfdckieocciaaDoor
