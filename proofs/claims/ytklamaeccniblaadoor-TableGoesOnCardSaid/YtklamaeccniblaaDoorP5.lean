/-
  TABLE, PLAIN 5: what packing keeps.
  Conditions: none.
-/
import Derived.Test.YtklamaeccniblaaDoorP4
namespace Go.Proofs.YtklamaeccniblaaDoor
open Go Go.Eng
set_option linter.unusedVariables false

theorem nz_zeros (l : List Int) (n : Nat) : nz (l ++ List.replicate n 0) = nz l := by
  induction n with
  | zero => simp
  | succ n ih => rw [List.replicate_succ', ← List.append_assoc, nz_snoc, if_pos rfl, ih, Nat.add_zero]
theorem nz_set {l : List Int} {k : Nat} {x : Int} (hk : k < l.length) (h0 : l[k] = 0) (hx : x ≠ 0) : nz (l.set k x) = nz l + 1 := by
  have e : l = l.take k ++ l[k] :: l.drop (k + 1) := by simp
  have e2 : l.set k x = l.take k ++ x :: l.drop (k + 1) := by
    rw [List.set_eq_take_append_cons_drop, if_pos hk]
  rw [e2]
  conv => rhs; rw [e]
  unfold nz
  rw [List.countP_append, List.countP_append, List.countP_cons, List.countP_cons, h0]
  simp [hx]
  omega
theorem nz_setPad {l : List Int} {k : Nat} {x : Int} (h0 : getO l k = 0) (hx : x ≠ 0) : nz (setPad l k x) = nz l + 1 := by
  unfold setPad
  have hk : k < (l ++ List.replicate (k + 1 - l.length) 0).length := by simp; omega
  rw [nz_set hk ?_ hx, nz_zeros]
  rcases Nat.lt_or_ge k l.length with g | g
  · rw [List.getElem_append_left g]; rw [getO_get g] at h0; exact h0
  · rw [List.getElem_append_right g]; simp
def lastOk (n : List Int) : Prop := n = [] ∨ getO n (n.length - 1) ≠ 0
/-- What a row's laying does. -/
theorem layK_ok {row : List Int} {a : Nat} {id : Int} {n o : List Int} (hid : id ≠ 0) (hl : n.length = o.length) (hf : freeB row a o = true) (hlast : lastOk n) : ∀ k, k ≤ row.length →
    (∀ j, getO (layK row a id (n, o) k).2 j = if a ≤ j ∧ j - a < k ∧ getO row (j - a) ≠ 0 then id else getO o j) ∧
    (∀ j, getO (layK row a id (n, o) k).1 j = if a ≤ j ∧ j - a < k ∧ getO row (j - a) ≠ 0 then getO row (j - a) else getO n j) ∧
    nz (layK row a id (n, o) k).2 = nz o + nz (row.take k) ∧ lastOk (layK row a id (n, o) k).1 := by
  intro k
  induction k with
  | zero =>
    intro _
    refine ⟨fun j => ?_, fun j => ?_, ?_, hlast⟩
    · rw [if_neg (by omega)]; rfl
    · rw [if_neg (by omega)]; rfl
    · simp [layK, nz]
  | succ k ih =>
    intro hk
    obtain ⟨h1, h2, h3, h4⟩ := ih (by omega)
    have hlen := layK_len (row := row) (a := a) (id := id) (s := (n, o)) hl k
    rw [layK_succ, take_snoc (show k < row.length by omega), nz_snoc]
    generalize layK row a id (n, o) k = s at h1 h2 h3 h4 hlen
    obtain ⟨n', o'⟩ := s
    dsimp only at h1 h2 h3 h4 hlen
    unfold lay1
    have hrk : getO row k = row[k] := getO_get (by omega)
    by_cases hx : row[k] = 0
    · rw [hrk, if_pos hx, if_pos hx]
      refine ⟨fun j => ?_, fun j => ?_, by omega, h4⟩
      · rw [h1]
        by_cases hj : j - a = k
        · rw [if_neg (by omega), if_neg (by rw [hj, hrk]; intro g; exact g.2.2 hx)]
        · by_cases hc : a ≤ j ∧ j - a < k ∧ getO row (j - a) ≠ 0
          · rw [if_pos hc, if_pos ⟨hc.1, by omega, hc.2.2⟩]
          · rw [if_neg hc, if_neg (fun g => hc ⟨g.1, by omega, g.2.2⟩)]
      · rw [h2]
        by_cases hj : j - a = k
        · rw [if_neg (by omega), if_neg (by rw [hj, hrk]; intro g; exact g.2.2 hx)]
        · by_cases hc : a ≤ j ∧ j - a < k ∧ getO row (j - a) ≠ 0
          · rw [if_pos hc, if_pos ⟨hc.1, by omega, hc.2.2⟩]
          · rw [if_neg hc, if_neg (fun g => hc ⟨g.1, by omega, g.2.2⟩)]
    · rw [hrk, if_neg hx, if_neg hx]
      have hfree : getO o' (a + k) = 0 := by
        rw [h1, if_neg (by omega)]
        exact freeB_iff.1 hf k (by omega) (by rw [hrk]; exact hx)
      refine ⟨fun j => ?_, fun j => ?_, ?_, ?_⟩
      · dsimp only
        rw [getO_setPad, h1]
        by_cases hj : j = a + k
        · subst hj
          rw [if_pos rfl, if_pos ⟨by omega, by omega, by rw [show a + k - a = k by omega, hrk]; exact hx⟩]
        · rw [if_neg hj]
          by_cases hc : a ≤ j ∧ j - a < k ∧ getO row (j - a) ≠ 0
          · rw [if_pos hc, if_pos ⟨hc.1, by omega, hc.2.2⟩]
          · rw [if_neg hc, if_neg (fun g => hc ⟨g.1, by omega, g.2.2⟩)]
      · dsimp only
        rw [getO_setPad, h2]
        by_cases hj : j = a + k
        · subst hj
          rw [if_pos rfl, if_pos ⟨by omega, by omega, by rw [show a + k - a = k by omega, hrk]; exact hx⟩, show a + k - a = k by omega, hrk]
        · rw [if_neg hj]
          by_cases hc : a ≤ j ∧ j - a < k ∧ getO row (j - a) ≠ 0
          · rw [if_pos hc, if_pos ⟨hc.1, by omega, hc.2.2⟩]
          · rw [if_neg hc, if_neg (fun g => hc ⟨g.1, by omega, g.2.2⟩)]
      · dsimp only
        rw [nz_setPad hfree hid, h3]; omega
      · dsimp only
        right
        rw [setPad_len, getO_setPad]
        by_cases hc : n'.length ≤ a + k + 1
        · rw [if_pos (by omega)]; exact hx
        · rw [if_neg (by omega)]
          rcases h4 with h4 | h4
          · rw [h4] at hc; simp at hc
          · rw [show max n'.length (a + k + 1) - 1 = n'.length - 1 by omega]; exact h4
theorem layG_ok {row : List Int} {a : Nat} {id : Int} {n o : List Int} (hid : id ≠ 0) (hl : n.length = o.length) (hf : freeB row a o = true) (hlast : lastOk n) :
    (∀ j, getO (layG row a id (n, o)).2 j = if a ≤ j ∧ j - a < row.length ∧ getO row (j - a) ≠ 0 then id else getO o j) ∧
    (∀ j, getO (layG row a id (n, o)).1 j = if a ≤ j ∧ j - a < row.length ∧ getO row (j - a) ≠ 0 then getO row (j - a) else getO n j) ∧
    nz (layG row a id (n, o)).2 = nz o + nz row ∧ lastOk (layG row a id (n, o)).1 := by
  have := layK_ok hid hl hf hlast row.length (Nat.le_refl _)
  rw [List.take_length] at this
  exact this

structure PackOk (out : List (List Int)) (s : List Int × List Int × List Int) : Prop where
  len : s.1.length = out.length
  eq : s.2.1.length = s.2.2.length
  row : ∀ (i : Nat) (r : List Int), out[i]? = some r → ∃ p : Nat, s.1[i]? = some (p : Int) ∧ (∀ c, c < r.length → getO r c ≠ 0 → getO s.2.2 (p + c) = i + 1 ∧ getO s.2.1 (p + c) = getO r c) ∧
    ∀ b, b < p → ∃ c, c < r.length ∧ getO r c ≠ 0 ∧ 1 ≤ getO s.2.2 (b + c) ∧ getO s.2.2 (b + c) ≤ i
  rng : ∀ k, 0 ≤ getO s.2.2 k ∧ getO s.2.2 k ≤ out.length
  zero : ∀ k, getO s.2.2 k = 0 ↔ getO s.2.1 k = 0
  cnt : nz s.2.2 = dense out
  last : lastOk s.2.1
theorem packStep_ok {out : List (List Int)} {s : List Int × List Int × List Int} {row : List Int} (H : PackOk out s) : PackOk (out ++ [row]) (packStep s row) ∧
    (∀ k, getO s.2.2 k ≠ 0 → getO (packStep s row).2.2 k = getO s.2.2 k ∧ getO (packStep s row).2.1 k = getO s.2.1 k) ∧ s.2.1.length ≤ (packStep s row).2.1.length := by
  obtain ⟨pl, n, o⟩ := s
  obtain ⟨h1, h2, h3, h4, h5, h6, h7⟩ := H
  dsimp only at h1 h2 h3 h4 h5 h6 h7
  obtain ⟨f1, f2, f3⟩ := fitL_ok row o
  unfold packStep
  dsimp only
  have hlen := layK_len (row := row) (a := fitL row o) (id := (pl.length : Int) + 1) (s := (n, o)) h2 row.length
  obtain ⟨g1, g2, g3, g4⟩ := layG_ok (id := (pl.length : Int) + 1) (by omega) h2 f1 h7
  unfold layG at g1 g2 g3 g4 ⊢
  unfold layK at hlen
  generalize (List.range row.length).foldl (lay1 row (fitL row o) ((pl.length : Int) + 1)) (n, o) = s at hlen g1 g2 g3 g4
  obtain ⟨n', o'⟩ := s
  dsimp only at hlen g1 g2 g3 g4 ⊢
  have hfree := freeB_iff.1 f1
  have keep : ∀ k, getO o k ≠ 0 → getO o' k = getO o k ∧ getO n' k = getO n k := fun k hk => by
    have hc : ¬ (fitL row o ≤ k ∧ k - fitL row o < row.length ∧ getO row (k - fitL row o) ≠ 0) := fun ⟨a1, a2, a3⟩ => by
      have := hfree _ a2 a3
      rw [show fitL row o + (k - fitL row o) = k by omega] at this
      exact hk this
    rw [g1, g2, if_neg hc, if_neg hc]
    exact ⟨rfl, rfl⟩
  refine ⟨⟨by simp [h1], hlen.1, fun i r hr => ?_, fun k => ?_, fun k => ?_, by rw [g3, h6, dense_snoc], g4⟩, keep, hlen.2.2⟩
  · dsimp only
    rcases Nat.lt_or_ge i out.length with g | g
    · rw [List.getElem?_append_left g] at hr
      obtain ⟨p, e1, e2, e3⟩ := h3 i r hr
      refine ⟨p, by rw [List.getElem?_append_left (by omega)]; exact e1, fun c hc hne => ?_, fun b hb => ?_⟩
      · obtain ⟨q1, q2⟩ := e2 c hc hne
        obtain ⟨k1, k2⟩ := keep (p + c) (by omega)
        rw [k1, k2]; exact ⟨q1, q2⟩
      · obtain ⟨c, q1, q2, q3, q4⟩ := e3 b hb
        obtain ⟨k1, _⟩ := keep (b + c) (by omega)
        exact ⟨c, q1, q2, by rw [k1]; exact q3, by rw [k1]; exact q4⟩
    · rw [List.getElem?_append_right g] at hr
      have hi : i = out.length := by
        rcases Nat.eq_zero_or_pos (i - out.length) with g | g
        · omega
        · rw [List.getElem?_eq_none (by simp; omega)] at hr; cases hr
      subst hi
      rw [Nat.sub_self] at hr
      simp at hr; subst hr
      refine ⟨fitL row o, by rw [List.getElem?_append_right (by omega), ← h1, Nat.sub_self]; rfl, fun c hc hne => ?_, fun b hb => ?_⟩
      · have hcc : fitL row o ≤ fitL row o + c ∧ fitL row o + c - fitL row o < row.length ∧ getO row (fitL row o + c - fitL row o) ≠ 0 := by
          rw [show fitL row o + c - fitL row o = c by omega]; exact ⟨by omega, hc, hne⟩
        rw [g1, g2, if_pos hcc, if_pos hcc, show fitL row o + c - fitL row o = c by omega, h1]
        exact ⟨rfl, rfl⟩
      · obtain ⟨c, q1, q2, q3⟩ := freeB_false (f3 b hb)
        obtain ⟨k1, _⟩ := keep (b + c) q3
        have := h4 (b + c)
        exact ⟨c, q1, q2, by rw [k1]; omega, by rw [k1]; omega⟩
  · dsimp only
    have := h4 k
    rw [g1, List.length_append]
    split
    · simp; omega
    · simp; omega
  · dsimp only
    rw [g1, g2]
    split
    · rename_i hc
      constructor
      · intro h; omega
      · intro h; exact absurd h hc.2.2
    · exact h5 k
theorem packT_ok (out : List (List Int)) : PackOk out (packT out) := by
  refine snoc_ind (P := fun out => PackOk out (packT out)) ?_ (fun out row ih => ?_) out
  · refine ⟨rfl, rfl, fun i r h => by simp at h, fun k => ?_, fun k => ?_, rfl, .inl rfl⟩
    · show 0 ≤ getO [] k ∧ getO [] k ≤ _
      rw [getO_ge (Nat.zero_le _)]; simp
    · exact Iff.rfl
  · rw [packT_snoc]
    exact (packStep_ok ih).1
theorem out_at {ts : List (List Int)} {p : List Int × List (List Int)} (h : ShareOk ts p) {i : Nat} (hi : i < ts.length) : ∃ k : Nat, p.1[i]? = some (k : Int) ∧ p.2[k]? = some ts[i] ∧ k < p.2.length := by
  obtain ⟨k, e1, e2⟩ := h.ids i _ (List.getElem?_eq_getElem hi)
  refine ⟨k, e1, e2, ?_⟩
  rcases Nat.lt_or_ge k p.2.length with g | g
  · exact g
  · rw [List.getElem?_eq_none g] at e2; cases e2
theorem trimL_get (row : List Int) (c : Nat) : getO (trimL row) c = getO row c := by
  have : ∀ (l : List Int) (c : Nat), getO (trimL l) c = getO l c := by
    intro l
    refine snoc_ind (P := fun l : List Int => ∀ c, getO (trimL l) c = getO l c) (fun c => rfl) (fun l x ih c => ?_) l
    by_cases hx : x = 0
    · subst hx
      rw [trimL_snoc0, ih]
      unfold getO
      rw [List.getD_eq_getElem?_getD, List.getD_eq_getElem?_getD]
      rcases Nat.lt_or_ge c l.length with g | g
      · rw [List.getElem?_append_left g]
      · rw [List.getElem?_append_right g, List.getElem?_eq_none g]
        cases c - l.length <;> rfl
    · rw [trimL_snoc _ hx]
  exact this row c
end Go.Proofs.YtklamaeccniblaaDoor
