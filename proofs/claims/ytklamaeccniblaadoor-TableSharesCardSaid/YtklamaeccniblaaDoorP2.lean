/-
  TABLE, PLAIN 2: equal lists; which rows are the same.
  Conditions: few rows of few numbers of 64 bits.
-/
import Derived.Test.YtklamaeccniblaaDoorP1
namespace Go.Proofs.YtklamaeccniblaaDoor
open Go Go.Eng
set_option linter.unusedVariables false

theorem Ints_D {a b : List Int} (ha : a.length ≤ 1000000000) : tronageref01_Ints_D a b = some (decide (a = b)) := by
  unfold tronageref01_Ints_D
  by_cases hl : a.length = b.length
  · have h1 : (((a.length : Nat) : Int) != ((b.length : Nat) : Int)) = false := by rw [hl]; simp
    rw [h1, cond_false]
    rcases forN_inv (σ := Unit) (β := Bool) (n := a.length) (f := fun i_z2 z2 => (idx a i_z2).bind fun e25 => (idx b i_z2).bind fun e34 => cond (e25 != e34) (some (Step.done false)) (some (Step.next ())))
      (fun k _ => ∀ j, j < k → a[j]? = b[j]?) (fun r => r = false ∧ a ≠ b) (by omega) (s := ()) (fun j hj => by omega) (fun k s hk hI => by
        rw [bind_some' (idx_lt hk), bind_some' (idx_lt (by omega : k < b.length))]
        by_cases hx : a[k] = b[k]
        · left
          have hb : (a[k] != b[k]) = false := by rw [hx]; simp
          refine ⟨(), by rw [hb]; rfl, fun j hj => ?_⟩
          by_cases hjk : j = k
          · subst hjk; rw [List.getElem?_eq_getElem hk, List.getElem?_eq_getElem (by omega), hx]
          · exact hI j (by omega)
        · right
          have hb : (a[k] != b[k]) = true := bne_iff_ne.2 hx
          exact ⟨false, by rw [hb]; rfl, rfl, fun e => hx (by subst e; rfl)⟩) with ⟨s, h2, h3⟩ | ⟨r, h2, rfl, h3⟩
    · rw [h2, Option.bind_some]
      have : a = b := List.ext_getElem? fun j => by
        rcases Nat.lt_or_ge j a.length with g | g
        · exact h3 j g
        · rw [List.getElem?_eq_none g, List.getElem?_eq_none (by omega)]
      simp [this]
    · rw [h2, Option.bind_some]
      simp [h3]
  · have h1 : (((a.length : Nat) : Int) != ((b.length : Nat) : Int)) = true := bne_iff_ne.2 (by omega)
    rw [h1, cond_true]
    have : a ≠ b := fun e => hl (by rw [e])
    simp [this]
theorem Lists_D {a b : List (List Int)} (ha : a.length ≤ 1000000000) (hh : ∀ x ∈ a, x.length ≤ 1000000000) : tronageref01_Lists_D a b = some (decide (a = b)) := by
  unfold tronageref01_Lists_D
  by_cases hl : a.length = b.length
  · have h1 : (((a.length : Nat) : Int) != ((b.length : Nat) : Int)) = false := by rw [hl]; simp
    rw [h1, cond_false]
    rcases forN_inv (σ := Unit) (β := Bool) (n := a.length) (f := fun i_z2 z2 => (idx a i_z2).bind fun e25 => (idx b i_z2).bind fun e37 => (tronageref01_Ints_D e25 e37).bind fun t7 => cond (!t7) (some (Step.done false)) (some (Step.next ())))
      (fun k _ => ∀ j, j < k → a[j]? = b[j]?) (fun r => r = false ∧ a ≠ b) (by omega) (s := ()) (fun j hj => by omega) (fun k s hk hI => by
        rw [bind_some' (idx_lt hk), bind_some' (idx_lt (by omega : k < b.length)), Ints_D (hh _ (List.getElem_mem hk)), Option.bind_some]
        by_cases hx : a[k] = b[k]
        · left
          refine ⟨(), by rw [decide_eq_true hx]; rfl, fun j hj => ?_⟩
          by_cases hjk : j = k
          · subst hjk; rw [List.getElem?_eq_getElem hk, List.getElem?_eq_getElem (by omega), hx]
          · exact hI j (by omega)
        · right
          exact ⟨false, by rw [decide_eq_false hx]; rfl, rfl, fun e => hx (by subst e; rfl)⟩) with ⟨s, h2, h3⟩ | ⟨r, h2, rfl, h3⟩
    · rw [h2, Option.bind_some]
      have : a = b := List.ext_getElem? fun j => by
        rcases Nat.lt_or_ge j a.length with g | g
        · exact h3 j g
        · rw [List.getElem?_eq_none g, List.getElem?_eq_none (by omega)]
      simp [this]
    · rw [h2, Option.bind_some]
      simp [h3]
  · have h1 : (((a.length : Nat) : Int) != ((b.length : Nat) : Int)) = true := bne_iff_ne.2 (by omega)
    rw [h1, cond_true]
    have : a ≠ b := fun e => hl (by rw [e])
    simp [this]

def Few (rows : List (List Int)) : Prop := rows.length ≤ 25 ∧ ∀ r ∈ rows, r.length ≤ 25
theorem few_D (rows : List (List Int)) : ∃ b, tronagelaw15_few_D rows = some b ∧ (b = true → Few rows) := by
  unfold tronagelaw15_few_D
  by_cases hl : rows.length ≤ 25
  · have h1 : decide (((rows.length : Nat) : Int) > 25) = false := decide_eq_false (by omega)
    rw [h1, cond_false]
    rcases forN_inv (σ := Unit) (β := Bool) (n := rows.length) (f := fun i_z2 z2 => (idx rows i_z2).bind fun e23 => cond (decide ((((List.length e23) : Nat) : Int) > (25 : Int))) (some (Step.done false)) (some (Step.next ())))
      (fun k _ => ∀ j (h : j < rows.length), j < k → rows[j].length ≤ 25) (fun r => r = false) (by omega) (s := ()) (fun j _ hj => by omega) (fun k s hk hI => by
        rw [bind_some' (idx_lt hk)]
        by_cases hx : rows[k].length ≤ 25
        · left
          refine ⟨(), by rw [decide_eq_false (by omega)]; rfl, fun j hj' hj => ?_⟩
          by_cases hjk : j = k
          · subst hjk; exact hx
          · exact hI j hj' (by omega)
        · right
          exact ⟨false, by rw [decide_eq_true (by omega)]; rfl, rfl⟩) with ⟨s, h2, h3⟩ | ⟨r, h2, rfl⟩
    · rw [h2, Option.bind_some]
      refine ⟨true, rfl, fun _ => ⟨hl, fun r hr => ?_⟩⟩
      obtain ⟨j, hj, rfl⟩ := List.getElem_of_mem hr
      exact h3 j hj hj
    · rw [h2, Option.bind_some]
      exact ⟨false, rfl, fun h => by cases h⟩
  · have h1 : decide (((rows.length : Nat) : Int) > 25) = true := decide_eq_true (by omega)
    rw [h1, cond_true]
    exact ⟨false, rfl, fun h => by cases h⟩

/-! ## sharing -/
def shStep (p : List Int × List (List Int)) (t : List Int) : List Int × List (List Int) :=
  if t ∈ p.2 then (p.1 ++ [((p.2.idxOf t : Nat) : Int)], p.2) else (p.1 ++ [((p.2.length : Nat) : Int)], p.2 ++ [t])
def shareT (ts : List (List Int)) : List Int × List (List Int) := ts.foldl shStep ([], [])
theorem shareT_snoc (ts : List (List Int)) (t : List Int) : shareT (ts ++ [t]) = shStep (shareT ts) t := by unfold shareT; rw [List.foldl_append]; rfl
theorem take_snoc {α : Type} {l : List α} {k : Nat} (h : k < l.length) : l.take (k + 1) = l.take k ++ [l[k]] := by rw [List.take_add_one, List.getElem?_eq_getElem h]; rfl
structure ShareOk (ts : List (List Int)) (p : List Int × List (List Int)) : Prop where
  len : p.1.length = ts.length
  nodup : p.2.Nodup
  sub : ∀ t ∈ p.2, t ∈ ts
  few : p.2.length ≤ ts.length
  ids : ∀ (i : Nat) (t : List Int), ts[i]? = some t → ∃ k : Nat, p.1[i]? = some (k : Int) ∧ p.2[k]? = some t
theorem shareT_ok (ts : List (List Int)) : ShareOk ts (shareT ts) := by
  refine snoc_ind (P := fun ts => ShareOk ts (shareT ts)) ?_ (fun ts t ih => ?_) ts
  · exact ⟨rfl, List.nodup_nil, (fun t h => by cases h), Nat.le_refl _, fun i t h => by simp at h⟩
  · rw [shareT_snoc]
    obtain ⟨h1, h2, h3, h4, h5⟩ := ih
    unfold shStep
    split
    · rename_i hm
      refine ⟨by simp [h1], h2, fun u hu => List.mem_append_left _ (h3 u hu), by simp; omega, fun i u hu => ?_⟩
      rcases Nat.lt_or_ge i ts.length with g | g
      · rw [List.getElem?_append_left g] at hu
        obtain ⟨k, e1, e2⟩ := h5 i u hu
        exact ⟨k, by rw [List.getElem?_append_left (by omega)]; exact e1, e2⟩
      · rw [List.getElem?_append_right g] at hu
        have : i - ts.length = 0 := by
          rcases Nat.eq_zero_or_pos (i - ts.length) with g | g
          · exact g
          · rw [List.getElem?_eq_none (by simp; omega)] at hu; cases hu
        rw [this] at hu
        simp at hu; subst hu
        refine ⟨(shareT ts).2.idxOf t, ?_, ?_⟩
        · rw [List.getElem?_append_right (by omega), show i - (shareT ts).1.length = 0 by omega]; rfl
        · have := List.idxOf_lt_length_of_mem hm
          rw [List.getElem?_eq_getElem this, List.getElem_idxOf]
    · rename_i hm
      refine ⟨by simp [h1], ?_, ?_, by simp; omega, fun i u hu => ?_⟩
      · rw [List.nodup_append]
        refine ⟨h2, by simp, fun a ha b hb => ?_⟩
        simp at hb; subst hb; intro e; subst e; exact hm ha
      · intro u hu
        rcases List.mem_append.1 hu with hu | hu
        · exact List.mem_append_left _ (h3 u hu)
        · exact List.mem_append_right _ hu
      rcases Nat.lt_or_ge i ts.length with g | g
      · rw [List.getElem?_append_left g] at hu
        obtain ⟨k, e1, e2⟩ := h5 i u hu
        have hk : k < (shareT ts).2.length := by
          rcases Nat.lt_or_ge k (shareT ts).2.length with g | g
          · exact g
          · rw [List.getElem?_eq_none g] at e2; cases e2
        exact ⟨k, by rw [List.getElem?_append_left (by omega)]; exact e1, by rw [List.getElem?_append_left hk]; exact e2⟩
      · rw [List.getElem?_append_right g] at hu
        have : i - ts.length = 0 := by
          rcases Nat.eq_zero_or_pos (i - ts.length) with g | g
          · exact g
          · rw [List.getElem?_eq_none (by simp; omega)] at hu; cases hu
        rw [this] at hu
        simp at hu; subst hu
        refine ⟨(shareT ts).2.length, ?_, ?_⟩
        · rw [List.getElem?_append_right (by omega), show i - (shareT ts).1.length = 0 by omega]; rfl
        · rw [List.getElem?_append_right (Nat.le_refl _)]; simp

theorem mget_mset {β : Type} (k k' : ByteArray) (v : β) : ∀ m : List (ByteArray × β), mget k (mset k' v m) = if k = k' then some v else mget k m := by
  intro m
  induction m with
  | nil => simp only [mset, mget]
  | cons e m ih =>
    obtain ⟨q, x⟩ := e
    simp only [mset]
    by_cases h : k' = q
    · subst h
      rw [if_pos rfl]
      simp only [mget]
      by_cases hk : k = k'
      · simp [hk]
      · simp [hk]
    · rw [if_neg h]
      simp only [mget, ih]
      by_cases hk : k = q
      · subst hk; simp [Ne.symm h]
      · simp [hk]

structure Small (rows : List (List Int)) : Prop where
  few : Few rows
  r64 : ∀ r ∈ rows, R64 r
theorem Small.trim {rows : List (List Int)} (h : Small rows) : Small (rows.map trimL) := by
  refine ⟨⟨by simp; exact h.few.1, fun r hr => ?_⟩, fun r hr => ?_⟩
  · obtain ⟨x, hx, rfl⟩ := List.mem_map.1 hr
    have := trimL_len x; have := h.few.2 x hx; omega
  · obtain ⟨x, hx, rfl⟩ := List.mem_map.1 hr
    exact trimL_r64 (h.r64 x hx)
/-- Rows as few as a statement's, and some noughts more. -/
structure Small2 (rows : List (List Int)) : Prop where
  len : rows.length ≤ 26
  each : ∀ r ∈ rows, r.length ≤ 100
  r64 : ∀ r ∈ rows, R64 r
theorem Small.two {rows : List (List Int)} (h : Small rows) : Small2 rows := ⟨by have := h.few.1; omega, fun r hr => by have := h.few.2 r hr; omega, h.r64⟩
theorem Small2.trim {rows : List (List Int)} (h : Small2 rows) : Small2 (rows.map trimL) := by
  refine ⟨by simp; exact h.len, fun r hr => ?_, fun r hr => ?_⟩
  · obtain ⟨x, hx, rfl⟩ := List.mem_map.1 hr
    have := trimL_len x; have := h.each x hx; omega
  · obtain ⟨x, hx, rfl⟩ := List.mem_map.1 hr
    exact trimL_r64 (h.r64 x hx)
theorem key_inj {a b : List Int} (h : strOf (keyL a) = strOf (keyL b)) : a = b := keyL_inj (strOf_inj (keyL_byte a) (keyL_byte b) h)

theorem Share_D {rows : List (List Int)} (h : Small2 rows) : table_Share_D rows = some (shareT (rows.map trimL)) := by
  unfold table_Share_D
  have ht := h.trim
  obtain ⟨z, h1, h2, h3⟩ := forS_inv (σ := (List (List Int) × List Int × List (ByteArray × Int))) (n := rows.length) (f := fun i_z3 z3 =>
    (idx rows i_z3).bind fun e41 =>
    (table_trim_D e41).bind fun t6 =>
    (table_key_D t6).bind fun t7 =>
    (some (mget t7 z3.2.2)).bind fun t8 =>
    (cond (!(Option.isSome t8))
    ((table_key_D t6).bind fun t10 =>
      (app z3.1 ([t6] : List (List Int))).bind fun t13 =>
      some ((((List.length z3.1) : Nat) : Int), t13, (mset t10 (((List.length z3.1) : Nat) : Int) z3.2.2)))
    (some ((Option.getD t8 0), z3.1, z3.2.2))).bind fun z9 =>
    (app z3.2.1 ([z9.1] : List Int)).bind fun t15 =>
    some (z9.2.1, t15, z9.2.2))
    (fun k z => (z.2.1, z.1) = shareT ((rows.map trimL).take k) ∧ ∀ t, mget (strOf (keyL t)) z.2.2 = if t ∈ z.1 then some ((z.1.idxOf t : Nat) : Int) else none)
    (by have := h.len; omega) (s := ([], [], [])) ⟨rfl, fun t => rfl⟩ fun k z hk ⟨e, hm⟩ => by
      obtain ⟨out, ids, m⟩ := z
      have hx : rows[k] ∈ rows := List.getElem_mem hk
      have hlen := h.each _ hx
      have hk' : k < (rows.map trimL).length := by simpa using hk
      have ok := shareT_ok ((rows.map trimL).take k)
      rw [← e] at ok
      have hfew := ok.few
      have hlen2 := ok.len
      simp only [List.length_take, List.length_map] at hfew hlen2
      have hrl := h.len
      have hkt : (trimL rows[k]).length ≤ 1000 := by have := trimL_len rows[k]; omega
      rw [take_snoc hk', shareT_snoc, ← e]
      dsimp only at hm ⊢
      simp only [bind_some' (idx_lt hk), trim_D (show rows[k].length ≤ 1000000 by omega), key_D (trimL_r64 (h.r64 _ hx)) hkt, Option.bind_some, hm (trimL rows[k])]
      unfold shStep
      rw [List.getElem_map]
      by_cases hmem : trimL rows[k] ∈ out
      · simp only [if_pos hmem, Option.isSome_some, Bool.not_true, cond_false, Option.bind_some, Option.getD_some]
        rw [app_ok (by simp; omega), Option.bind_some]
        exact ⟨_, rfl, rfl, hm⟩
      · simp only [if_neg hmem, Option.isSome_none, Bool.not_false, cond_true, Option.bind_some]
        rw [app_ok (by simp; omega), Option.bind_some, Option.bind_some, app_ok (by simp; omega), Option.bind_some]
        refine ⟨_, rfl, rfl, fun t => ?_⟩
        rw [mget_mset, hm t]
        by_cases hte : t = trimL rows[k]
        · subst hte
          rw [if_pos rfl, if_pos (by simp)]
          rw [List.idxOf_append, if_neg hmem]
          simp
        · rw [if_neg (fun e => hte (key_inj e))]
          by_cases htm : t ∈ out
          · rw [if_pos htm, if_pos (List.mem_append_left _ htm), List.idxOf_append, if_pos htm]
          · rw [if_neg htm, if_neg (by simp [htm, hte])]
  rw [h1, Option.bind_some]
  rw [List.take_of_length_le (by simp)] at h2
  rw [← h2]
theorem Share_ref {rows : List (List Int)} (h : Small2 rows) : tronageref15_Share_D rows = some (shareT (rows.map trimL)) := by
  unfold tronageref15_Share_D
  obtain ⟨z, h1, h2⟩ := forS_inv (σ := (List (List Int) × List Int)) (n := rows.length) (f := fun i_z2 z2 =>
    (idx rows i_z2).bind fun e34 =>
    (tronageref15_Trim_D e34).bind fun t5 =>
    (loop (σ := Int) (β := Int) (0 : Int) fun z7 =>
      (cond (decide (z7 < (((List.length z2.1) : Nat) : Int)))
      ((idx z2.1 z7).bind fun e67 =>
        (tronageref01_Ints_D e67 t5).bind fun t11 =>
        some (!t11))
      (some false)).bind fun z8 =>
      cond z8
      (some (Step.next (IntKind.wrap .i64 (z7 + (1 : Int)))))
      (some (Step.done z7))).bind fun z6 =>
    (cond (z6 == (((List.length z2.1) : Nat) : Int))
    ((app z2.1 ([t5] : List (List Int))).bind fun t14 =>
      some t14)
    (some z2.1)).bind fun z12 =>
    (app z2.2 ([z6] : List Int)).bind fun t16 =>
    some (z12, t16))
    (fun k z => (z.2, z.1) = shareT ((rows.map trimL).take k))
    (by have := h.len; omega) (s := ([], [])) rfl fun k z hk e => by
      obtain ⟨out, ids⟩ := z
      have hx : rows[k] ∈ rows := List.getElem_mem hk
      have hlen := h.each _ hx
      have hk' : k < (rows.map trimL).length := by simpa using hk
      have ok := shareT_ok ((rows.map trimL).take k)
      rw [← e] at ok
      have hfew := ok.few
      have hlen2 := ok.len
      have hsub := ok.sub
      simp only [List.length_take, List.length_map] at hfew hlen2
      have hrl := h.len
      have hshort : ∀ t ∈ out, t.length ≤ 1000000000 := fun t ht => by
        have := h.trim.each t (List.mem_of_mem_take (hsub t ht)); omega
      obtain ⟨q, g1, g2⟩ := loop_inv (σ := Int) (β := Int) (f := fun z7 => (cond (decide (z7 < (((List.length out) : Nat) : Int)))
          ((idx out z7).bind fun e67 => (tronageref01_Ints_D e67 (trimL rows[k])).bind fun t11 => some (!t11)) (some false)).bind fun z8 =>
          cond z8 (some (Step.next (IntKind.wrap .i64 (z7 + (1 : Int))))) (some (Step.done z7)))
        (fun z => 0 ≤ z ∧ z ≤ out.length ∧ trimL rows[k] ∉ out.take z.toNat) (fun z => out.length - z.toNat) (fun z => z = (out.idxOf (trimL rows[k]) : Nat))
        (fun z ⟨a0, a1, a2⟩ => by
          by_cases hz : z < out.length
          · have hlt : z.toNat < out.length := by omega
            rw [decide_eq_true hz, cond_true, bind_some' (idx_get a0 hlt), Ints_D (hshort _ (List.getElem_mem hlt)), Option.bind_some, Option.bind_some]
            by_cases hq : out[z.toNat] = trimL rows[k]
            · right
              refine ⟨z, by rw [decide_eq_true hq]; rfl, ?_⟩
              have : out.idxOf (trimL rows[k]) = z.toNat := by
                have e1 : out = out.take z.toNat ++ out[z.toNat] :: out.drop (z.toNat + 1) := by simp
                have : (out.take z.toNat ++ out[z.toNat] :: out.drop (z.toNat + 1)).idxOf (trimL rows[k]) = z.toNat := by
                  rw [List.idxOf_append, if_neg a2, hq, List.idxOf_cons_self]
                  simp; omega
                rw [← e1] at this; exact this
              omega
            · left
              refine ⟨z + 1, by rw [decide_eq_false hq, w64 (by omega) (by omega)]; rfl, ⟨by omega, by omega, ?_⟩, by omega⟩
              rw [show (z + 1).toNat = z.toNat + 1 by omega, take_snoc hlt]
              intro hm
              rcases List.mem_append.1 hm with hm | hm
              · exact a2 hm
              · exact hq (by simpa using (List.mem_singleton.1 hm).symm)
          · right
            refine ⟨z, by rw [decide_eq_false hz]; rfl, ?_⟩
            have : z.toNat = out.length := by omega
            rw [this, List.take_length] at a2
            rw [List.idxOf_eq_length a2]
            omega) (s := 0) ⟨by omega, by omega, by simp⟩
      subst g2
      rw [take_snoc hk', shareT_snoc, ← e]
      dsimp only at g1 ⊢
      simp only [bind_some' (idx_lt hk), Trim_D (show rows[k].length ≤ 1000000 by omega), Option.bind_some]
      rw [g1, Option.bind_some]
      unfold shStep
      rw [List.getElem_map]
      by_cases hmem : trimL rows[k] ∈ out
      · have hlt := List.idxOf_lt_length_of_mem hmem
        have hb : (((out.idxOf (trimL rows[k]) : Nat) : Int) == ((out.length : Nat) : Int)) = false := beq_eq_false_iff_ne.2 (by omega)
        rw [hb, cond_false, Option.bind_some, app_ok (by simp; omega), if_pos hmem]
        exact ⟨_, rfl, rfl⟩
      · have hlt := List.idxOf_eq_length hmem
        have hb : (((out.idxOf (trimL rows[k]) : Nat) : Int) == ((out.length : Nat) : Int)) = true := beq_iff_eq.2 (by omega)
        rw [hb, cond_true, app_ok (by simp; omega), Option.bind_some, Option.bind_some, app_ok (by simp; omega), if_neg hmem, hlt]
        exact ⟨_, rfl, rfl⟩
  rw [h1, Option.bind_some]
  rw [List.take_of_length_le (by simp)] at h2
  rw [← h2]
end Go.Proofs.YtklamaeccniblaaDoor
