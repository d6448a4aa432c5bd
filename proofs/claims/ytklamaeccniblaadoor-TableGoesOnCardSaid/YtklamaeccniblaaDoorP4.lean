/-
  TABLE, PLAIN 4: the document's packing; how many numbers; the chapter's examples.
  Conditions: few rows of few numbers of 64 bits.
-/
import Derived.Test.YtklamaeccniblaaDoorP3
namespace Go.Proofs.YtklamaeccniblaaDoor
open Go Go.Eng
set_option linter.unusedVariables false

theorem free_D (p : Pk) {row : List Int} {k : Nat} (hr : row.length ≤ 1000) (hk : k ≤ 1000000) : tronageref15_Packed_free_D p row (k : Int) = some (freeB row k p.2.2.2) := by
  unfold tronageref15_Packed_free_D
  rcases forN_inv (σ := Unit) (β := Bool) (n := row.length) (f := fun i_z2 z2 =>
    ((idx row i_z2).bind fun e25 =>
    cond (e25 != (0 : Int))
    (cond (decide ((IntKind.wrap .i64 ((k : Int) + i_z2)) < (((List.length p.2.2.2) : Nat) : Int)))
      ((idx p.2.2.2 (IntKind.wrap .i64 ((k : Int) + i_z2))).bind fun e70 =>
        some (e70 != (0 : Int)))
      (some false))
    (some false)).bind fun z3 =>
    cond z3
    (some (Step.done false))
    (some (Step.next ())))
    (fun j _ => ∀ c, c < j → getO row c ≠ 0 → getO p.2.2.2 (k + c) = 0) (fun b => b = false ∧ freeB row k p.2.2.2 = false) (by omega) (s := ()) (fun c hc => by omega) (fun j s hj hI => by
      have hw : IntKind.wrap .i64 ((k : Int) + (j : Int)) = ((k + j : Nat) : Int) := by rw [w64 (by omega) (by omega)]; omega
      rw [bind_some' (idx_lt hj), hw]
      by_cases hx : row[j] = 0
      · left
        refine ⟨(), by simp only [hx]; rfl, fun c hc hne => ?_⟩
        by_cases e : c = j
        · subst e; rw [getO_get hj] at hne; exact absurd hx hne
        · exact hI c (by omega) hne
      · have hb : (row[j] != 0) = true := bne_iff_ne.2 hx
        rw [hb, cond_true]
        by_cases hlt : k + j < p.2.2.2.length
        · rw [decide_eq_true (by omega), cond_true, bind_some' (idx_lt hlt), Option.bind_some]
          by_cases ho : p.2.2.2[k + j] = 0
          · left
            refine ⟨(), by rw [ho]; rfl, fun c hc hne => ?_⟩
            by_cases e : c = j
            · subst e; rw [getO_get hlt]; exact ho
            · exact hI c (by omega) hne
          · right
            refine ⟨false, by rw [bne_iff_ne.2 ho]; rfl, rfl, ?_⟩
            cases hf : freeB row k p.2.2.2 with
            | false => rfl
            | true => exact absurd (freeB_iff.1 hf j hj (by rw [getO_get hj]; exact hx)) (by rw [getO_get hlt]; exact ho)
        · rw [decide_eq_false (by omega), cond_false, Option.bind_some]
          left
          refine ⟨(), rfl, fun c hc hne => ?_⟩
          by_cases e : c = j
          · subst e; exact getO_ge (by omega)
          · exact hI c (by omega) hne) with ⟨s, h1, h2⟩ | ⟨b, h1, rfl, h2⟩
  · rw [h1, Option.bind_some, freeB_iff.2 h2]
  · rw [h1, Option.bind_some, h2]

theorem pad_loop_ref {f : Pk → Option (Step Pk Pk)} {q : Nat} {x : Int} (hf : ∀ z : Pk, f z = (cond (x != (0 : Int)) (some (decide ((((List.length z.2.2.1) : Nat) : Int) ≤ (q : Int)))) (some false)).bind fun z18 =>
      cond z18 ((app z.2.2.1 ([(0 : Int)] : List Int)).bind fun t26 => (app z.2.2.2 ([(0 : Int)] : List Int)).bind fun t29 => some (Step.next (z.1, z.2.1, t26, t29))) (some (Step.done z))) (hq : q ≤ 1000000) :
    ∀ {ids base n o : List Int}, n.length = o.length → loop (σ := Pk) (β := Pk) (ids, base, n, o) f = some (if x = 0 then (ids, base, n, o) else (ids, base, n ++ List.replicate (q + 1 - n.length) 0, o ++ List.replicate (q + 1 - n.length) 0)) := by
  intro ids base n o hl
  by_cases hx : x = 0
  · subst hx
    rw [loop_eq, hf]
    rfl
  · rw [if_neg hx]
    refine pad_loop (f := f) (fun z => ?_) hq hl
    rw [hf, bne_iff_ne.2 hx, cond_true, Option.bind_some]
theorem Pack_ref {rows : List (List Int)} (h : Small2 rows) : tronageref15_Pack_D rows = some (packL rows) := by
  unfold tronageref15_Pack_D
  rw [Share_ref h, Option.bind_some]
  have ok := shareT_ok (rows.map trimL)
  have ht := h.trim
  have hout : ∀ r ∈ (shareT (rows.map trimL)).2, r.length ≤ 100 := fun r hr => ht.each r (ok.sub r hr)
  have hfew : (shareT (rows.map trimL)).2.length ≤ 26 := by have := ok.few; have := ht.len; omega
  have hids : (shareT (rows.map trimL)).1.length ≤ 26 := by have := ok.len; have := ht.len; omega
  have hin : ∀ (k : Nat) (hk : k < (shareT (rows.map trimL)).1.length), ∃ q : Nat, (shareT (rows.map trimL)).1[k] = (q : Int) ∧ q < (shareT (rows.map trimL)).2.length := fun k hk => by
    have hk' : k < (rows.map trimL).length := by have := ok.len; omega
    obtain ⟨q, e1, e2⟩ := ok.ids k _ (List.getElem?_eq_getElem hk')
    rw [List.getElem?_eq_getElem hk] at e1
    refine ⟨q, Option.some.inj e1, ?_⟩
    rcases Nat.lt_or_ge q (shareT (rows.map trimL)).2.length with g | g
    · exact g
    · rw [List.getElem?_eq_none g] at e2; cases e2
  unfold packL
  generalize shareT (rows.map trimL) = sh at hout hfew hids hin
  obtain ⟨ids, out⟩ := sh
  dsimp only at hout hfew hids hin ⊢
  obtain ⟨z, h1, h2⟩ := forS_inv (σ := (List Int × (List Int × List Int × List Int × List Int))) (n := out.length) (f := fun i_z4 z4 =>
    (loop (σ := Int) (β := Int) (0 : Int) fun z6 =>
      (idx out i_z4).bind fun e68 =>
      (tronageref15_Packed_free_D z4.2 e68 z6).bind fun t9 =>
      cond (!t9)
      (some (Step.next (IntKind.wrap .i64 (z6 + (1 : Int)))))
      (some (Step.done z6))).bind fun z5 =>
    (app z4.1 ([z5] : List Int)).bind fun t11 =>
    (loop (σ := (Int × (List Int × List Int × List Int × List Int))) (β := (List Int × List Int × List Int × List Int)) ((0 : Int), z4.2) fun z13 =>
      (idx out i_z4).bind fun e118 =>
      cond (decide (z13.1 < (((List.length e118) : Nat) : Int)))
      ((loop (σ := (List Int × List Int × List Int × List Int)) (β := (List Int × List Int × List Int × List Int)) z13.2 fun z17 =>
          ((idx out i_z4).bind fun e145 =>
          (idx e145 z13.1).bind fun e157 =>
          cond (e157 != (0 : Int))
          (some (decide ((((List.length z17.2.2.1) : Nat) : Int) ≤ (IntKind.wrap .i64 (z5 + z13.1)))))
          (some false)).bind fun z18 =>
          cond z18
          ((app z17.2.2.1 ([(0 : Int)] : List Int)).bind fun t26 =>
            (app z17.2.2.2 ([(0 : Int)] : List Int)).bind fun t29 =>
            some (Step.next (z17.1, z17.2.1, t26, t29)))
          (some (Step.done z17))).bind fun z16 =>
        (idx out i_z4).bind fun e306 =>
        (idx e306 z13.1).bind fun e318 =>
        (cond (e318 != (0 : Int))
        ((idx out i_z4).bind fun e366 =>
          (idx e366 z13.1).bind fun e378 =>
          (setI z16.2.2.1 (IntKind.wrap .i64 (z5 + z13.1)) e378).bind fun m391 =>
          (setI z16.2.2.2 (IntKind.wrap .i64 (z5 + z13.1)) (IntKind.wrap .i64 (i_z4 + (1 : Int)))).bind fun m406 =>
          some (z16.1, z16.2.1, m391, m406))
        (some z16)).bind fun z34 =>
        some (Step.next ((IntKind.wrap .i64 (z13.1 + (1 : Int))), z34)))
      (some (Step.done z13.2))).bind fun z12 =>
    some (t11, z12))
    (fun k z => z = ((packT (out.take k)).1, ids, [], (packT (out.take k)).2.1, (packT (out.take k)).2.2)) (by omega) (s := ([], ids, [], [], [])) rfl fun k z hk e => by
      subst e
      obtain ⟨g1, g2, g3⟩ := packT_len (out := out.take k) fun r hr => hout r (List.mem_of_mem_take hr)
      have hlt : (out.take k).length = k := by rw [List.length_take]; omega
      have hrow := hout _ (List.getElem_mem hk)
      rw [take_snoc hk, packT_snoc]
      generalize packT (out.take k) = q at g1 g2 g3
      obtain ⟨pl, n, o⟩ := q
      dsimp only at g1 g2 g3 ⊢
      obtain ⟨f1, f2, f3⟩ := fitL_ok out[k] o
      -- the place
      have hat : (loop (σ := Int) (β := Int) (0 : Int) fun z6 => (idx out (k : Int)).bind fun e68 => (tronageref15_Packed_free_D (ids, [], n, o) e68 z6).bind fun t9 =>
          cond (!t9) (some (Step.next (IntKind.wrap .i64 (z6 + (1 : Int))))) (some (Step.done z6))) = some ((fitL out[k] o : Nat) : Int) := by
        refine some_of (P := fun z => z = ((fitL out[k] o : Nat) : Int)) (loop_inv (fun z : Int => ∃ j : Nat, z = j ∧ j ≤ fitL out[k] o) (fun z : Int => fitL out[k] o - z.toNat) _ (fun z ⟨j, e, hj⟩ => ?_) ⟨0, rfl, Nat.zero_le _⟩) (fun y h => h)
        subst e
        rw [bind_some' (idx_lt hk), free_D _ (by omega) (by omega), Option.bind_some]
        by_cases he : j = fitL out[k] o
        · right
          exact ⟨j, by dsimp only; rw [he, f1]; rfl, by rw [he]⟩
        · left
          refine ⟨((j + 1 : Nat) : Int), by dsimp only; rw [f3 j (by omega), w64 (by omega) (by omega)]; rfl, ⟨j + 1, rfl, by omega⟩, by omega⟩
      rw [hat, Option.bind_some, app_ok (by simp; omega), Option.bind_some]
      unfold packStep
      dsimp only
      rw [show pl.length = k by omega]
      generalize fitL out[k] o = a at f2
      refine ⟨_, bind_some' (x := (ids, [], (layG out[k] a ((k : Int) + 1) (n, o)).1, (layG out[k] a ((k : Int) + 1) (n, o)).2)) ?_ _, rfl⟩
      refine some_of (P := fun z => z = (ids, [], (layG out[k] a ((k : Int) + 1) (n, o)).1, (layG out[k] a ((k : Int) + 1) (n, o)).2)) (loop_inv (fun z : Int × Pk => ∃ c : Nat, c ≤ out[k].length ∧ z = ((c : Int), ids, [], (layK out[k] a ((k : Int) + 1) (n, o) c).1, (layK out[k] a ((k : Int) + 1) (n, o) c).2)) (fun z => out[k].length - z.1.toNat) _ (fun z ⟨c, hc, e⟩ => ?_) ⟨0, Nat.zero_le _, rfl⟩) (fun y h => h)
      subst e
      dsimp only
      rw [bind_some' (idx_lt hk)]
      by_cases hcl : c < out[k].length
      · left
        obtain ⟨q1, q2, q3⟩ := layK_len (row := out[k]) (a := a) (id := (k : Int) + 1) (s := (n, o)) g2 c
        refine ⟨(((c + 1 : Nat) : Int), ids, [], (layK out[k] a ((k : Int) + 1) (n, o) (c + 1)).1, (layK out[k] a ((k : Int) + 1) (n, o) (c + 1)).2), ?_, ⟨c + 1, hcl, rfl⟩, by dsimp only; omega⟩
        rw [layK_succ]
        generalize layK out[k] a ((k : Int) + 1) (n, o) c = s at q1 q2 q3
        obtain ⟨n', o'⟩ := s
        dsimp only at q1 q2 q3 ⊢
        have hw : IntKind.wrap .i64 ((a : Int) + (c : Int)) = ((a + c : Nat) : Int) := by rw [w64 (by omega) (by omega)]; omega
        have hw2 : IntKind.wrap .i64 ((k : Int) + 1) = (k : Int) + 1 := w64 (by omega) (by omega)
        have hw3 : IntKind.wrap .i64 ((c : Int) + 1) = ((c + 1 : Nat) : Int) := by rw [w64 (by omega) (by omega)]; omega
        have hp := pad_loop_ref (q := a + c) (x := out[k][c]) (ids := ids) (base := []) (f := fun z17 =>
          ((idx out (k : Int)).bind fun e145 =>
          (idx e145 (c : Int)).bind fun e157 =>
          cond (e157 != (0 : Int))
          (some (decide ((((List.length z17.2.2.1) : Nat) : Int) ≤ ((a + c : Nat) : Int))))
          (some false)).bind fun z18 =>
          cond z18
          ((app z17.2.2.1 ([(0 : Int)] : List Int)).bind fun t26 =>
            (app z17.2.2.2 ([(0 : Int)] : List Int)).bind fun t29 =>
            some (Step.next (z17.1, z17.2.1, t26, t29)))
          (some (Step.done z17))) (fun z => by rw [bind_some' (idx_lt hk), bind_some' (idx_lt hcl)]) (by omega) q1
        rw [decide_eq_true (by omega), cond_true, hw, hp]
        simp only [idx_lt hk, idx_lt hcl, Option.bind_some]
        unfold lay1
        rw [getO_get hcl]
        by_cases hx : out[k][c] = 0
        · rw [if_pos hx, if_pos hx, hx, hw3]
          rfl
        · rw [if_neg hx, if_neg hx, bne_iff_ne.2 hx, cond_true]
          dsimp only
          rw [setI_ok (by omega) (by simp; omega), Option.bind_some, setI_ok (by omega) (by simp; omega), Option.bind_some, Option.bind_some, hw2, hw3]
          unfold setPad
          simp only [Int.toNat_natCast, ← q1]
      · right
        have : c = out[k].length := by omega
        subst this
        rw [decide_eq_false (by omega), cond_false]
        exact ⟨_, rfl, rfl⟩
  rw [h1, Option.bind_some]
  subst h2
  rw [List.take_length]
  obtain ⟨g1, g2, g3⟩ := packT_len hout
  generalize packT out = q at g1 g2 g3
  obtain ⟨pl, n, o⟩ := q
  dsimp only at g1 g2 g3 ⊢
  obtain ⟨z, h1, h2⟩ := forS_inv (σ := (List Int × List Int × List Int × List Int)) (n := ids.length) (f := fun i_z13 z13 =>
    (idx ids i_z13).bind fun e149 =>
    (idx pl e149).bind fun e194 =>
    (app z13.2.1 ([e194] : List Int)).bind fun t20 =>
    some (z13.1, t20, z13.2.2.1, z13.2.2.2))
    (fun k z => z = (ids, baseOf (ids.take k) pl, n, o)) (by omega) (s := (ids, [], n, o)) rfl fun k z hk e => by
      subst e
      obtain ⟨q, e1, e2⟩ := hin k hk
      have hl : (baseOf (ids.take k) pl).length ≤ 26 := by unfold baseOf; simp; omega
      have hqp : q < pl.length := by omega
      rw [bind_some' (idx_lt hk), e1, bind_some' (idx_lt hqp), app_ok (by simp; omega), Option.bind_some]
      refine ⟨_, rfl, ?_⟩
      rw [take_snoc hk]
      unfold baseOf
      rw [List.map_append, e1]
      simp only [List.map_cons, List.map_nil, Int.toNat_natCast, getO_get hqp]
  rw [h1, Option.bind_some, h2, List.take_length]

/-! ## how many numbers -/
def nz (l : List Int) : Nat := l.countP fun x => x != 0
theorem nz_snoc (l : List Int) (x : Int) : nz (l ++ [x]) = nz l + if x = 0 then 0 else 1 := by
  unfold nz
  rw [List.countP_append]
  by_cases h : x = 0 <;> simp [h]
theorem nz_le (l : List Int) : nz l ≤ l.length := List.countP_le_length
def dense (rows : List (List Int)) : Nat := (rows.map nz).sum
theorem dense_snoc (rows : List (List Int)) (r : List Int) : dense (rows ++ [r]) = dense rows + nz r := by unfold dense; simp
theorem dense_le {rows : List (List Int)} {m : Nat} (h : ∀ r ∈ rows, r.length ≤ m) : dense rows ≤ m * rows.length := by
  induction rows with
  | nil => simp [dense]
  | cons r rows ih =>
    have := ih fun x hx => h x (List.mem_cons_of_mem _ hx)
    have h1 := h r (by simp)
    have h2 := nz_le r
    simp only [dense, List.map_cons, List.sum_cons, List.length_cons] at this ⊢
    rw [Nat.mul_add]
    omega
theorem Dense_D {rows : List (List Int)} (h : rows.length ≤ 100 ∧ ∀ r ∈ rows, r.length ≤ 1000) : table_Dense_D rows = some ((dense rows : Nat) : Int) := by
  unfold table_Dense_D
  obtain ⟨z, h1, h2⟩ := forS_inv (σ := Int) (n := rows.length) (f := fun i_z2 z2 =>
    (idx rows i_z2).bind fun e23 =>
    (forS (σ := Int) (0 : Int) (((List.length e23) : Nat) : Int) z2 fun i_z6 z6 =>
      (idx e23 i_z6).bind fun e47 =>
      (cond (e47 != (0 : Int))
      (some (IntKind.wrap .i64 (z6 + (1 : Int))))
      (some z6)).bind fun z9 =>
      some z9).bind fun z5 =>
    some z5)
    (fun k z => z = ((dense (rows.take k) : Nat) : Int)) (by omega) (s := 0) rfl fun k z hk e => by
      subst e
      rw [bind_some' (idx_lt hk)]
      have hrow := h.2 _ (List.getElem_mem hk)
      have hd : dense (rows.take k) ≤ 1000 * 100 := by
        have := dense_le (rows := rows.take k) (m := 1000) fun r hr => h.2 r (List.mem_of_mem_take hr)
        have : (rows.take k).length ≤ 100 := by rw [List.length_take]; omega
        omega
      obtain ⟨z, g1, g2⟩ := forS_inv (σ := Int) (n := rows[k].length) (f := fun i_z6 z6 =>
          (idx rows[k] i_z6).bind fun e47 => (cond (e47 != (0 : Int)) (some (IntKind.wrap .i64 (z6 + (1 : Int)))) (some z6)).bind fun z9 => some z9)
        (fun j z => z = ((dense (rows.take k) + nz (rows[k].take j) : Nat) : Int)) (by omega) (s := ((dense (rows.take k) : Nat) : Int)) rfl fun j z hj e => by
          subst e
          rw [bind_some' (idx_lt hj), take_snoc hj, nz_snoc]
          have := nz_le (rows[k].take j)
          have : (rows[k].take j).length ≤ 1000 := by rw [List.length_take]; omega
          by_cases hx : rows[k][j] = 0
          · rw [if_pos hx, hx]
            exact ⟨_, rfl, rfl⟩
          · rw [if_neg hx, bne_iff_ne.2 hx, cond_true, Option.bind_some, w64 (by omega) (by omega)]
            exact ⟨_, rfl, by omega⟩
      rw [g1, Option.bind_some]
      refine ⟨_, rfl, ?_⟩
      rw [g2, List.take_length, take_snoc hk, dense_snoc]
  rw [h1, Option.bind_some, h2, List.take_length]

/-! ## the chapter's examples -/
def exRows : List (List Int) := [[0, 1], [2, 0, 3], [0, 1, 0]]
theorem ex_small : Small2 exRows := by
  refine ⟨by decide, ?_, ?_⟩
  · intro r hr
    simp only [exRows, List.mem_cons, List.not_mem_nil, or_false] at hr
    rcases hr with rfl | rfl | rfl <;> decide
  · intro r hr
    simp only [exRows, List.mem_cons, List.not_mem_nil, or_false] at hr
    intro x hx
    rcases hr with rfl | rfl | rfl <;> simp at hx <;> omega
theorem ex_share : shareT (exRows.map trimL) = ([0, 1, 0], [[0, 1], [2, 0, 3]]) := by decide +kernel
theorem ex_pack : packL exRows = ([0, 1, 0], [0, 0, 0], [2, 1, 3], [2, 1, 2]) := by decide +kernel
theorem awake_D : tronagelaw15_awake_D = some true := by
  unfold tronagelaw15_awake_D
  have h1 := Share_D ex_small
  have h2 := Pack_D ex_small
  rw [ex_share] at h1
  rw [ex_pack] at h2
  unfold exRows at h1 h2
  have a1 : ∀ p : Pk, p = ([0, 1, 0], [0, 0, 0], [2, 1, 3], [2, 1, 2]) → table_Packed_At_D p 2 1 = some 1 := fun p e => by subst e; rfl
  have a2 : ∀ p : Pk, p = ([0, 1, 0], [0, 0, 0], [2, 1, 3], [2, 1, 2]) → table_Packed_At_D p 0 0 = some 0 := fun p e => by subst e; rfl
  rw [h1, Option.bind_some, h2, Option.bind_some]
  dsimp only
  rw [Ints_D (by decide), Option.bind_some]
  simp only [decide_true, cond_true]
  rw [Ints_D (by decide), Option.bind_some]
  simp only [decide_true, cond_true]
  rw [Ints_D (by decide), Option.bind_some]
  simp only [decide_true, cond_true]
  rw [Ints_D (by decide), Option.bind_some]
  simp only [decide_true, cond_true]
  rw [a1 _ rfl, Option.bind_some, a2 _ rfl]
  rfl
end Go.Proofs.YtklamaeccniblaaDoor
