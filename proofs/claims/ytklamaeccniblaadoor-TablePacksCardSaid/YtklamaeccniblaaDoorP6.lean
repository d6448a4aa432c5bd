/-
  TABLE, PLAIN 6: the laws of what the statements' functions tell.
  Conditions: numbers of 64 bits.
-/
import Derived.Test.YtklamaeccniblaaDoorP5
namespace Go.Proofs.YtklamaeccniblaaDoor
open Go Go.Eng
set_option linter.unusedVariables false

def All64 (rows : List (List Int)) : Prop := ∀ r ∈ rows, R64 r

theorem packs_law {rows : List (List Int)} (h64 : All64 rows) : tronagelaw15_TablePacks_D rows = some true := by
  unfold tronagelaw15_TablePacks_D
  rw [awake_D, Option.bind_some]
  obtain ⟨b, hb, hf⟩ := few_D rows
  rw [hb, Option.bind_some]
  cases b with
  | false => rfl
  | true =>
    have hf := hf rfl
    have h := (Small.mk hf h64).two
    have ok := shareT_ok (rows.map trimL)
    have hlen1 := ok.len
    have hlen2 := ok.few
    have hsub := ok.sub
    have ht := h.trim
    simp only [Bool.not_true, cond_false]
    rw [Share_D h, Option.bind_some, Share_ref h, Option.bind_some, Pack_D h, Option.bind_some, Pack_ref h, Option.bind_some]
    have hcount : (forS (σ := Int) (0 : Int) (((List.length rows) : Nat) : Int) (0 : Int) fun i_z9 z9 =>
        (loop (σ := (Int × Int)) (β := Int) ((0 : Int), z9) fun z11 =>
          (idx rows i_z9).bind fun e126 =>
          cond (decide (z11.1 < (((List.length e126) : Nat) : Int)))
          ((idx rows i_z9).bind fun e138 =>
            (idx e138 z11.1).bind fun e150 =>
            (cond (e150 != (0 : Int))
            (some (IntKind.wrap .i64 (z11.2 + (1 : Int))))
            (some z11.2)).bind fun z18 =>
            some (Step.next ((IntKind.wrap .i64 (z11.1 + (1 : Int))), z18)))
          (some (Step.done z11.2))).bind fun z10 =>
        some z10) = some ((dense rows : Nat) : Int) := by
      have hrl := hf.1
      refine some_of (P := fun z => z = ((dense rows : Nat) : Int)) ?_ (fun y h => h)
      obtain ⟨z, h1, h2⟩ := forS_inv (σ := Int) (n := rows.length) (f := fun i_z9 z9 =>
        (loop (σ := (Int × Int)) (β := Int) ((0 : Int), z9) fun z11 =>
          (idx rows i_z9).bind fun e126 =>
          cond (decide (z11.1 < (((List.length e126) : Nat) : Int)))
          ((idx rows i_z9).bind fun e138 =>
            (idx e138 z11.1).bind fun e150 =>
            (cond (e150 != (0 : Int))
            (some (IntKind.wrap .i64 (z11.2 + (1 : Int))))
            (some z11.2)).bind fun z18 =>
            some (Step.next ((IntKind.wrap .i64 (z11.1 + (1 : Int))), z18)))
          (some (Step.done z11.2))).bind fun z10 =>
        some z10) (fun k z => z = ((dense (rows.take k) : Nat) : Int)) (by omega) (s := 0) rfl fun k z hk e => by
          subst e
          have hrow := hf.2 _ (List.getElem_mem hk)
          have hd : dense (rows.take k) ≤ 25 * 25 := by
            have := dense_le (rows := rows.take k) (m := 25) fun r hr => hf.2 r (List.mem_of_mem_take hr)
            have : (rows.take k).length ≤ 25 := by rw [List.length_take]; omega
            omega
          refine ⟨((dense (rows.take (k + 1)) : Nat) : Int), bind_some' (x := ((dense (rows.take (k + 1)) : Nat) : Int)) ?_ _, rfl⟩
          refine some_of (P := fun z => z = ((dense (rows.take (k + 1)) : Nat) : Int)) (loop_inv (fun z : Int × Int => ∃ j : Nat, j ≤ rows[k].length ∧ z = ((j : Int), ((dense (rows.take k) + nz (rows[k].take j) : Nat) : Int))) (fun z => rows[k].length - z.1.toNat) _ (fun z ⟨j, hj, e⟩ => ?_) ⟨0, Nat.zero_le _, rfl⟩) (fun y h => h)
          subst e
          dsimp only
          simp only [idx_lt hk, Option.bind_some]
          by_cases hjl : j < rows[k].length
          · left
            refine ⟨(((j + 1 : Nat) : Int), ((dense (rows.take k) + nz (rows[k].take (j + 1)) : Nat) : Int)), ?_, ⟨j + 1, hjl, rfl⟩, by dsimp only; omega⟩
            have := nz_le (rows[k].take j)
            have : (rows[k].take j).length ≤ 25 := by rw [List.length_take]; omega
            have hw3 : IntKind.wrap .i64 ((j : Int) + 1) = ((j + 1 : Nat) : Int) := by rw [w64 (by omega) (by omega)]; omega
            rw [decide_eq_true (by omega), cond_true, bind_some' (idx_lt hjl), take_snoc hjl, nz_snoc, hw3]
            by_cases hx : rows[k][j] = 0
            · rw [if_pos hx, hx]; rfl
            · rw [if_neg hx, bne_iff_ne.2 hx, cond_true, w64 (by omega) (by omega)]; rfl
          · right
            have : j = rows[k].length := by omega
            subst this
            rw [decide_eq_false (by omega), cond_false]
            exact ⟨_, rfl, by rw [List.take_length, take_snoc hk, dense_snoc]⟩
      exact ⟨z, h1, by rw [h2, List.take_length]⟩
    rw [hcount, Option.bind_some]
    have hids : (shareT (rows.map trimL)).1.length ≤ 26 := by have := ht.len; omega
    have hout : (shareT (rows.map trimL)).2.length ≤ 26 := by have := ht.len; omega
    have hshort : ∀ x ∈ (shareT (rows.map trimL)).2, x.length ≤ 100 := fun x hx => ht.each x (hsub x hx)
    have hp := packT_len hshort
    simp only [cond_true]
    rw [Ints_D (by omega), Option.bind_some, decide_eq_true rfl, cond_true]
    rw [Lists_D (by omega) (fun x hx => by have := hshort x hx; omega), Option.bind_some, decide_eq_true rfl, cond_true]
    unfold packL
    dsimp only
    rw [Ints_D (by omega), Option.bind_some, decide_eq_true rfl, cond_true]
    rw [Ints_D (by unfold baseOf; rw [List.length_map]; omega), Option.bind_some, decide_eq_true rfl, cond_true]
    rw [Ints_D (by omega), Option.bind_some, decide_eq_true rfl, cond_true]
    rw [Ints_D (by omega), Option.bind_some, decide_eq_true rfl, cond_true]
    unfold table_Packed_Cells_D
    rw [Option.bind_some, beq_iff_eq.2 rfl, cond_true, Dense_D ⟨by have := hf.1; omega, fun r hr => by have := hf.2 r hr; omega⟩, Option.bind_some, beq_iff_eq.2 rfl]
    rfl

theorem apart_law {rows : List (List Int)} (h64 : All64 rows) : tronagelaw15_TableApart_D rows = some true := by
  unfold tronagelaw15_TableApart_D
  rw [awake_D, Option.bind_some]
  obtain ⟨b, hb, hf⟩ := few_D rows
  rw [hb, Option.bind_some]
  cases b with
  | false => rfl
  | true =>
    have hf := hf rfl
    have h := (Small.mk hf h64).two
    have ok := shareT_ok (rows.map trimL)
    have hlen1 := ok.len
    have hlen2 := ok.few
    have hsub := ok.sub
    have ht := h.trim
    simp only [Bool.not_true, cond_false]
    rw [Share_D h, Option.bind_some, Pack_D h, Option.bind_some]
    have hids : (shareT (rows.map trimL)).1.length = rows.length := by rw [hlen1]; simp
    have hrl : rows.length ≤ 25 := hf.1
    have hout : (shareT (rows.map trimL)).2.length ≤ 26 := by have := ht.len; omega
    have hshort : ∀ x ∈ (shareT (rows.map trimL)).2, x.length ≤ 100 := fun x hx => ht.each x (hsub x hx)
    have hp := packT_len hshort
    have hok := packT_ok (shareT (rows.map trimL)).2
    unfold packL
    generalize shareT (rows.map trimL) = sh at hids hout hshort hp hok
    obtain ⟨ids, out⟩ := sh
    dsimp only at hids hout hshort hp hok ⊢
    generalize packT out = q at hp hok
    obtain ⟨pl, n, o⟩ := q
    obtain ⟨_, h2, h3, h4, h5, h6, h7⟩ := hok
    dsimp only at h2 h3 h4 h5 h6 h7 hp ⊢
    have hbl : (baseOf ids pl).length = rows.length := by unfold baseOf; rw [List.length_map]; exact hids
    have e1 : (((n.length : Nat) : Int) != ((o.length : Nat) : Int)) = false := by rw [h2]; simp
    have e2 : ((((baseOf ids pl).length : Nat) : Int) != ((rows.length : Nat) : Int)) = false := by rw [hbl]; simp
    rw [e1, cond_false, e2, Option.bind_some, cond_false]
    obtain ⟨z, g1, g2⟩ := forN_all (σ := Int) (β := Bool) (n := o.length) (f := fun i_z11 z11 =>
        ((idx o i_z11).bind fun e85 =>
        cond (decide (e85 < (0 : Int)))
        (some true)
        ((idx o i_z11).bind fun e94 =>
          cond (decide (e94 > (((List.length out) : Nat) : Int)))
          (some true)
          ((idx o i_z11).bind fun e103 =>
            (idx n i_z11).bind fun e112 =>
            some (!((e103 == (0 : Int)) == (e112 == (0 : Int))))))).bind fun z13 =>
        cond z13
        (some (Step.done false))
        ((idx o i_z11).bind fun e128 =>
          (cond (decide (e128 > (0 : Int)))
          (some (IntKind.wrap .i64 (z11 + (1 : Int))))
          (some z11)).bind fun z29 =>
          some (Step.next z29)))
      (fun k z => z = ((nz (o.take k) : Nat) : Int)) (by omega) (s := 0) rfl fun k z hk e => by
        subst e
        have hkn : k < n.length := by omega
        have r1 := h4 k
        have r2 := h5 k
        rw [getO_get hk] at r1 r2
        rw [getO_get hkn] at r2
        simp only [idx_lt hk, idx_lt hkn, Option.bind_some]
        rw [decide_eq_false (by omega), cond_false, decide_eq_false (by omega), cond_false]
        have hz : (o[k] == 0) = (n[k] == 0) := by
          by_cases hx : o[k] = 0
          · rw [beq_iff_eq.2 hx, beq_iff_eq.2 (r2.1 hx)]
          · rw [beq_eq_false_iff_ne.2 hx, beq_eq_false_iff_ne.2 (fun g => hx (r2.2 g))]
        rw [hz]
        simp only [beq_self_eq_true, Bool.not_true, Option.bind_some, cond_false]
        rw [take_snoc hk, nz_snoc]
        have := nz_le (o.take k)
        have : (o.take k).length ≤ 2600 := by rw [List.length_take]; omega
        by_cases hx : o[k] = 0
        · rw [if_pos hx, decide_eq_false (by omega), cond_false]
          exact ⟨_, rfl, by omega⟩
        · rw [if_neg hx, decide_eq_true (by omega), cond_true, w64 (by omega) (by omega)]
          exact ⟨_, rfl, by omega⟩
    rw [g1, Option.bind_some]
    dsimp only
    subst g2
    rw [List.take_length]
    have hlast : (cond ((((List.length n) : Nat) : Int) == (0 : Int))
        (some true)
        ((idx n (IntKind.wrap .i64 ((((List.length n) : Nat) : Int) - (1 : Int)))).bind fun e158 =>
          some (e158 != (0 : Int)))) = some true := by
      by_cases hn : n.length = 0
      · rw [hn]; rfl
      · rw [beq_eq_false_iff_ne.2 (by omega), cond_false, w64 (by omega) (by omega), idx_get (by omega) (by omega), Option.bind_some]
        rcases h7 with h7 | h7
        · rw [h7] at hn; exact absurd rfl hn
        · have e : ((n.length : Int) - 1).toNat = n.length - 1 := by omega
          rw [getO_get (by omega)] at h7
          simp only [e]
          rw [bne_iff_ne.2 h7]
    rw [hlast, Option.bind_some, cond_true, Dense_D ⟨by omega, fun r hr => by have := hshort r hr; omega⟩, Option.bind_some, h6, beq_iff_eq.2 rfl, cond_true]
    unfold table_Packed_Cells_D
    rw [Option.bind_some]
    have := nz_le o
    rw [decide_eq_true (by dsimp only; omega)]
    rfl

theorem packL_eq (rows : List (List Int)) : ∃ ids out pl n o, shareT (rows.map trimL) = (ids, out) ∧ packT out = (pl, n, o) ∧ packL rows = (ids, baseOf ids pl, n, o) := by
  exact ⟨(shareT (rows.map trimL)).1, (shareT (rows.map trimL)).2, (packT (shareT (rows.map trimL)).2).1, (packT (shareT (rows.map trimL)).2).2.1, (packT (shareT (rows.map trimL)).2).2.2, rfl, rfl, rfl⟩
theorem fits_law {rows : List (List Int)} (h64 : All64 rows) : tronagelaw15_TableFits_D rows = some true := by
  unfold tronagelaw15_TableFits_D
  rw [awake_D, Option.bind_some]
  obtain ⟨b, hb, hf⟩ := few_D rows
  rw [hb, Option.bind_some]
  cases b with
  | false => rfl
  | true =>
    have hf := hf rfl
    have h := (Small.mk hf h64).two
    have ok := shareT_ok (rows.map trimL)
    have hlen1 := ok.len
    have hlen2 := ok.few
    have hsub := ok.sub
    have ht := h.trim
    simp only [Bool.not_true, cond_false]
    rw [Pack_D h, Option.bind_some]
    have hids : (shareT (rows.map trimL)).1.length = rows.length := by rw [hlen1]; simp
    have hrl : rows.length ≤ 25 := hf.1
    have hout : (shareT (rows.map trimL)).2.length ≤ 26 := by have := ht.len; omega
    have hshort : ∀ x ∈ (shareT (rows.map trimL)).2, x.length ≤ 100 := fun x hx => ht.each x (hsub x hx)
    have hp := packT_len hshort
    have hok := packT_ok (shareT (rows.map trimL)).2
    have hat := fun (i : Nat) (hi : i < (rows.map trimL).length) => out_at ok hi
    obtain ⟨ids, out, pl, n, o, x1, x2, x3⟩ := packL_eq rows
    rw [x1] at hids hout hshort hp hok hat
    dsimp only at hids hout hshort hp hok hat
    rw [x2] at hp hok
    rw [x3]
    obtain ⟨h1, h2, h3, h4, h5, h6, h7⟩ := hok
    dsimp only at h1 h2 h3 h4 h5 h6 h7 hp ⊢
    have hbl : (baseOf ids pl).length = rows.length := by unfold baseOf; rw [List.length_map]; exact hids
    have e1 : (((ids.length : Nat) : Int) != ((rows.length : Nat) : Int)) = false := by rw [hids]; simp
    have e2 : ((((baseOf ids pl).length : Nat) : Int) != ((rows.length : Nat) : Int)) = false := by rw [hbl]; simp
    rw [e2, cond_false, e1, Option.bind_some, cond_false]
    refine (fun {α β : Type} {o : Option α} {f : α → Option β} {x : β} (h : ∃ y, o = some y ∧ f y = some x) => by obtain ⟨y, h1, h2⟩ := h; rw [h1]; exact h2 : ∀ {α β : Type} {o : Option α} {f : α → Option β} {x : β}, (∃ y, o = some y ∧ f y = some x) → o.bind f = some x) ?_
    obtain ⟨z, g1, g2⟩ := forN_all (σ := Unit) (β := Bool) (n := rows.length) (f := fun i_z9 z9 =>
        (loop (σ := Int) (β := Step Unit Bool) (0 : Int) fun z11 =>
          (idx (baseOf ids pl) i_z9).bind fun e79 =>
          cond (decide (z11 < e79))
          ((loop (σ := (Int × Bool)) (β := Bool) ((0 : Int), false) fun z16 =>
              (idx rows i_z9).bind fun e96 =>
              cond (decide (z16.1 < (((List.length e96) : Nat) : Int)))
              ((cond z16.2
                (some true)
                ((idx rows i_z9).bind fun e110 =>
                  (idx e110 z16.1).bind fun e122 =>
                  cond (e122 != (0 : Int))
                  (cond (decide ((IntKind.wrap .i64 (z11 + z16.1)) < (((List.length o) : Nat) : Int)))
                    ((idx o (IntKind.wrap .i64 (z11 + z16.1))).bind fun e131 =>
                      cond (decide (e131 > (0 : Int)))
                      ((idx o (IntKind.wrap .i64 (z11 + z16.1))).bind fun e140 =>
                        (idx ids i_z9).bind fun e149 =>
                        some (decide (e140 ≤ e149)))
                      (some false))
                    (some false))
                  (some false))).bind fun z19 =>
                some (Step.next ((IntKind.wrap .i64 (z16.1 + (1 : Int))), z19)))
              (some (Step.done z16.2))).bind fun z15 =>
            cond (!z15)
            (some (Step.done (Step.done false)))
            (some (Step.next (IntKind.wrap .i64 (z11 + (1 : Int))))))
          (some (Step.done (Step.next ())))).bind fun e_z10 => match e_z10 with
        | .next z10 =>
          some (Step.next ())
        | .done q172 => some (Step.done q172)) (fun _ _ => True) (by omega) (s := ()) trivial fun k s hk _ => by
          obtain ⟨id, a1, a2, a3⟩ := hat k (by simpa using hk)
          rw [List.getElem_map] at a2
          obtain ⟨p, b1, b2, b3⟩ := h3 id _ a2
          have hki : k < ids.length := by omega
          have hidk : ids[k] = (id : Int) := by rw [List.getElem?_eq_getElem hki] at a1; exact Option.some.inj a1
          have hpl : getO pl id = (p : Int) := by unfold getO; rw [List.getD_eq_getElem?_getD, b1]; rfl
          have hbk : k < (baseOf ids pl).length := by omega
          have hbase : (baseOf ids pl)[k] = (p : Int) := by
            have : (baseOf ids pl)[k]? = some (p : Int) := by unfold baseOf; rw [List.getElem?_map, a1]; simp [hpl]
            rw [List.getElem?_eq_getElem hbk] at this
            exact Option.some.inj this
          have hpo : p ≤ 2600 ∨ ∃ c, c < (trimL rows[k]).length ∧ getO (trimL rows[k]) c ≠ 0 ∧ 1 ≤ getO o (2600 + c) := by
            by_cases hp' : p ≤ 2600
            · exact .inl hp'
            · obtain ⟨c, q1, q2, q3, _⟩ := b3 2600 (by omega)
              exact .inr ⟨c, q1, q2, q3⟩
          have hp2 : p ≤ 2600 := by
            rcases hpo with g | ⟨c, _, _, g⟩
            · exact g
            · rw [getO_ge (by omega)] at g; omega
          have hrk := hf.2 _ (List.getElem_mem hk)
          refine ⟨(), bind_some' (x := Step.next ()) ?_ _, trivial⟩
          refine some_of (P := fun z => z = Step.next ()) (loop_inv (fun z : Int => ∃ j : Nat, z = j ∧ j ≤ p) (fun z => p - z.toNat) _ (fun z ⟨j, e, hj⟩ => ?_) ⟨0, rfl, Nat.zero_le _⟩) (fun y h => h)
          subst e
          rw [bind_some' (idx_lt hbk), hbase]
          by_cases hjp : j < p
          · left
            refine ⟨((j + 1 : Nat) : Int), ?_, ⟨j + 1, rfl, hjp⟩, by omega⟩
            rw [decide_eq_true (by omega), cond_true]
            have hin : (loop (σ := (Int × Bool)) (β := Bool) ((0 : Int), false) fun z16 =>
              (idx rows (k : Int)).bind fun e96 =>
              cond (decide (z16.1 < (((List.length e96) : Nat) : Int)))
              ((cond z16.2
                (some true)
                ((idx rows (k : Int)).bind fun e110 =>
                  (idx e110 z16.1).bind fun e122 =>
                  cond (e122 != (0 : Int))
                  (cond (decide ((IntKind.wrap .i64 ((j : Int) + z16.1)) < (((List.length o) : Nat) : Int)))
                    ((idx o (IntKind.wrap .i64 ((j : Int) + z16.1))).bind fun e131 =>
                      cond (decide (e131 > (0 : Int)))
                      ((idx o (IntKind.wrap .i64 ((j : Int) + z16.1))).bind fun e140 =>
                        (idx ids (k : Int)).bind fun e149 =>
                        some (decide (e140 ≤ e149)))
                      (some false))
                    (some false))
                  (some false))).bind fun z19 =>
                some (Step.next ((IntKind.wrap .i64 (z16.1 + (1 : Int))), z19)))
              (some (Step.done z16.2))) = some true := by
              obtain ⟨c0, q1, q2, q3, q4⟩ := b3 j hjp
              rw [trimL_get] at q2
              have hc0 : c0 < rows[k].length := by have := trimL_len rows[k]; omega
              refine some_of (P := fun z => z = true) (loop_inv (fun z : Int × Bool => ∃ c : Nat, z.1 = c ∧ c ≤ rows[k].length ∧ (c0 < c → z.2 = true)) (fun z => rows[k].length - z.1.toNat) _ (fun z ⟨c, e, hc, hm⟩ => ?_) ⟨0, rfl, Nat.zero_le _, fun h => by omega⟩) (fun y h => h)
              obtain ⟨zi, zb⟩ := z
              dsimp only at e hm ⊢
              subst e
              have hw : IntKind.wrap .i64 ((j : Int) + (c : Int)) = ((j + c : Nat) : Int) := by rw [w64 (by omega) (by omega)]; omega
              have hw3 : IntKind.wrap .i64 ((c : Int) + 1) = ((c + 1 : Nat) : Int) := by rw [w64 (by omega) (by omega)]; omega
              rw [hw, hw3]
              simp only [idx_lt hk, idx_lt hki, Option.bind_some, hidk]
              by_cases hcl : c < rows[k].length
              · left
                rw [decide_eq_true (by omega), cond_true]
                cases zb with
                | true => exact ⟨(((c + 1 : Nat) : Int), true), rfl, ⟨c + 1, rfl, hcl, fun _ => rfl⟩, by dsimp only; omega⟩
                | false =>
                  have hlt0 : ¬ c0 < c := fun g => by have := hm g; cases this
                  simp only [cond_false, idx_lt hcl, Option.bind_some]
                  by_cases hcc : c = c0
                  · subst hcc
                    rw [getO_get hcl] at q2
                    have hlo : j + c < o.length := by
                      rcases Nat.lt_or_ge (j + c) o.length with g | g
                      · exact g
                      · rw [getO_ge g] at q3; omega
                    rw [getO_get hlo] at q3 q4
                    rw [bne_iff_ne.2 q2, cond_true, decide_eq_true (by omega), cond_true, bind_some' (idx_lt hlo), decide_eq_true (by omega), cond_true, bind_some' (idx_lt hlo), decide_eq_true (by omega), Option.bind_some]
                    exact ⟨(((c + 1 : Nat) : Int), true), rfl, ⟨c + 1, rfl, hcl, fun _ => rfl⟩, by dsimp only; omega⟩
                  · have : ∃ v : Bool, (cond (rows[k][c] != (0 : Int))
                        (cond (decide (((j + c : Nat) : Int) < (((List.length o) : Nat) : Int)))
                          ((idx o ((j + c : Nat) : Int)).bind fun e131 =>
                            cond (decide (e131 > (0 : Int)))
                            ((idx o ((j + c : Nat) : Int)).bind fun e140 => some (decide (e140 ≤ (id : Int))))
                            (some false))
                          (some false))
                        (some false)) = some v := by
                      cases (rows[k][c] != 0) with
                      | false => exact ⟨_, rfl⟩
                      | true =>
                        rw [cond_true]
                        by_cases hlo : j + c < o.length
                        · rw [decide_eq_true (by omega), cond_true, bind_some' (idx_lt hlo)]
                          cases decide (o[j + c] > 0) with
                          | false => exact ⟨_, rfl⟩
                          | true => rw [cond_true, bind_some' (idx_lt hlo)]; exact ⟨_, rfl⟩
                        · rw [decide_eq_false (by omega)]; exact ⟨_, rfl⟩
                    obtain ⟨v, hv⟩ := this
                    rw [hv, Option.bind_some]
                    exact ⟨(((c + 1 : Nat) : Int), v), rfl, ⟨c + 1, rfl, hcl, fun g => by omega⟩, by dsimp only; omega⟩
              · right
                rw [decide_eq_false (by omega), cond_false]
                exact ⟨zb, rfl, hm (by omega)⟩
            rw [hin, Option.bind_some, w64 (by omega) (by omega)]
            rfl
          · right
            rw [decide_eq_false (by omega), cond_false]
            exact ⟨_, rfl, rfl⟩
    exact ⟨_, g1, rfl⟩
end Go.Proofs.YtklamaeccniblaaDoor
