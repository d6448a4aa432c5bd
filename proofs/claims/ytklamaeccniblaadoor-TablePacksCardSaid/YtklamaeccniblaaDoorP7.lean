/-
  TABLE, PLAIN 7: the laws TableGoesOn and TableShares of what the statements' functions tell.
  Conditions: numbers of 64 bits; noughts' numbers of 8.
-/
import Derived.Test.YtklamaeccniblaaDoorP6
namespace Go.Proofs.YtklamaeccniblaaDoor
open Go Go.Eng
set_option linter.unusedVariables false

theorem bind_ex {α β : Type} {o : Option α} {f : α → Option β} {x : β} (h : ∃ y, o = some y ∧ f y = some x) : o.bind f = some x := by
  obtain ⟨y, h1, h2⟩ := h
  rw [h1]; exact h2
structure More (ids pl n o ids' base' n' o' : List Int) : Prop where
  hids : ∃ x, ids' = ids ++ [x]
  hbase : ∃ y, base' = baseOf ids pl ++ [y]
  len : n.length ≤ n'.length
  eq : n'.length = o'.length
  keep : ∀ k, getO o k ≠ 0 → getO o' k = getO o k ∧ getO n' k = getO n k
theorem more_ok (rows : List (List Int)) (more : List Int) : ∃ ids pl n o ids' base' n' o', packL rows = (ids, baseOf ids pl, n, o) ∧ packL (rows ++ [more]) = (ids', base', n', o') ∧ n.length = o.length ∧ ids.length = rows.length ∧ More ids pl n o ids' base' n' o' := by
  obtain ⟨ids, out, pl, n, o, x1, x2, x3⟩ := packL_eq rows
  have ok := shareT_ok (rows.map trimL)
  have pk := packT_ok out
  rw [x1] at ok
  rw [x2] at pk
  have hlen : ids.length = rows.length := by have := ok.len; simpa using this
  have hin : ∀ i ∈ ids, ∃ k : Nat, i = (k : Int) ∧ k < out.length := fun i hi => by
    obtain ⟨j, hj, rfl⟩ := List.getElem_of_mem hi
    obtain ⟨k, e1, _, e3⟩ := out_at ok (show j < (rows.map trimL).length by simpa [← hlen] using hj)
    dsimp only at e1 e3
    rw [List.getElem?_eq_getElem hj] at e1
    exact ⟨k, Option.some.inj e1, e3⟩
  refine ⟨ids, pl, n, o, ?_⟩
  have hsh : shareT ((rows ++ [more]).map trimL) = shStep (ids, out) (trimL more) := by
    rw [List.map_append, ← x1]; exact shareT_snoc _ _
  have base : ∀ (pl' : List Int) (x : Int), (∀ k, k < pl.length → getO pl' k = getO pl k) → ∃ y, baseOf (ids ++ [x]) pl' = baseOf ids pl ++ [y] := fun pl' x hpl => by
    refine ⟨getO pl' x.toNat, ?_⟩
    unfold baseOf
    rw [List.map_append]
    refine congrArg (· ++ _) (List.map_congr_left fun i hi => ?_)
    obtain ⟨k, rfl, hk⟩ := hin i hi
    rw [Int.toNat_natCast]
    have := pk.len
    dsimp only at this
    exact hpl k (by omega)
  by_cases hm : trimL more ∈ out
  · have hs : shareT ((rows ++ [more]).map trimL) = (ids ++ [((out.idxOf (trimL more) : Nat) : Int)], out) := by rw [hsh]; unfold shStep; rw [if_pos hm]
    have hp : packL (rows ++ [more]) = (ids ++ [((out.idxOf (trimL more) : Nat) : Int)], baseOf (ids ++ [((out.idxOf (trimL more) : Nat) : Int)]) pl, n, o) := by
      unfold packL
      rw [hs]
      dsimp only
      rw [x2]
    exact ⟨_, _, _, _, x3, hp, pk.eq, hlen, ⟨⟨_, rfl⟩, base pl _ fun _ _ => rfl, Nat.le_refl _, pk.eq, fun _ _ => ⟨rfl, rfl⟩⟩⟩
  · have hs : shareT ((rows ++ [more]).map trimL) = (ids ++ [((out.length : Nat) : Int)], out ++ [trimL more]) := by rw [hsh]; unfold shStep; rw [if_neg hm]
    obtain ⟨k1, k2, k3⟩ := packStep_ok (row := trimL more) pk
    have hq : packT (out ++ [trimL more]) = packStep (pl, n, o) (trimL more) := by rw [packT_snoc, x2]
    have hp : packL (rows ++ [more]) = (ids ++ [((out.length : Nat) : Int)], baseOf (ids ++ [((out.length : Nat) : Int)]) (packStep (pl, n, o) (trimL more)).1, (packStep (pl, n, o) (trimL more)).2.1, (packStep (pl, n, o) (trimL more)).2.2) := by
      unfold packL
      rw [hs]
      dsimp only
      rw [hq]
    refine ⟨_, _, _, _, x3, hp, pk.eq, hlen, ⟨⟨_, rfl⟩, base _ _ fun k hk => ?_, k3, k1.eq, k2⟩⟩
    unfold packStep getO
    dsimp only
    rw [List.getD_eq_getElem?_getD, List.getD_eq_getElem?_getD, List.getElem?_append_left hk]

theorem goes_law {rows : List (List Int)} {more : List Int} (h64 : All64 rows) (m64 : R64 more) : tronagelaw15_TableGoesOn_D rows more = some true := by
  unfold tronagelaw15_TableGoesOn_D
  rw [awake_D, Option.bind_some]
  obtain ⟨b, hb, hf⟩ := few_D rows
  rw [hb, Option.bind_some]
  cases b with
  | false => rfl
  | true =>
    have hf := hf rfl
    have h := (Small.mk hf h64).two
    simp only [Bool.not_true, cond_false]
    by_cases h24 : rows.length ≤ 24
    · rw [decide_eq_false (show ¬ ((rows.length : Nat) : Int) > 24 by omega), cond_false]
      by_cases h25 : more.length ≤ 25
      · rw [decide_eq_false (show ¬ ((more.length : Nat) : Int) > 25 by omega), Option.bind_some, cond_false]
        have h' : Small2 (rows ++ [more]) := by
          refine ⟨by simp; omega, fun r hr => ?_, fun r hr => ?_⟩
          · rcases List.mem_append.1 hr with hr | hr
            · exact h.each r hr
            · rw [List.mem_singleton.1 hr]; omega
          · rcases List.mem_append.1 hr with hr | hr
            · exact h.r64 r hr
            · rw [List.mem_singleton.1 hr]; exact m64
        obtain ⟨ids, pl, n, o, ids', base', n', o', e1, e2, hno, hids, hm⟩ := more_ok rows more
        obtain ⟨⟨x, rfl⟩, ⟨y, rfl⟩, hlen, hno', keep⟩ := hm
        rw [Pack_D h, Option.bind_some, app_ok (by simp; omega), Option.bind_some, app_ok (by simp; omega), Option.bind_some, List.nil_append, Pack_D h', Option.bind_some, e1, e2]
        dsimp only
        have hbl : (baseOf ids pl).length = rows.length := by unfold baseOf; rw [List.length_map]; exact hids
        have c1 : ((((baseOf ids pl ++ [y]).length : Nat) : Int) != IntKind.wrap .i64 (((rows.length : Nat) : Int) + 1)) = false := by
          rw [w64 (by omega) (by omega), List.length_append, hbl]; simp
        have c2 : ((((baseOf ids pl).length : Nat) : Int) != ((rows.length : Nat) : Int)) = false := by rw [hbl]; simp
        rw [c1, cond_false, c2, cond_false]
        unfold table_Packed_Cells_D
        rw [Option.bind_some, Option.bind_some, decide_eq_false (by dsimp only; omega), Option.bind_some, cond_false]
        have hnl : n.length ≤ 1000000 := by
          have ok := shareT_ok (rows.map trimL)
          have hp := packT_len (out := (shareT (rows.map trimL)).2) (fun r hr => h.trim.each r (ok.sub r hr))
          have e : (packL rows).2.2.1 = n := by rw [e1]
          unfold packL at e
          dsimp only at e
          rw [e] at hp
          have := ok.few
          simp at this
          omega
        refine bind_ex ?_
        obtain ⟨z, g1, g2⟩ := forN_all (σ := Unit) (β := Bool) (n := n.length) (f := fun i_z26 z26 =>
            ((idx o i_z26).bind fun e160 =>
            cond (e160 != (0 : Int))
            ((idx n' i_z26).bind fun e169 =>
              (idx n i_z26).bind fun e178 =>
              cond (e169 != e178)
              (some true)
              ((idx o' i_z26).bind fun e189 =>
                (idx o i_z26).bind fun e198 =>
                some (e189 != e198)))
            (some false)).bind fun z28 =>
            cond z28
            (some (Step.done false))
            (some (Step.next ()))) (fun _ _ => True) (by omega) (s := ()) trivial fun k s hk _ => by
              have hko : k < o.length := by omega
              have hkn' : k < n'.length := by omega
              have hko' : k < o'.length := by omega
              refine ⟨(), ?_, trivial⟩
              simp only [idx_lt hko, idx_lt hk, idx_lt hkn', idx_lt hko', Option.bind_some]
              by_cases hx : o[k] = 0
              · rw [hx]; rfl
              · obtain ⟨q1, q2⟩ := keep k (by rw [getO_get hko]; exact hx)
                rw [getO_get hko, getO_get hko'] at q1
                rw [getO_get hk, getO_get hkn'] at q2
                rw [bne_iff_ne.2 hx, cond_true, q1, q2]
                simp
        refine ⟨_, g1, ?_⟩
        dsimp only
        simp only [cond_true]
        have t1 : ((baseOf ids pl ++ [y]).take (rows.length : Int).toNat).drop (0 : Int).toNat = baseOf ids pl := by
          rw [Int.toNat_natCast, ← hbl, List.take_left]; rfl
        have t2 : ((ids ++ [x]).take (rows.length : Int).toNat).drop (0 : Int).toNat = ids := by
          rw [Int.toNat_natCast, ← hids, List.take_left]; rfl
        rw [cut_ok (by omega) (by omega) (by simp; omega), Option.bind_some, t1, Ints_D (by omega), Option.bind_some, decide_eq_true rfl, cond_true, cut_ok (by omega) (by omega) (by simp; omega), Option.bind_some, t2, Ints_D (by omega), Option.bind_some, decide_eq_true rfl]
        rfl
      · rw [decide_eq_true (show ((more.length : Nat) : Int) > 25 by omega)]; rfl
    · rw [decide_eq_true (show ((rows.length : Nat) : Int) > 24 by omega)]; rfl

def U8 (l : List Int) : Prop := ∀ x ∈ l, 0 ≤ x ∧ x ≤ 255
theorem shares_law {rows : List (List Int)} {noughts : List Int} (h64 : All64 rows) (h8 : U8 noughts) : tronagelaw15_TableShares_D rows noughts = some true := by
  unfold tronagelaw15_TableShares_D
  rw [awake_D, Option.bind_some]
  obtain ⟨b, hb, hf⟩ := few_D rows
  rw [hb, Option.bind_some]
  cases b with
  | false => rfl
  | true =>
    have hf := hf rfl
    have h := (Small.mk hf h64).two
    have ok := shareT_ok (rows.map trimL)
    have ht := h.trim
    have hrl : rows.length ≤ 25 := hf.1
    simp only [Bool.not_true, cond_false]
    rw [Share_D h, Option.bind_some]
    obtain ⟨ids, out, hsh⟩ : ∃ ids out, shareT (rows.map trimL) = (ids, out) := ⟨_, _, rfl⟩
    rw [hsh] at ok ⊢
    have hids : ids.length = rows.length := by have := ok.len; simpa using this
    have hout : out.length ≤ 25 := by have := ok.few; simp at this; omega
    have hshort : ∀ x ∈ out, x.length ≤ 100 := fun x hx => ht.each x (ok.sub x hx)
    dsimp only
    have c1 : (((ids.length : Nat) : Int) != ((rows.length : Nat) : Int)) = false := by rw [hids]; simp
    rw [c1, cond_false]
    refine bind_ex ?_
    obtain ⟨z, g1, g2⟩ := forN_all (σ := List (List Int)) (β := Bool) (n := rows.length) (f := fun i_z5 z5 =>
        (idx rows i_z5).bind fun e56 =>
        (app ([] : List Int) e56).bind fun t9 =>
        (loop (σ := (Int × List Int)) (β := List Int) ((0 : Int), t9) fun z11 =>
          (cond (decide (i_z5 < (((List.length noughts) : Nat) : Int)))
          ((idx noughts i_z5).bind fun e94 =>
            need ((10 : Int) ≠ 0) <|
            some (decide (z11.1 < (IntKind.wrap .i64 (Int.tmod e94 (10 : Int))))))
          (some false)).bind fun z12 =>
          cond z12
          ((app z11.2 ([(0 : Int)] : List Int)).bind fun t16 =>
            some (Step.next ((IntKind.wrap .i64 (z11.1 + (1 : Int))), t16)))
          (some (Step.done z11.2))).bind fun z10 =>
        (app z5 ([z10] : List (List Int))).bind fun t18 =>
        ((idx ids i_z5).bind fun e156 =>
        cond (decide (e156 < (0 : Int)))
        (some true)
        ((idx ids i_z5).bind fun e165 =>
          cond (decide (e165 ≥ (((List.length out) : Nat) : Int)))
          (some true)
          ((idx ids i_z5).bind fun e174 =>
            (idx out e174).bind fun e183 =>
            (idx rows i_z5).bind fun e195 =>
            (tronageref15_Trim_D e195).bind fun t30 =>
            (tronageref01_Ints_D e183 t30).bind fun t31 =>
            some (!t31)))).bind fun z19 =>
        cond z19
        (some (Step.done false))
        (some (Step.next t18)))
      (fun k z => z.length = k ∧ ∀ (j : Nat) l, z[j]? = some l → ∃ (hj : j < rows.length) (m : Nat), m ≤ 9 ∧ l = rows[j] ++ List.replicate m 0) (by omega) (s := []) ⟨rfl, fun j l hl => by simp at hl⟩ fun k z hk ⟨hz1, hz2⟩ => by
        have hrk := hf.2 _ (List.getElem_mem hk)
        have hki : k < ids.length := by omega
        obtain ⟨q, a1, a2, a3⟩ := out_at ok (show k < (rows.map trimL).length by simpa using hk)
        dsimp only at a1 a2 a3
        rw [List.getElem?_eq_getElem hki] at a1
        have hq := Option.some.inj a1
        rw [List.getElem_map] at a2
        have hoq : out[q] = trimL rows[k] := by rw [List.getElem?_eq_getElem a3] at a2; exact Option.some.inj a2
        -- the noughts
        have hno : ∃ m : Nat, m ≤ 9 ∧ (loop (σ := (Int × List Int)) (β := List Int) ((0 : Int), rows[k]) fun z11 =>
          (cond (decide ((k : Int) < (((List.length noughts) : Nat) : Int)))
          ((idx noughts (k : Int)).bind fun e94 =>
            need ((10 : Int) ≠ 0) <|
            some (decide (z11.1 < (IntKind.wrap .i64 (Int.tmod e94 (10 : Int))))))
          (some false)).bind fun z12 =>
          cond z12
          ((app z11.2 ([(0 : Int)] : List Int)).bind fun t16 =>
            some (Step.next ((IntKind.wrap .i64 (z11.1 + (1 : Int))), t16)))
          (some (Step.done z11.2))) = some (rows[k] ++ List.replicate m 0) := by
          by_cases hkn : k < noughts.length
          · have hx := h8 _ (List.getElem_mem hkn)
            have htm : Int.tmod noughts[k] 10 = noughts[k] % 10 := Int.tmod_eq_emod_of_nonneg hx.1
            have hw : IntKind.wrap .i64 (Int.tmod noughts[k] 10) = noughts[k] % 10 := by rw [htm]; exact w64 (by omega) (by omega)
            refine ⟨(noughts[k] % 10).toNat, by omega, ?_⟩
            rw [decide_eq_true (by omega)]
            simp only [cond_true, idx_lt hkn, Option.bind_some, hw, need_ok (show (10 : Int) ≠ 0 by decide)]
            refine some_of (P := fun z => z = rows[k] ++ List.replicate (noughts[k] % 10).toNat 0) (loop_inv (fun z : Int × List Int => ∃ j : Nat, j ≤ (noughts[k] % 10).toNat ∧ z = ((j : Int), rows[k] ++ List.replicate j 0)) (fun z => (noughts[k] % 10).toNat - z.1.toNat) _ (fun z ⟨j, hj, e⟩ => ?_) ⟨0, Nat.zero_le _, by simp⟩) (fun y h => h)
            subst e
            dsimp only
            by_cases hjl : j < (noughts[k] % 10).toNat
            · left
              refine ⟨(((j + 1 : Nat) : Int), rows[k] ++ List.replicate (j + 1) 0), ?_, ⟨j + 1, hjl, rfl⟩, by dsimp only; omega⟩
              rw [decide_eq_true (by omega), cond_true, app_ok (by simp; omega), Option.bind_some, w64 (by omega) (by omega), List.replicate_succ', List.append_assoc]
              rfl
            · right
              rw [decide_eq_false (by omega), cond_false]
              exact ⟨_, rfl, by rw [show j = (noughts[k] % 10).toNat by omega]⟩
          · refine ⟨0, by omega, ?_⟩
            rw [loop_eq, decide_eq_false (by omega)]
            simp
        obtain ⟨m, hm, hlp⟩ := hno
        rw [bind_some' (idx_lt hk), app_ok (by simp; omega), Option.bind_some, List.nil_append, hlp, Option.bind_some, app_ok (by simp; omega), Option.bind_some]
        simp only [idx_lt hki, idx_lt hk, Option.bind_some, hq]
        rw [decide_eq_false (by omega), cond_false, decide_eq_false (by omega), cond_false, bind_some' (idx_lt a3), Trim_D (by omega), Option.bind_some, Ints_D (by have := hshort _ (List.getElem_mem a3); omega), Option.bind_some, hoq, decide_eq_true rfl, Option.bind_some]
        refine ⟨_, rfl, by simp [hz1], fun j l hl => ?_⟩
        rcases Nat.lt_or_ge j z.length with g | g
        · rw [List.getElem?_append_left g] at hl; exact hz2 j l hl
        · rw [List.getElem?_append_right g] at hl
          have hj : j = z.length := by
            rcases Nat.eq_zero_or_pos (j - z.length) with g | g
            · omega
            · rw [List.getElem?_eq_none (by simp; omega)] at hl; cases hl
          rw [hj, Nat.sub_self] at hl
          simp at hl
          rw [hz1] at hj
          subst hj
          exact ⟨hk, m, hm, hl.symm⟩
    refine ⟨_, g1, ?_⟩
    dsimp only
    obtain ⟨g2, g3⟩ := g2
    refine bind_ex ?_
    obtain ⟨z', g4, _⟩ := forN_all (σ := Unit) (β := Bool) (n := out.length) (f := fun i_z33 z33 =>
          (forN (σ := Unit) (β := Bool) (0 : Int) i_z33 () fun i_z35 z35 =>
            (idx out i_z33).bind fun e271 =>
            (idx out i_z35).bind fun e283 =>
            (tronageref01_Ints_D e271 e283).bind fun t40 =>
            cond t40
            (some (Step.done false))
            (some (Step.next ()))).bind fun e_z34 => match e_z34 with
          | .next z34 =>
            some (Step.next ())
          | .done q306 => some (Step.done q306)) (fun _ _ => True) (by omega) (s := ()) trivial fun k s hk _ => by
            refine ⟨(), bind_ex ?_, trivial⟩
            obtain ⟨z'', g5, _⟩ := forN_all (σ := Unit) (β := Bool) (n := k) (f := fun i_z35 z35 =>
              (idx out (k : Int)).bind fun e271 => (idx out i_z35).bind fun e283 => (tronageref01_Ints_D e271 e283).bind fun t40 =>
              cond t40 (some (Step.done false)) (some (Step.next ()))) (fun _ _ => True) (by omega) (s := ()) trivial fun j s hj _ => by
                have hjo : j < out.length := by omega
                refine ⟨(), ?_, trivial⟩
                rw [bind_some' (idx_lt hk), bind_some' (idx_lt hjo), Ints_D (by have := hshort _ (List.getElem_mem hk); omega), Option.bind_some]
                have : out[k] ≠ out[j] := fun e => List.pairwise_iff_getElem.1 ok.nodup j k hjo hk hj e.symm
                rw [decide_eq_false this]; rfl
            exact ⟨_, g5, rfl⟩
    refine ⟨_, g4, ?_⟩
    dsimp only
    have hmap : z.map trimL = rows.map trimL := List.ext_getElem? fun j => by
      rw [List.getElem?_map, List.getElem?_map]
      rcases Nat.lt_or_ge j rows.length with g | g
      · have hjz : j < z.length := by omega
        rw [List.getElem?_eq_getElem hjz, List.getElem?_eq_getElem g]
        obtain ⟨_, m, _, e⟩ := g3 j _ (List.getElem?_eq_getElem hjz)
        rw [e, Option.map_some, Option.map_some, trimL_zeros]
      · rw [List.getElem?_eq_none g, List.getElem?_eq_none (by omega)]
    have hzs : Small2 z := by
      refine ⟨by omega, fun r hr => ?_, fun r hr => ?_⟩
      · obtain ⟨j, hj, rfl⟩ := List.getElem_of_mem hr
        obtain ⟨hj', m, hm, e⟩ := g3 j _ (List.getElem?_eq_getElem hj)
        have := hf.2 _ (List.getElem_mem hj')
        rw [e]; simp; omega
      · obtain ⟨j, hj, rfl⟩ := List.getElem_of_mem hr
        obtain ⟨hj', m, hm, e⟩ := g3 j _ (List.getElem?_eq_getElem hj)
        rw [e]
        intro x hx
        rcases List.mem_append.1 hx with hx | hx
        · exact h64 _ (List.getElem_mem hj') x hx
        · rw [List.eq_of_mem_replicate hx]; omega
    rw [Share_D hzs, Option.bind_some, hmap, hsh]
    simp only [cond_true]
    rw [Ints_D (by omega), Option.bind_some, decide_eq_true rfl, cond_true, Lists_D (by omega) (fun x hx => by have := hshort x hx; omega), Option.bind_some, decide_eq_true rfl]
    rfl
end Go.Proofs.YtklamaeccniblaaDoor
