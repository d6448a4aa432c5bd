/-
  Own, Laws2, put together.
  Conditions: none; each part tells its own.
-/
import Derived.Test.YtbpbfoemghcfaaaDoorK4
/-
  DIGRAPH: DigraphOwn: its contract, and its law.
  Conditions: as the plain function promises.
-/
namespace Go.Proofs.YtbpbfoemghcfaaaDoor
open Go Go.Eng
set_option linter.unusedVariables false
set_option maxRecDepth 100000
noncomputable def ownWas (B : List SetD) : Option (List (List Int)) :=
  forS 0 (B.length : Int) ([] : List (List Int)) fun i acc => (idx B i).bind fun s => (listD s).bind fun l => app acc [l]
noncomputable def ownDo (R : List SetD) : Option (List SetD) :=
  forS 0 (R.length : Int) R fun i R => (idx R i).bind fun s => (bitset_Set_Add_D s 49).bind fun t => (bitset_Set_Drop_D t.2 0).bind fun u => setI R i u.2
noncomputable def ownSame (B : List SetD) (was : List (List Int)) : Option (Step Unit Bool) :=
  forN (β := Bool) 0 (B.length : Int) () fun i _ => (idx B i).bind fun s => (idx was i).bind fun w => (listD s).bind fun l => (tronageref01_Ints_D l w).bind fun t =>
    (cond (!t) (some true) (some (s.1 != (50 : Int)))).bind fun z => cond z (some (Step.done false)) (some (Step.next ()))
noncomputable def ownD (ll base : List (List Int)) : Option Bool :=
  tronagelaw12_awake_D.bind fun ok =>
  (tronagelaw12_few_D ll base).bind fun small =>
  cond (!small) (some ok) <|
  (setsD base 50).bind fun B =>
  (ownWas B).bind fun was =>
  (solveD ll B).bind fun R =>
  cond ((R.length : Int) != (B.length : Int)) (some false) <|
  (ownDo R).bind fun _ =>
  (ownSame B was).bind fun e => match e with
  | .next _ => some ok
  | .done q => some q
abbrev BackB (φ : Snap) (F : List Chk) (r : Bool) : Fin → Heap → Prop := Back fun v h' => ∃ ψ : Snap, ∃ y : Bool, Sub φ ψ ∧ v = ((.one (.atom .bool)) : Sh).val y ∧ y = r ∧ St ψ F h'
/-- Sets in a row ahead of what is put aside. -/
theorem aside {φ : Snap} {h : Heap} {c : Chk} {L F : List Chk} (H : St φ (c :: (L ++ F)) h) : St φ (L ++ (F ++ [c])) h := by
  have h2 := H.perm (List.perm_append_comm (l₁ := [c]) (l₂ := L ++ F))
  rw [List.append_assoc] at h2
  exact h2
theorem ashore {φ : Snap} {h : Heap} {c : Chk} {L F : List Chk} (H : St φ (L ++ (F ++ [c])) h) : St φ (c :: (L ++ F)) h := by
  rw [← List.append_assoc] at H
  exact H.perm List.perm_append_comm
set_option maxHeartbeats 1000000 in
theorem own_sim {φ : Snap} {h : Heap} {F : List Chk} {t b : Slc} {ll base : List (List Int)} (gk : Glob φ) (k : Ro.SliceIs (Ro.list (Ro.int .i64)) φ t ll) (kb : Ro.SliceIs (Ro.list (Ro.int .i64)) φ b base) (s0 : St φ F h) {r : Bool} (hd : ownD ll base = some r) :
    CallsH Tryd.prog 8 [.slice t.1 t.2.1 t.2.2, .slice b.1 b.2.1 b.2.2] h (BackB φ F r) := by
  refine calls_of mixed Tryd.func8 ?_
  rw [tronagelaw12_DigraphOwn_den]
  unfold tronagelaw12_DigraphOwn_T
  unfold ownD at hd
  obtain ⟨ok, hok, hd⟩ := Option.bind_eq_some_iff.1 hd
  refine s_call (tronagelaw12_awake_sim gk s0 hok) ?_
  rintro _ h1 ⟨ψ1, t1, le1, rfl, rfl, s1⟩
  refine ⟨t1, rfl, ?_⟩
  obtain ⟨sm, hsm, hd⟩ := Option.bind_eq_some_iff.1 hd
  refine s_call (tronagelaw12_few_sim (k.mono le1) (kb.mono le1) s1 hsm) ?_
  rintro _ h2 ⟨ψ2, t2, le2, rfl, rfl, s2⟩
  refine ⟨t2, rfl, ?_⟩
  have le12 := le1.trans le2
  refine s_cond hd rfl (fun _ hd => ?_) (fun _ hd => ?_)
  · obtain rfl := Option.some.inj hd
    exact finOf_back ⟨ψ2, t1, le12, rfl, rfl, s2⟩
  obtain ⟨B, hB, hd⟩ := Option.bind_eq_some_iff.1 hd
  refine s_call (sets_sim (kb.mono le12) s2 hB) ?_
  rintro _ h3 ⟨ψ3, y3, ps, le3, rfl, hl, s3⟩
  refine ⟨y3, rfl, ?_⟩
  obtain ⟨ψ4, le4, kp, s4⟩ := s3.freezeRow
  have le14 := (le12.trans le3).trans le4
  have np : y3.2.1 = B.length := kp.length.trans hl
  obtain ⟨was, hwas, hd⟩ := Option.bind_eq_some_iff.1 hd
  refine s_block (fun (z : Int × Slc × Bool × Unit) w (g : List (List Int)) => ∃ ψ, Sub ψ4 ψ ∧ St ψ (rowL z.2.1 g :: (objsC ps B ++ F)) w) (g := was) ?_ ?_
  · refine s_forS hwas (fun i (z : Int × Slc × Bool × Unit) w (g : List (List Int)) => z.1 = i ∧ ∃ ψ, Sub ψ4 ψ ∧ St ψ (rowL z.2.1 g :: (objsC ps B ++ F)) w) ((0 : Int), ((none, 0, 0) : Slc), false, ()) rfl ⟨rfl, ψ4, Sub.refl _, St.nil _ _ s4⟩ ?_ ?_
    · rintro i z w g e ⟨hz, ψ, le, st⟩ he h0 hlt hw
      subst hz
      refine t_true (by rw [np]; exact decide_eq_true hlt) ?_
      obtain ⟨s, hs, he⟩ := Option.bind_eq_some_iff.1 he
      obtain ⟨l, hls, he⟩ := Option.bind_eq_some_iff.1 he
      obtain ⟨_, hs1, p, hp, hp'⟩ := idx_of hl hs
      obtain ⟨A1, cs1, ea1, hi1, q1, cl1⟩ := (kp.mono le).get hp'
      refine t_deref _ ea1 (t_chk hi1 ?_)
      obtain rfl := q1
      refine s_load (x := p) (cellS_mono st.sub (cl1 0 _ rfl)) rfl ?_
      obtain ⟨rr, w1, w2⟩ := objs_ahead hp hs1 (aside st)
      refine t_false (setC_ptr w1) ?_
      refine t_deref _ ea1 (t_chk hi1 ?_)
      refine s_load (x := p) (cellS_mono st.sub (cl1 0 _ rfl)) rfl ?_
      refine s_call (list_ro (gk.mono (le14.trans le)) w1 hls) ?_
      rintro _ h5 ⟨ψ5, y5, le5, rfl, k5, st2⟩
      refine ⟨y5, rfl, ?_⟩
      have st3 : St ψ5 (rowL z.2.1 g :: (objsC ps B ++ F)) h5 := ashore (w2 ψ5 h5 [] st2)
      refine s_new (vs := [.slice y5.1 y5.2.1 y5.2.2]) st3 ?_
      intro r11 h6 st4
      have cw := St.cells st4
      refine s_append (r := Ro.list (Ro.int .i64)) (ms := [l]) app22 (st4.tail) rfl cw (.cons (a := [_]) ⟨y5, rfl, k5⟩ .nil) rfl he ?_
      intro t12 h7 st5
      exact s_next (IntKind.wrap .i64 (z.1 + (1 : Int)), t12, z.2.2.1, ()) _ rfl rfl ⟨hw, ψ5, le.trans le5, st5⟩
    · rintro i z w ⟨hz, H⟩ hge
      subst hz
      refine t_false (by rw [np]; exact decide_eq_false (Int.not_lt.2 hge)) ?_
      exact around_brk (meetB_brk z rfl H)
  rintro z4 w4 ⟨ψ5, le5, s5⟩
  obtain ⟨ψ6, le6, kw, s6⟩ := s5.freezeRow
  have le46 := le5.trans le6
  have le16 := le14.trans le46
  obtain ⟨R, hR, hd⟩ := Option.bind_eq_some_iff.1 hd
  refine s_call (solve_sim (gk.mono le16) (k.mono le16) (kp.mono le46) hl s6 hR) ?_
  rintro _ h8 ⟨ψ7, y7, qs, le7, rfl, hlq, s7⟩
  refine ⟨y7, rfl, ?_⟩
  obtain ⟨ψ8, le8, kq, s8⟩ := s7.freezeRow
  have le68 := le7.trans le8
  have nq : y7.2.1 = R.length := kq.length.trans hlq
  rw [nq, np]
  refine s_cond hd rfl (fun _ hd => ?_) (fun _ hd => ?_)
  · obtain rfl := Option.some.inj hd
    exact finOf_back ⟨ψ8, false, le16.trans le68, rfl, rfl, St.drop _ (St.drop _ s8)⟩
  obtain ⟨R', hR', hd⟩ := Option.bind_eq_some_iff.1 hd
  refine s_block (fun (z : Int × Bool × Unit) w (g : List SetD) => ∃ ψ, Sub ψ8 ψ ∧ St ψ (objsC qs g ++ (objsC ps B ++ F)) w) (g := R') ?_ ?_
  · refine s_forS hR' (fun i (z : Int × Bool × Unit) w (g : List SetD) => z.1 = i ∧ g.length = R.length ∧ ∃ ψ, Sub ψ8 ψ ∧ St ψ (objsC qs g ++ (objsC ps B ++ F)) w) ((0 : Int), z4.2.2.1, ()) rfl ⟨rfl, rfl, ψ8, Sub.refl _, s8⟩ ?_ ?_
    · rintro i z w g e ⟨hz, hg, ψ, le, st⟩ he h0 hlt hw
      subst hz
      refine t_true (decide_eq_true hlt) ?_
      obtain ⟨s, hs, he⟩ := Option.bind_eq_some_iff.1 he
      obtain ⟨u, hu, he⟩ := Option.bind_eq_some_iff.1 he
      obtain ⟨v, hv, he⟩ := Option.bind_eq_some_iff.1 he
      obtain ⟨_, hs1, p, hp, hp'⟩ := idx_of (hlq.trans hg.symm) hs
      obtain ⟨A1, cs1, ea1, hi1, q1, cl1⟩ := (kq.mono le).get hp'
      rw [nq] at hi1
      refine t_deref _ ea1 (t_chk hi1 ?_)
      obtain rfl := q1
      refine s_load (x := p) (cellS_mono st.sub (cl1 0 _ rfl)) rfl ?_
      obtain ⟨rr, a1, a2⟩ := objs_put hp hs1
      have w1 : St ψ (setC p s :: (rr ++ (objsC ps B ++ F))) w := st.perm (List.Perm.append_right _ a1)
      refine t_false (setC_ptr w1) ?_
      refine t_deref _ ea1 (t_chk hi1 ?_)
      refine s_load (x := p) (cellS_mono st.sub (cl1 0 _ rfl)) rfl ?_
      refine s_call (bitset_Set_Add_sim w1 hu) ?_
      rintro _ h9 ⟨ψ9, y9, l9, le9, rfl, rfl, w2⟩
      refine ⟨y9, rfl, ?_⟩
      dsimp only at hv
      refine t_deref _ ea1 (t_chk hi1 ?_)
      refine s_load (x := p) (cellS_mono (le9.trans w2.sub) (cl1 0 _ rfl)) rfl ?_
      refine s_call (bitset_Set_Drop_sim w2 hv) ?_
      rintro _ h10 ⟨ψ10, y10, l10, le10, rfl, rfl, w3⟩
      refine ⟨y10, rfl, ?_⟩
      dsimp only at he
      obtain ⟨_, _, rfl⟩ := setI_some he
      exact s_next (IntKind.wrap .i64 (z.1 + (1 : Int)), z.2.1, ()) _ rfl rfl ⟨hw, by rw [List.length_set]; exact hg, ψ10, (le.trans le9).trans le10, w3.perm (List.Perm.append_right _ (a2 l10)).symm⟩
    · rintro i z w ⟨hz, _, H⟩ hge
      subst hz
      refine t_false (decide_eq_false (Int.not_lt.2 hge)) ?_
      exact around_brk (meetB_brk z rfl H)
  rintro z14 w14 ⟨ψ11, le11, s11⟩
  obtain ⟨e, heS, hd⟩ := Option.bind_eq_some_iff.1 hd
  have le611 := le68.trans le11
  have le411 := le46.trans le611
  refine s_block (fun (z : Int × Bool × Unit) w (g : Step Unit Bool) => Step.next () = g ∧ ∃ ψ, Sub ψ11 ψ ∧ St ψ (objsC ps B ++ F) w) (g := e) ?_ ?_
  · refine s_forN heS (fun i (z : Int × Bool × Unit) w (g : Unit) => z.1 = i ∧ ∃ ψ, Sub ψ11 ψ ∧ St ψ (objsC ps B ++ F) w) ((0 : Int), z14.2.1, ()) rfl ⟨rfl, ψ11, Sub.refl _, St.drop _ s11⟩ ?_ ?_
    · rintro i z w g e' ⟨hz, ψ, le, st⟩ he h0 hlt hw hb
      subst hz
      refine t_true (decide_eq_true hlt) ?_
      obtain ⟨s, hs, he⟩ := Option.bind_eq_some_iff.1 he
      obtain ⟨ws, hws, he⟩ := Option.bind_eq_some_iff.1 he
      obtain ⟨l, hls, he⟩ := Option.bind_eq_some_iff.1 he
      obtain ⟨q, hq, he⟩ := Option.bind_eq_some_iff.1 he
      obtain ⟨z', hz', he⟩ := Option.bind_eq_some_iff.1 he
      obtain ⟨_, hs1, p, hp, hp'⟩ := idx_of hl hs
      have lep := le411.trans le
      obtain ⟨A1, cs1, ea1, hi1, q1, cl1⟩ := (kp.mono lep).get hp'
      rw [np] at hi1
      obtain rfl := q1
      have lew := le611.trans le
      obtain ⟨A2, cs2, ea2, hi2, ⟨t30, q2, k30⟩, cl2⟩ := (kw.mono lew).get hws
      subst q2
      refine s_join (fun (z6 : Bool × Unit) w (g' : Bool) => z6.1 = g' ∧ ∃ ψ', Sub ψ ψ' ∧ St ψ' (objsC ps B ++ F) w) (g := z') ?_ ?_
      · refine t_deref _ ea1 (t_chk hi1 ?_)
        refine s_load (x := p) (cellS_mono st.sub (cl1 0 _ rfl)) rfl ?_
        refine t_deref _ ea2 (t_chk hi2 ?_)
        refine s_load (x := t30) (cellS_mono st.sub (cl2 0 _ rfl)) rfl ?_
        obtain ⟨rr, w1, w2⟩ := objs_ahead hp hs1 st
        refine s_call (list_ro (gk.mono ((le14.trans le411).trans le)) w1 hls) ?_
        rintro _ h5 ⟨ψ5, y5, le5, rfl, k5, st2⟩
        refine ⟨y5, rfl, ?_⟩
        have st3 : St ψ5 (objsC ps B ++ F) h5 := w2 ψ5 h5 [] st2
        refine t_still (cellS_mono (le5.trans st3.sub) (cl2 0 _ rfl)) ?_
        refine s_call (tronageref01_Ints_sim k5 (k30.mono le5) st3 hq) ?_
        rintro _ h6 ⟨ψ6, y6, le6, rfl, rfl, st4⟩
        refine ⟨y6, rfl, ?_⟩
        have le56 := le5.trans le6
        refine s_cond hz' rfl (fun _ hg => ?_) (fun _ hg => ?_)
        · obtain rfl := Option.some.inj hg
          exact s_out (true, ()) rfl ⟨rfl, ψ6, le56, st4⟩
        · obtain rfl := Option.some.inj hg
          refine t_deref _ ea1 (t_chk hi1 ?_)
          refine s_load (x := p) (cellS_mono (le56.trans st4.sub) (cl1 0 _ rfl)) rfl ?_
          obtain ⟨rr, w1, w2⟩ := objs_ahead hp hs1 st4
          refine s_call (bitset_Set_Width_sim w1 (r := s.1) rfl) ?_
          rintro _ h7 ⟨ψ7, y7, le7, rfl, rfl, st5⟩
          refine ⟨s.1, rfl, ?_⟩
          exact s_out (s.1 != (50 : Int), ()) rfl ⟨rfl, ψ7, le56.trans le7, w2 ψ7 h7 [] st5⟩
      · rintro z6 w6 ⟨rfl, ψ', le', st'⟩
        refine s_cond he rfl (fun _ hg => ?_) (fun _ hg => ?_)
        · obtain rfl := Option.some.inj hg
          obtain rfl := hb _ rfl
          dsimp only at hd
          obtain rfl := Option.some.inj hd
          exact around_ret (meetB_ret (finOf_back ⟨ψ', false, (((le14.trans le411).trans le).trans le'), rfl, rfl, St.drop _ st'⟩))
        · obtain rfl := Option.some.inj hg
          exact s_next (IntKind.wrap .i64 (z.1 + (1 : Int)), z.2.1, ()) _ rfl rfl ⟨hw, ψ', le.trans le', st'⟩
    · rintro i z w g ⟨hz, H⟩ hge hr
      subst hz
      refine t_false (decide_eq_false (Int.not_lt.2 hge)) ?_
      exact around_brk (meetB_brk z rfl ⟨by rw [hr], H⟩)
  rintro z24 w24 ⟨rfl, ψ12, le12', s12⟩
  dsimp only at hd
  obtain rfl := Option.some.inj hd
  exact finOf_back ⟨ψ12, t1, ((le14.trans le411).trans le12'), rfl, rfl, St.drop _ s12⟩
theorem own_law (ll base : List (List Int)) : ownD ll base = some true := by
  unfold ownD
  rw [awake_ok, Option.bind_some]
  obtain ⟨b, eb, hb⟩ := few_ok ll base
  rw [eb, Option.bind_some]
  cases b with
  | false => rfl
  | true =>
    simp only [Bool.not_true, cond_false]
    obtain ⟨s1, s2, s3, s4⟩ := few_small (hb rfl)
    obtain ⟨B, eB, lB, pB⟩ := sets_ok (base := base) (wide := 50) (by decide) (by decide) s4 s2
    have hB : ∀ (k : Nat) (s : SetD), B[k]? = some s → OkS s ∧ s.1 = 50 := fun k s h => ⟨(pB k s h).1, (pB k s h).2.1⟩
    rw [eB, Option.bind_some]
    obtain ⟨was, ew, lw, pw⟩ := forS_list (f := fun i (acc : List (List Int)) => (idx B i).bind fun s => (listD s).bind fun l => app acc [l]) (n := B.length) (by omega) (fun k l => ∃ s, B[k]? = some s ∧ l = bitsS s) (fun k acc hk ha => by
      have := hB k _ (List.getElem?_eq_getElem hk)
      exact ⟨bitsS B[k], by rw [idx_lt hk, Option.bind_some, listD_ok this.1, Option.bind_some, app1 (by omega)], _, List.getElem?_eq_getElem hk, rfl⟩)
    rw [show ownWas B = some was from ew, Option.bind_some]
    obtain ⟨R, eR, lR, pR⟩ := solve_ok (ll := ll) (B := B) (wide := 50) (by decide) (by decide) (by omega) s1 hB
    rw [eR, Option.bind_some, show ((R.length : Int) != (B.length : Int)) = false by simp; omega, cond_false]
    obtain ⟨R', eD, _⟩ := forS_inv (f := fun i (R : List SetD) => (idx R i).bind fun s => (bitset_Set_Add_D s 49).bind fun t => (bitset_Set_Drop_D t.2 0).bind fun u => setI R i u.2) (n := R.length) (fun k (Z : List SetD) => Z.length = R.length ∧ ∀ (j : Nat) (s : SetD), Z[j]? = some s → OkS s) (by omega) (s := R) ⟨rfl, fun j s h => (pR j s h).1⟩ (fun k Z hk ⟨g1, g2⟩ => by
      have hk' : k < Z.length := by omega
      have hz := g2 k _ (List.getElem?_eq_getElem hk')
      obtain ⟨s1, e1, h1, _, _⟩ := add_ok hz 49
      obtain ⟨s2, e2, h2, _, _⟩ := drop_ok h1 0
      rw [idx_lt hk', Option.bind_some, e1, Option.bind_some, e2, Option.bind_some, setI_ok (by omega) (by omega)]
      refine ⟨_, rfl, by rw [List.length_set]; exact g1, fun j s h => ?_⟩
      rw [List.getElem?_set] at h
      split at h
      · split at h
        · cases h; exact h2
        · cases h
      · exact g2 j s h)
    rw [show ownDo R = some R' from eD, Option.bind_some]
    obtain ⟨u, eU, _⟩ := forN_all (f := fun i (_ : Unit) => (idx B i).bind fun s => (idx was i).bind fun w => (listD s).bind fun l => (tronageref01_Ints_D l w).bind fun t =>
      (cond (!t) (some true) (some (s.1 != (50 : Int)))).bind fun z => cond z (some (Step.done false)) (some (Step.next ()))) (β := Bool) (n := B.length) (fun _ _ => True) (by omega) (s := ()) trivial (fun k s hk _ => ⟨(), by
        obtain ⟨g1, g2⟩ := hB k _ (List.getElem?_eq_getElem hk)
        have hw : k < was.length := by omega
        obtain ⟨s', h1, h2⟩ := pw k _ (List.getElem?_eq_getElem hw)
        rw [List.getElem?_eq_getElem hk] at h1
        cases h1
        rw [idx_lt hk, Option.bind_some, idx_lt hw, Option.bind_some, listD_ok g1, Option.bind_some, h2, ints_refl (by have := bitsS_short g1; omega), Option.bind_some, g2]
        rfl, trivial⟩)
    rw [show ownSame B was = some (Step.next u) from eU]
    rfl
end Go.Proofs.YtbpbfoemghcfaaaDoor

/-
  DIGRAPH: DigraphShared and DigraphOwn over heaps.
  Conditions: the arguments' cells are there.
-/
namespace Go.Proofs.YtbpbfoemghcfaaaDoor
open Go Go.Eng
set_option linter.unusedVariables false
section
variable {h : Heap}
theorem shared {n m : Nat} {p q : Option Addr} {len cap len' cap' : Nat} (gk : Glob (snap h)) (hr : Reads Tryd.prog h n 22 [.slice p len cap]) (hm : Reads Tryd.prog h m 22 [.slice q len' cap']) :
    CallsH Tryd.prog 7 [.slice p len cap, .slice q len' cap'] h (Back (Truth h)) := by
  obtain ⟨l, h1⟩ := rows_in hr
  obtain ⟨l', h1'⟩ := rows_in hm
  exact truth_of (tronagelaw12_DigraphShared_sim gk h1 h1' (St.start h) (shared_law l l'))
theorem own_ {n m : Nat} {p q : Option Addr} {len cap len' cap' : Nat} (gk : Glob (snap h)) (hr : Reads Tryd.prog h n 22 [.slice p len cap]) (hm : Reads Tryd.prog h m 22 [.slice q len' cap']) :
    CallsH Tryd.prog 8 [.slice p len cap, .slice q len' cap'] h (Back (Truth h)) := by
  obtain ⟨l, h1⟩ := rows_in hr
  obtain ⟨l', h1'⟩ := rows_in hm
  exact truth_of (own_sim gk h1 h1' (St.start h) (own_law l l'))
end
end Go.Proofs.YtbpbfoemghcfaaaDoor
