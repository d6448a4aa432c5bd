/-
  THE MAILBOX: what moves; the chapter's examples; the laws MailboxLooks and MailboxRoom, over a heap.
  Conditions: the arguments' cells are there.
-/
import Derived.Test.YtaghpjmgnjkejaaRef
import Derived.Test.YtaghpjmgnjkejaaEngR
namespace Go.Proofs.Ytaghpjmgnjkejaa
open Go Go.Eng
set_option linter.unusedVariables false

theorem Keep.own {M : List Nat} {a b c : Heap} (h : Keep [] a b) (k : Keep M b c) (hM : ∀ i, i ∈ M → a.size ≤ i) : Keep [] a c := h.new k fun i hi => .inr (hM i hi)

theorem awake (h : Heap) : CallsH Try.prog 8 [] h (Back fun v h' => v = .bool true ∧ Keep [] h h') := by
  refine calls_of mixed Try.func8 ?_
  rw [tronagelaw04_awake_den]
  unfold tronagelaw04_awake_T
  refine t_callB (newS 2 h) fun v h1 ⟨b, c, hv, B, K1, hb, hc⟩ => ⟨some ⟨b, 0, none⟩, hv, t_false rfl ?_⟩
  rw [show roomOf 2 = 2 from rfl] at B
  refine t_callB (offerS _ B) fun v h2 ⟨hv, B2, K2⟩ => ⟨true, by simpa using hv, ?_⟩
  refine t_callB (offerS _ B2) fun v h3 ⟨hv, B3, K3⟩ => ⟨true, by simpa using hv, ?_⟩
  refine t_callB (offerS _ B3) fun v h4 ⟨hv, B4, K4⟩ => ⟨false, by simpa using hv, ?_⟩
  have B4' : BoxAt h4 b c 2 [.string { data := #[97] }, .string { data := #[98] }] := by simpa using B4
  refine t_callB (pollS B4') fun v h5 ⟨hv, B5, K5⟩ => ⟨({ data := #[97] }, true, ()), hv, ?_⟩
  refine t_callB (offerS _ B5) fun v h6 ⟨hv, B6, K6⟩ => ⟨true, by simpa using hv, ?_⟩
  have B6' : BoxAt h6 b c 2 [.string { data := #[98] }, .string { data := #[99] }] := by simpa using B6
  refine t_callB (allS B6' (by simp) (by simp) (by simp)) fun v h7 ⟨p, cc, hv, o, B7, K7, hn⟩ => ⟨(p, 2, cc), hv, ?_⟩
  have kk : Keep [] h h7 := Keep.own K1 (((((K2.trans K3).trans K4).trans K5).trans K6).trans K7) (fun i hi => by simp at hi; omega)
  obtain ⟨a, ha, h0⟩ := o.cells 0 _ rfl
  obtain ⟨a', ha', h1'⟩ := o.cells 1 _ rfl
  rw [ha] at ha'; cases ha'
  refine t_join (t_true rfl (t_true rfl (t_true rfl (t_true (by simp) (t_true rfl (t_true rfl (t_true rfl (t_deref a ha (t_chk (by simp) (t_load _ h0 (t_true (by simp) (t_deref a ha (t_chk (by simp) (t_load _ h1' (t_jout (true, ()) (by simp; rfl) ?_)))))))))))))))
  exact t_ret (finOf_back ⟨rfl, kk⟩)

/-! ## moves -/
theorem move {h : Heap} {b1 c1 cap1 b2 c2 cap2 : Nat} {xs ys : List Int} (B1 : BoxAt h b1 c1 cap1 (xs.map vI)) (B2 : BoxAt h b2 c2 cap2 (ys.map vI)) (h1 : b1 ≠ c2) (h2 : b2 ≠ c1) (h3 : c1 ≠ c2) (hx : xs.length ≤ 1000000) :
    CallsH Try.prog 24 [.pointer (some ⟨b1, 0, none⟩), .pointer (some ⟨b2, 0, none⟩)] h
      (Back fun v h' => v = .int .i64 (min xs.length (cap2 - ys.length) : Nat) ∧ BoxAt h' b1 c1 cap1 ((xs.drop (min xs.length (cap2 - ys.length))).map vI) ∧
        BoxAt h' b2 c2 cap2 ((ys ++ xs.take (min xs.length (cap2 - ys.length))).map vI) ∧ Keep [c1, c2] h h') := by
  refine calls_of mixed Try.func24 ?_
  rw [mailbox_Move_int_den]
  unfold mailbox_Move_int_T
  have n1 := B1.ne
  have n2 := B2.ne
  refine t_for (fun y g => ∃ k, k ≤ xs.length ∧ (k = 0 ∨ ys.length + k ≤ cap2) ∧ y.1 = (k : Nat) ∧ BoxAt g b1 c1 cap1 ((xs.drop k).map vI) ∧ BoxAt g b2 c2 cap2 ((ys ++ xs.take k).map vI) ∧ Keep [c1, c2] h g)
    (fun y _ => xs.length - y.1.toNat)
    (fun y g => ∃ k, k = min xs.length (cap2 - ys.length) ∧ y.1 = (k : Nat) ∧ BoxAt g b1 c1 cap1 ((xs.drop k).map vI) ∧ BoxAt g b2 c2 cap2 ((ys ++ xs.take k).map vI) ∧ Keep [c1, c2] h g)
    (0, ()) rfl ⟨0, by omega, .inl rfl, rfl, by simpa using B1, by simpa using B2, Keep.refl _ _⟩ ?_ ?_
  · rintro ⟨z, u⟩ g ⟨k, hk, hk2, e1, C1, C2, K⟩
    dsimp only at e1 ⊢
    subst e1
    refine t_join (t_callB (lenI C1) fun v g1 ⟨hv, hg⟩ => ⟨_, hv, ?_⟩)
    subst hg
    simp only [List.length_map, List.length_drop]
    refine t_cond (fun hlt => ?_) (fun hge => ?_)
    · have hlt : k < xs.length := by simp at hlt; omega
      refine t_callB (lenI C2) fun v g2 ⟨hv, hg⟩ => ⟨_, hv, ?_⟩
      subst hg
      refine t_callB (roomI C2) fun v g3 ⟨hv, hg⟩ => ⟨_, hv, ?_⟩
      subst hg
      refine t_jout (_, ()) rfl ?_
      simp only [List.length_map, List.length_append, List.length_take]
      refine t_cond (fun hr => ?_) (fun hr => ?_)
      · have hr : ys.length + k < cap2 := by simp at hr; omega
        have hd : xs.drop k = xs[k] :: xs.drop (k + 1) := List.drop_eq_getElem_cons hlt
        have ht : xs.take (k + 1) = xs.take k ++ [xs[k]] := by rw [List.take_add_one, List.getElem?_eq_getElem hlt]; rfl
        rw [hd] at C1
        refine t_callB (pollI C1) fun v g4 hg => ?_
        obtain ⟨hv, C3, K3⟩ := hg
        refine ⟨(xs[k], true, ()), hv, ?_⟩
        have C4 := C2.keep K3 (by simp; exact h2) (by simp; exact h3.symm)
        refine t_callB (offerI xs[k] C4) fun v g5 ⟨hv, C5, K5⟩ => ⟨_, hv, ?_⟩
        have hl : (List.map vI (ys ++ List.take k xs)).length < cap2 := by simp; omega
        rw [if_pos hl] at C5
        have C6 := C3.keep K5 (by simp; exact h1) (by simp; exact h3)
        refine t_next ((k : Int) + 1, ()) (by rw [w64 (by omega) (by omega)]; rfl) ⟨k + 1, hlt, .inr (by omega), by simp, C6, ?_, (K.trans (K3.mono (by simp))).trans (K5.mono (by simp))⟩ (by simp; omega)
        rw [ht, ← List.append_assoc, List.map_append]; exact C5
      · have hr : cap2 ≤ ys.length + k := by simp at hr; omega
        exact t_exit (_, ()) rfl ⟨k, by omega, rfl, C1, C2, K⟩
    · have hge : k = xs.length := by simp at hge; omega
      refine t_jout (false, ()) rfl (t_false rfl (t_exit (_, ()) rfl ⟨k, by omega, rfl, C1, C2, K⟩))
  · rintro ⟨z, u⟩ g ⟨k, hk, e1, C1, C2, K⟩
    dsimp only at e1 ⊢
    subst e1 hk
    exact t_ret (finOf_back ⟨rfl, C1, C2, K⟩)


theorem looks (room often : Int) {p : Option Addr} {n c0 : Nat} {ls : List ByteArray} {h : Heap} (hp : CellsAt h p (ls.map .string)) (hn : ls.length = n) :
    CallsH Try.prog 3 [.int .i64 room, .slice p n c0, .int .i64 often] h (Back (Truth h)) := by
  refine calls_of mixed Try.func3 ?_
  rw [tronagelaw04_MailboxLooks_den]
  unfold tronagelaw04_MailboxLooks_T
  refine t_callB (awake h) fun v h1 ⟨hv, K1⟩ => ⟨true, hv, ?_⟩
  refine t_callB (newS room h1) fun v h2 ⟨b, c, hv, B, K2, hb, hc⟩ => ⟨some ⟨b, 0, none⟩, hv, ?_⟩
  have hlt := B.lt
  have K12 : Keep [] h h2 := K1.trans K2
  have hs1 := K1.1
  have done : ∀ (z : Bool), z = true → (cond z (T.join [(.atom .bool)] (cond true (T.out [(.bool (!(Option.isNone (some (⟨b, 0, none⟩ : Addr)))))]) (T.out [(.bool false)])) fun (z4 : Bool × Unit) => T.ret (.bool z4.1)) T.stuck).wp Try.prog (finOf (Back (Truth h))) h2 := fun z hz => t_true hz (t_join (t_true rfl (t_jout (true, ()) rfl (t_ret (finOf_back ⟨rfl, K12⟩)))))
  refine t_join (t_false rfl (t_cond (fun hbig => ?_) (fun hsmall => ?_)))
  · exact t_jout (true, ()) rfl (t_true rfl (t_join (t_true rfl (t_jout (true, ()) rfl (t_ret (finOf_back ⟨rfl, K12⟩))))))
  refine t_jout (_, ()) rfl (t_cond (fun hbig => ?_) (fun hfew => ?_))
  · exact t_join (t_true rfl (t_jout (true, ()) rfl (t_ret (finOf_back ⟨rfl, K12⟩))))
  have hn70 : n ≤ 70 := by simp at hsmall; omega
  have ho10 : often ≤ 10 := by simpa using hfew
  -- the texts are offered
  refine t_for (fun y g => ∃ k acc, k ≤ n ∧ y.1 = (k : Nat) ∧ y.2.1.2.1 = acc.length ∧ acc.length ≤ k ∧ acc.length ≤ roomOf room ∧ Own 1 9 g y.2.1.1 acc.length y.2.1.2.2 (acc.map Value.string) ∧
      BoxAt g b c (roomOf room) (acc.map Value.string) ∧ Keep [c] h2 g ∧ ∀ i, i ∈ blk y.2.1.1 → h2.size ≤ i)
    (fun y _ => n - y.1.toNat)
    (fun y g => ∃ acc : List ByteArray, acc.length ≤ n ∧ y.2.1.2.1 = acc.length ∧ acc.length ≤ roomOf room ∧ Own 1 9 g y.2.1.1 acc.length y.2.1.2.2 (acc.map Value.string) ∧
      BoxAt g b c (roomOf room) (acc.map Value.string) ∧ Keep [c] h2 g ∧ ∀ i, i ∈ blk y.2.1.1 → h2.size ≤ i)
    (0, (none, 0, 0), ()) rfl ⟨0, [], by omega, rfl, rfl, by simp, by simp, by simpa using Own.nil 1 9 h2, by simpa using B, Keep.refl _ _, fun i hi => by cases hi⟩ ?_ ?_
  · rintro ⟨z, ⟨q, m, cc⟩, u⟩ g ⟨k, acc, hk, e1, e2, hak, har, ho, hB, hK, hnew⟩
    dsimp only at e1 e2 ho hnew ⊢
    subst e1 e2
    refine t_cond (fun hlt' => ?_) (fun hge => ?_)
    · have hlt' : k < n := by simpa using hlt'
      have hls : k < ls.length := by omega
      obtain ⟨a, rfl, ha⟩ := hp k (.string ls[k]) (by simp [List.getElem?_eq_getElem hls])
      have hold : a.block < h.size := by have := cellH_lt ha; rwa [add_block] at this
      have ha' : ∀ g', Keep [c] h2 g' → cellH g' (a.add k) = some (.string ls[k]) := fun g' kk => kk.cell (K12.cell ha (by simp)) (by rw [add_block]; simp; omega)
      refine t_deref _ rfl (t_chk (by omega) (t_load ls[k] (by simpa using ha' g hK) ?_))
      refine t_callB (offerS ls[k] hB) fun v g1 ⟨hv, B1, K3⟩ => ⟨decide (acc.length < roomOf room), by simpa using hv, ?_⟩
      have hKg1 := hK.trans K3
      have ho1 := ho.keep K3 (fun i hi hm => by have := hnew i hi; simp at hm; omega)
      refine t_join (t_cond (fun hr => ?_) (fun hr => ?_))
      · have hr : acc.length < roomOf room := by simpa using hr
        rw [if_pos (by simpa using hr)] at B1
        refine t_deref _ rfl (t_chk (by omega) (t_load ls[k] (by simpa using ha' g1 hKg1) (t_new ?_)))
        have hKg2 : Keep [c] h2 (g1.push (.cells #[.string ls[k]] 9 (0, 0))) := hKg1.trans (Keep.push _ _ _)
        refine t_sem (append_wp appS (ho1.keep (Keep.push [] _ _) (fun i hi hm => by cases hm)) oneCell (m := 1) rfl (by simp [Eng.Value.plain]) (by omega) ?_)
        intro p' c' g2 ho2 hK2 hb2
        refine ⟨(p', acc.length + 1, c'), rfl, ?_⟩
        have hnew2 : ∀ i, i ∈ blk p' → h2.size ≤ i := fun i hi => (hb2 i hi).elim (hnew i) (fun h => by have := hKg1.1; simp at h; omega)
        have hK5 : Keep [c] h2 g2 := hKg2.new hK2 fun i hi => .inr (hnew i hi)
        have B2 := (B1.keep (Keep.push [] _ (.cells #[.string ls[k]] 9 (0, 0))) (by simp) (by simp)).keep hK2 (fun hi => by have := hnew _ hi; omega) (fun hi => by have := hnew _ hi; omega)
        refine t_jout ((p', acc.length + 1, c'), ()) rfl (t_next ((k : Int) + 1, (p', acc.length + 1, c'), ()) (by rw [w64 (by omega) (by omega)]; rfl) ⟨k + 1, acc ++ [ls[k]], hlt', by simp, by simp, by simp; omega, by simp; omega, ?_, ?_, hK5, hnew2⟩ (by simp; omega))
        · simpa using ho2
        · simpa using B2
      · have hr : ¬ acc.length < roomOf room := by simpa using hr
        rw [if_neg (by simpa using hr)] at B1
        exact t_jout ((q, acc.length, cc), ()) rfl (t_next ((k : Int) + 1, (q, acc.length, cc), ()) (by rw [w64 (by omega) (by omega)]; rfl) ⟨k + 1, acc, hlt', by simp, rfl, by omega, har, ho1, B1, hKg1, hnew⟩ (by simp; omega))
    · have hge : k = n := by simp at hge; omega
      exact t_exit (_, (q, acc.length, cc), ()) rfl ⟨acc, by omega, rfl, har, ho, hB, hK, hnew⟩
  rintro ⟨z, ⟨q, m, cc⟩, u⟩ g ⟨acc, han, e2, har, ho, hB, hK, hnew⟩
  dsimp only at e2 ho hnew ⊢
  subst e2
  -- looks
  refine t_for (fun y g => Own 1 9 g q acc.length cc (acc.map Value.string) ∧ BoxAt g b c (roomOf room) (acc.map Value.string) ∧ Keep [c] h2 g ∧ (-9223372036854775808 : Int) ≤ y.1) (fun y _ => (often - y.1).toNat)
    (fun y g => Own 1 9 g q acc.length cc (acc.map Value.string) ∧ BoxAt g b c (roomOf room) (acc.map Value.string) ∧ Keep [c] h2 g)
    (0, false, ()) rfl ⟨ho, hB, hK, by simp⟩ ?_ ?_
  · rintro ⟨(z : Int), u1, u2⟩ g ⟨ho, hB, hK, hz⟩
    dsimp only at hz ⊢
    refine t_cond (fun hlt' => ?_) (fun hge => ?_)
    · have hlt' : z < often := by simpa using hlt'
      refine t_callB (allS hB (fun v hv => by obtain ⟨y, _, rfl⟩ := List.mem_map.1 hv; exact ⟨y, rfl⟩) (by simpa using har) (by simp; omega)) fun v g1 ⟨p', cc', hv, o', B', K', hn'⟩ => ⟨(p', acc.length, cc'), by simpa using hv, ?_⟩
      have ho1 := ho.keep K' (fun i hi hm => by have := hnew i hi; simp at hm; omega)
      refine t_join (t_false (by simp) ?_)
      refine t_callB (lenS B') fun v g2 ⟨hv, hg⟩ => ⟨acc.length, by simpa using hv, ?_⟩
      subst hg
      refine t_jout (false, ()) (by simp; rfl) (t_false rfl ?_)
      exact t_next (z + 1, u1, ()) (by rw [w64 (by omega) (by omega)]; rfl) ⟨ho1, B', hK.trans K', by simp; omega⟩ (by simp; omega)
    · exact t_exit (z, u1, ()) rfl ⟨ho, hB, hK⟩
  rintro ⟨z, u1, u2⟩ g ⟨ho, hB, hK⟩
  dsimp only
  -- what comes out
  refine t_for (fun y g => ∃ k, k ≤ acc.length ∧ y.1 = (k : Nat) ∧ Own 1 9 g q acc.length cc (acc.map Value.string) ∧ BoxAt g b c (roomOf room) ((acc.drop k).map Value.string) ∧ Keep [c] h2 g) (fun y _ => acc.length - y.1.toNat)
    (fun y g => BoxAt g b c (roomOf room) [] ∧ Keep [c] h2 g)
    (0, u1, ()) rfl ⟨0, by omega, rfl, ho, by simpa using hB, hK⟩ ?_ ?_
  · rintro ⟨z, u1, u2⟩ g ⟨k, hk, e1, ho, hB, hK⟩
    dsimp only at e1 ⊢
    subst e1
    refine t_cond (fun hlt' => ?_) (fun hge => ?_)
    · have hlt2 : k < acc.length := by simpa using hlt'
      have hd : acc.drop k = acc[k] :: acc.drop (k + 1) := List.drop_eq_getElem_cons hlt2
      rw [hd] at hB
      refine t_callB (pollS hB) fun v g1 hg => ?_
      obtain ⟨hv, B1, K1'⟩ := hg
      refine ⟨(acc[k], true, ()), hv, ?_⟩
      have ho1 := ho.keep K1' (fun i hi hm => by have := hnew i hi; simp at hm; omega)
      obtain ⟨a, rfl, ha⟩ := ho1.cells k (.string acc[k]) (by simp [List.getElem?_eq_getElem hlt2])
      refine t_join (t_false rfl (t_deref _ rfl (t_chk (by omega) (t_load acc[k] (by simpa using ha) (t_jout (false, ()) (by simp; rfl) (t_false rfl ?_))))))
      exact t_next ((k : Int) + 1, u1, ()) (by rw [w64 (by omega) (by omega)]; rfl) ⟨k + 1, hlt2, by simp, ho1, B1, hK.trans K1'⟩ (by simp; omega)
    · have hge : k = acc.length := by simp at hge; omega
      exact t_exit (_, u1, ()) rfl ⟨by simpa [hge] using hB, hK⟩
  rintro ⟨z, u1, u2⟩ g ⟨hB, hK⟩
  refine t_callB (pollS hB) fun v g1 hg => ?_
  obtain ⟨hv, rfl⟩ := hg
  refine ⟨({ data := #[] }, false, ()), hv, ?_⟩
  exact t_join (t_true rfl (t_jout (true, ()) rfl (t_ret (finOf_back ⟨rfl, K12.new hK (fun i hi => .inr (by simp at hi; omega))⟩))))
end Go.Proofs.Ytaghpjmgnjkejaa
