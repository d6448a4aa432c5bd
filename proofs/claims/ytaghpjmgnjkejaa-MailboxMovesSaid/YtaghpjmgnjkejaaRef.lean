/-
  THE MAILBOX's REFERENCE, the comparison of two lists, and what moves from a box to another one.
  Conditions: the blocks are there.
-/
import Derived.Test.YtaghpjmgnjkejaaBox
namespace Go.Proofs.Ytaghpjmgnjkejaa
open Go Go.Eng
set_option linter.unusedVariables false

abbrev vI (x : Int) : Value := .int .i64 x

/-! ## two lists alike -/
theorem ints {h : Heap} {p q : Option Addr} {c d : Nat} {xs ys : List Int} (hp : CellsAt h p (xs.map vI)) (hq : CellsAt h q (ys.map vI)) (hn : xs.length ≤ 1000000000) :
    CallsH Try.prog 19 [.slice p xs.length c, .slice q ys.length d] h (Back fun v h' => v = .bool (decide (xs = ys)) ∧ h' = h) := by
  refine calls_of mixed Try.func19 ?_
  rw [tronageref01_Ints_den]
  unfold tronageref01_Ints_T
  refine t_cond (fun hne => ?_) (fun heq => ?_)
  · refine t_ret (finOf_back ⟨?_, rfl⟩)
    have : xs ≠ ys := fun e => by subst e; simp at hne
    simp [this]
  · have hl : xs.length = ys.length := by simp at heq; omega
    refine t_for (fun y g => g = h ∧ ∃ k, k ≤ xs.length ∧ y.1 = (k : Nat) ∧ xs.take k = ys.take k) (fun y _ => xs.length - y.1.toNat) (fun y g => g = h ∧ xs = ys) (0, false, ()) rfl ⟨rfl, 0, by omega, rfl, rfl⟩ ?_ ?_
    · rintro ⟨z, u, u'⟩ g ⟨rfl, k, hk, e1, he⟩
      dsimp only at e1 ⊢
      subst e1
      refine t_cond (fun hlt => ?_) (fun hge => ?_)
      · have hlt : k < xs.length := by simpa using hlt
        have hlt' : k < ys.length := by omega
        have hx : xs[k]? = some xs[k] := List.getElem?_eq_getElem hlt
        have hy : ys[k]? = some ys[k] := List.getElem?_eq_getElem hlt'
        obtain ⟨a, rfl, ha⟩ := hp k (vI xs[k]) (by simp [hx])
        obtain ⟨b, rfl, hb⟩ := hq k (vI ys[k]) (by simp [hy])
        refine t_deref _ rfl (t_chk (by omega) (t_load xs[k] (by simpa using ha) (t_deref _ rfl (t_chk (by omega) (t_load ys[k] (by simpa using hb) ?_)))))
        refine t_cond (fun hne => ?_) (fun heq' => ?_)
        · refine t_ret (forQ_ret (finOf_back ⟨?_, rfl⟩))
          have : xs ≠ ys := fun e => by subst e; simp at hne
          simp [this]
        · have hxy : xs[k] = ys[k] := by simpa using heq'
          refine t_next ((k : Int) + 1, u, ()) (by rw [w64 (by omega) (by omega)]; rfl) ⟨rfl, k + 1, hlt, by simp, ?_⟩ (by simp; omega)
          rw [List.take_add_one, List.take_add_one, he, hx, hy, hxy]
      · have : k = xs.length := by simp at hge; omega
        subst this
        refine t_exit (_, u, ()) rfl ⟨rfl, ?_⟩
        rw [List.take_length, hl, List.take_length] at he
        exact he
    · rintro ⟨z, u, u'⟩ g ⟨rfl, rfl⟩
      exact t_ret (finOf_back ⟨by simp, rfl⟩)

/-! ## the reference's box -/
def RefAt (h : Heap) (b : Nat) (room : Int) (l : List Int) : Prop :=
  ∃ p c, h[b]? = some (.cells #[.int .i64 room, .slice p l.length c] 48 (0, 0)) ∧ l.length ≤ c ∧ CellsAt h p (l.map vI) ∧ ∀ i, i ∈ blk p → ∃ arr f, h[i]? = some (.cells arr 3 f)
theorem RefAt.ne {h : Heap} {b i : Nat} {x arr : Array Value} {f g : Nat × Nat} (h1 : h[b]? = some (.cells x 48 g)) (h2 : h[i]? = some (.cells arr 3 f)) : i ≠ b := fun e => by
  subst e; rw [h1] at h2; cases h2
theorem RefAt.lt {h : Heap} {b : Nat} {room : Int} {l : List Int} (R : RefAt h b room l) : b < h.size := by
  obtain ⟨p, c, h1, _⟩ := R
  rcases Nat.lt_or_ge b h.size with g | g
  · exact g
  · rw [Array.getElem?_eq_none g] at h1; cases h1

theorem cell2 {h : Heap} {b : Nat} {x y : Value} {ty : TypeId} (hb : h[b]? = some (.cells #[x, y] ty (0, 0))) : cellH h ⟨b, 0, none⟩ = some x ∧ cellH h (Addr.add ⟨b, 0, none⟩ 1) = some y := by
  rw [add_mk, cellH_of (a := ⟨b, 0, none⟩) hb rfl, cellH_of (a := ⟨b, 0 + 1, none⟩) hb rfl]
  exact ⟨rfl, rfl⟩
theorem frozen2 {h : Heap} {b o : Nat} {c : Array Value} {ty : TypeId} (hb : h[b]? = some (.cells c ty (0, 0))) : frozenH h ⟨b, o, none⟩ = false := by
  unfold frozenH ofHeap World.frozen?; simp [hb]

theorem refNew (room : Int) (h : Heap) : CallsH Try.prog 21 [.int .i64 room] h (Back fun v h' => ∃ b, v = .pointer (some ⟨b, 0, none⟩) ∧ RefAt h' b (roomOf room) [] ∧ Keep [] h h' ∧ h.size ≤ b) := by
  refine calls_of mixed Try.func21 ?_
  rw [tronageref04_New_den]
  unfold tronageref04_New_T
  obtain ⟨h1, h2, h3, _⟩ := roomOf_spec room
  rw [← h3]
  refine t_new (t_ret (finOf_back ⟨h.size, rfl, ⟨none, 0, ?_, by simp, CellsAt.nil _ _, fun i hi => by cases hi⟩, Keep.push _ _ _, Nat.le_refl _⟩))
  rw [Array.getElem?_push, if_pos rfl]; rfl

theorem refOffer (x : Int) {h : Heap} {b : Nat} {room : Int} {l : List Int} (R : RefAt h b room l) (hn : l.length ≤ 1000000) : CallsH Try.prog 22 [.pointer (some ⟨b, 0, none⟩), .int .i64 x] h
    (Back fun v h' => v = .bool (decide ((l.length : Int) < room)) ∧ RefAt h' b room (if (l.length : Int) < room then l ++ [x] else l) ∧ Keep [b] h h') := by
  refine calls_of mixed Try.func22 ?_
  rw [tronageref04_Box_Offer_den]
  unfold tronageref04_Box_Offer_T
  have R' := R
  have hbl := R.lt
  obtain ⟨p, c, h1, h2, h3, h5⟩ := R
  have h4 : ∀ i, i ∈ blk p → i ≠ b := fun i hi => by obtain ⟨arr, f, hf⟩ := h5 i hi; exact RefAt.ne h1 hf
  obtain ⟨c1, c2⟩ := cell2 h1
  refine t_deref _ rfl (t_load (p, l.length, c) c2 (t_deref _ rfl (t_load room c1 ?_)))
  refine t_cond (fun hge => ?_) (fun hlt => ?_)
  · have hge : ¬ ((l.length : Int) < room) := by simp at hge; omega
    exact t_ret (finOf_back ⟨by simp [hge], by rw [if_neg hge]; exact R', Keep.refl _ _⟩)
  · have hlt : (l.length : Int) < room := by simp at hlt; omega
    refine t_new ?_
    have k1 : Keep [] h (h.push (.cells #[] 3 (0, 0))) := Keep.push _ _ _
    have b1 := k1.at h1 (by simp)
    refine t_deref _ rfl (t_load (p, l.length, c) (cell2 b1).2 ?_)
    have o1 : Own 1 3 (h.push (.cells #[] 3 (0, 0))) (some ⟨h.size, 0, none⟩) 0 0 [] := .inr ⟨h.size, 0, #[], rfl, by rw [Array.getElem?_push, if_pos rfl], rfl, Nat.le_refl _, Nat.le_refl _, fun i v hv => by simp at hv⟩
    refine t_sem (append_wp appI o1 (h3.keep k1 (fun i _ hm => by cases hm)) (m := l.length) (by simp) (fun v hv => by obtain ⟨y, _, rfl⟩ := List.mem_map.1 hv; rfl) (by omega) ?_)
    intro p2 d2 g2 o2 k2 n2
    refine ⟨(p2, 0 + l.length, d2), rfl, ?_⟩
    have k3 : Keep [] h g2 := k1.new k2 (fun i hi => .inr (by simp [blk] at hi; omega))
    have n2' : ∀ i, i ∈ blk p2 → h.size ≤ i := fun i hi => (n2 i hi).elim (fun h => by simp [blk] at h; omega) (fun h => by simp at h; omega)
    refine t_new ?_
    have k4 : Keep [] g2 (g2.push (.cells #[.int .i64 x] 3 (0, 0))) := Keep.push _ _ _
    refine t_sem (append_wp appI (o2.keep k4 (fun i _ hm => by cases hm)) oneCell (m := 1) rfl (by simp [Eng.Value.plain]) (by omega) ?_)
    intro p5 d5 g5 o5 k5 n5
    refine ⟨(p5, 0 + l.length + 1, d5), rfl, ?_⟩
    have k6 : Keep [] h g5 := (k3.trans k4).new k5 (fun i hi => .inr (n2' i hi))
    have n5' : ∀ i, i ∈ blk p5 → h.size ≤ i := fun i hi => (n5 i hi).elim (n2' i) (fun h => by have := k3.1; simp at h; omega)
    have b6 := k6.at h1 (by simp)
    refine t_deref _ rfl ?_
    rw [add_mk]
    refine t_store rfl (by rw [cellH_of (a := ⟨b, 0 + 1, none⟩) b6 rfl]; rfl) (frozen2 b6) ?_
    refine t_ret (finOf_back ⟨by simp [hlt], ?_, (k6.mono (fun i hi => by cases hi)).trans (Keep.setCell _ _ _)⟩)
    rw [if_pos hlt]
    refine ⟨p5, d5, ?_, ?_, ?_, fun i hi => ?_⟩
    · rw [setCellH_at b6]; simp
    · have := o5.cap; simp; omega
    · have := o5.cells.keep (Keep.setCell g5 ⟨b, 0 + 1, none⟩ (.slice p5 (0 + l.length + 1) d5)) (fun i hi hm => by have := n5' i hi; simp at hm; omega)
      simpa using this
    · obtain ⟨arr, ha⟩ := o5.ty i hi
      refine ⟨arr, (0, 0), ?_⟩
      rw [setCellH_ne (by have := n5' i hi; dsimp only; omega)]; exact ha

theorem refPoll {h : Heap} {b : Nat} {room : Int} {l : List Int} (R : RefAt h b room l) : CallsH Try.prog 23 [.pointer (some ⟨b, 0, none⟩)] h
    (Back fun v h' => match l with
      | [] => v = .tuple #[.int .i64 0, .bool false] ∧ h' = h
      | x :: r => v = .tuple #[.int .i64 x, .bool true] ∧ RefAt h' b room r ∧ Keep [b] h h') := by
  refine calls_of mixed Try.func23 ?_
  rw [tronageref04_Box_Poll_den]
  unfold tronageref04_Box_Poll_T
  obtain ⟨p, c, h1, h2, h3, h5⟩ := R
  have h4 : ∀ i, i ∈ blk p → i ≠ b := fun i hi => by obtain ⟨arr, f, hf⟩ := h5 i hi; exact RefAt.ne h1 hf
  obtain ⟨c1, c2⟩ := cell2 h1
  refine t_deref _ rfl (t_load (p, l.length, c) c2 ?_)
  cases l with
  | nil => exact t_true rfl (t_ret (finOf_back ⟨rfl, rfl⟩))
  | cons x r =>
    obtain ⟨a, rfl, ha⟩ := h3 0 (vI x) rfl
    simp only [List.length_cons] at h1 h2 c2 ⊢
    refine t_false (by simp <;> omega) (t_deref _ rfl (t_load (some a, r.length + 1, c) c2 (t_deref _ rfl (t_chk (by simp <;> omega) (t_load x (by simpa using ha) (t_deref _ rfl (t_load (some a, r.length + 1, c) c2 (t_chk (by simp <;> omega) (t_deref _ rfl ?_)))))))))
    rw [add_mk]
    refine t_store rfl (by rw [cellH_of (a := ⟨b, 0 + 1, none⟩) h1 rfl]; rfl) (frozen2 h1) ?_
    refine t_ret (finOf_back ⟨rfl, ?_, Keep.setCell _ _ _⟩)
    refine ⟨_, c - 1, by rw [setCellH_at h1]; simp; rfl, by omega, ?_, ?_⟩
    · intro i v hv
      have hi : i < r.length := by
        rcases Nat.lt_or_ge i r.length with g | g
        · exact g
        · rw [List.getElem?_eq_none (by simpa using g)] at hv; cases hv
      have hc : ¬ c = 1 := by omega
      obtain ⟨a', ha', hc'⟩ := h3 (i + 1) v (by simpa using hv)
      cases ha'
      refine ⟨a.add 1, by simp [hc], ?_⟩
      rw [add_add, cellH_block (setCellH_ne (by rw [add_block]; exact h4 a.block (by simp [blk])))]
      rw [Nat.add_comm 1 i]; exact hc'
    · intro i hi
      have hi' : i ∈ blk (some a) := by
        by_cases hc : c = 1
        · simpa [hc] using hi
        · simpa [hc, blk, add_block] using hi
      obtain ⟨arr, f, ha⟩ := h5 i hi'
      exact ⟨arr, f, by rw [setCellH_ne (h4 i hi')]; exact ha⟩
theorem RefAt.keep {M : List Nat} {h h' : Heap} {b : Nat} {room : Int} {l : List Int} (R : RefAt h b room l) (k : Keep M h h') (hb : b ∉ M) (hM : ∀ i, i ∈ M → ∀ arr f, h[i]? ≠ some (.cells arr 3 f)) : RefAt h' b room l := by
  obtain ⟨p, c, h1, h2, h3, h5⟩ := R
  have hp : ∀ i, i ∈ blk p → i ∉ M := fun i hi hm => by obtain ⟨arr, f, hf⟩ := h5 i hi; exact hM i hm arr f hf
  exact ⟨p, c, k.at h1 hb, h2, h3.keep k hp, fun i hi => by obtain ⟨arr, f, hf⟩ := h5 i hi; exact ⟨arr, f, k.at hf (hp i hi)⟩⟩
/-- The block of a box of the reference holds no row of numbers. -/
theorem RefAt.no {h : Heap} {b : Nat} {room : Int} {l : List Int} (R : RefAt h b room l) : ∀ arr f, h[b]? ≠ some (.cells arr 3 f) := by
  obtain ⟨p, c, h1, _⟩ := R
  intro arr f e; rw [h1] at e; cases e
theorem BoxAt.no {h : Heap} {b c cap : Nat} {l : List Value} (B : BoxAt h b c cap l) : ∀ arr f, h[c]? ≠ some (.cells arr 3 f) := by
  obtain ⟨ty, s, r, h1, h2⟩ := B
  intro arr f e; rw [h2] at e; cases e

theorem refMove {h : Heap} {b1 b2 : Nat} {r1 : Int} {cap2 : Nat} {xs ys : List Int} (B1 : RefAt h b1 r1 xs) (B2 : RefAt h b2 cap2 ys) (hne : b1 ≠ b2) (hx : xs.length ≤ 100000) (hc : cap2 ≤ 64) :
    CallsH Try.prog 25 [.pointer (some ⟨b1, 0, none⟩), .pointer (some ⟨b2, 0, none⟩)] h
      (Back fun v h' => v = .int .i64 (min xs.length (cap2 - ys.length) : Nat) ∧ RefAt h' b1 r1 (xs.drop (min xs.length (cap2 - ys.length))) ∧
        RefAt h' b2 cap2 (ys ++ xs.take (min xs.length (cap2 - ys.length))) ∧ Keep [b1, b2] h h') := by
  refine calls_of mixed Try.func25 ?_
  rw [tronageref04_Move_den]
  unfold tronageref04_Move_T
  refine t_for (fun y g => ∃ k, k ≤ xs.length ∧ (k = 0 ∨ ys.length + k ≤ cap2) ∧ y.1 = (k : Nat) ∧ RefAt g b1 r1 (xs.drop k) ∧ RefAt g b2 cap2 (ys ++ xs.take k) ∧ Keep [b1, b2] h g)
    (fun y _ => xs.length - y.1.toNat)
    (fun y g => ∃ k, k = min xs.length (cap2 - ys.length) ∧ y.1 = (k : Nat) ∧ RefAt g b1 r1 (xs.drop k) ∧ RefAt g b2 cap2 (ys ++ xs.take k) ∧ Keep [b1, b2] h g)
    (0, ()) rfl ⟨0, by omega, .inl rfl, rfl, by simpa using B1, by simpa using B2, Keep.refl _ _⟩ ?_ ?_
  · rintro ⟨z, u⟩ g ⟨k, hk, hk2, e1, C1, C2, K⟩
    dsimp only at e1 ⊢
    subst e1
    have C1' := C1
    have C2' := C2
    obtain ⟨p1, d1, q1, q2, q3, q5⟩ := C1'
    obtain ⟨p2, d2, w1, w2, w3, w5⟩ := C2'
    refine t_join (t_deref _ rfl (t_load (p1, (xs.drop k).length, d1) (cell2 q1).2 ?_))
    simp only [List.length_drop]
    refine t_cond (fun hlt => ?_) (fun hge => ?_)
    · have hlt : k < xs.length := by simp at hlt; omega
      refine t_deref _ rfl (t_load (p2, (ys ++ xs.take k).length, d2) (cell2 w1).2 (t_deref _ rfl (t_load (cap2 : Int) (cell2 w1).1 (t_jout (_, ()) rfl ?_))))
      simp only [List.length_append, List.length_take]
      refine t_cond (fun hr => ?_) (fun hr => ?_)
      · have hr : ys.length + k < cap2 := by simp at hr; omega
        have hd : xs.drop k = xs[k] :: xs.drop (k + 1) := List.drop_eq_getElem_cons hlt
        have ht : xs.take (k + 1) = xs.take k ++ [xs[k]] := by rw [List.take_add_one, List.getElem?_eq_getElem hlt]; rfl
        rw [hd] at C1
        refine t_callB (refPoll C1) fun v g4 hg => ?_
        obtain ⟨hv, C3, K3⟩ := hg
        refine ⟨(xs[k], true, ()), hv, ?_⟩
        have C4 := C2.keep K3 (by simp; exact hne.symm) (fun i hi => by simp at hi; subst hi; exact C1.no)
        refine t_callB (refOffer xs[k] C4 (by simp; omega)) fun v g5 ⟨hv, C5, K5⟩ => ⟨_, hv, ?_⟩
        have hl : ((ys ++ List.take k xs).length : Int) < cap2 := by simp; omega
        rw [if_pos hl] at C5
        have C6 := C3.keep K5 (by simp; exact hne) (fun i hi => by simp at hi; subst hi; exact C4.no)
        refine t_next ((k : Int) + 1, ()) (by rw [w64 (by omega) (by omega)]; rfl) ⟨k + 1, hlt, .inr (by omega), by simp, C6, ?_, (K.trans (K3.mono (by simp))).trans (K5.mono (by simp))⟩ (by simp; omega)
        rw [ht, ← List.append_assoc]; exact C5
      · have hr : cap2 ≤ ys.length + k := by simp at hr; omega
        exact t_exit (_, ()) rfl ⟨k, by omega, rfl, C1, C2, K⟩
    · have hge : k = xs.length := by simp at hge; omega
      refine t_jout (false, ()) rfl (t_false rfl (t_exit (_, ()) rfl ⟨k, by omega, rfl, C1, C2, K⟩))
  · rintro ⟨z, u⟩ g ⟨k, hk, e1, C1, C2, K⟩
    dsimp only at e1 ⊢
    subst e1 hk
    exact t_ret (finOf_back ⟨rfl, C1, C2, K⟩)
end Go.Proofs.Ytaghpjmgnjkejaa
