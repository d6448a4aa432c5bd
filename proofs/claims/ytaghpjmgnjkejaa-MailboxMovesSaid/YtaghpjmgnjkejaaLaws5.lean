/-
  THE MAILBOX: the law MailboxMoves, over a heap.
  Conditions: the arguments' cells are there.
-/
import Derived.Test.YtaghpjmgnjkejaaLaws1
import Derived.Test.YtaghpjmgnjkejaaEngV
namespace Go.Proofs.Ytaghpjmgnjkejaa
open Go Go.Eng
set_option linter.unusedVariables false

theorem moves (room other : Int) {p q : Option Addr} {n c0 m d0 : Nat} {us ws : List Int} {h : Heap} (hp : CellsAt h p (us.map vI)) (hn : us.length = n) (hq : CellsAt h q (ws.map vI)) (hm : ws.length = m) :
    CallsH Try.prog 7 [.int .i64 room, .int .i64 other, .slice p n c0, .slice q m d0] h (Back (Truth h)) := by
  refine calls_of mixed Try.func7 ?_
  rw [tronagelaw04_MailboxMoves_den]
  unfold tronagelaw04_MailboxMoves_T
  refine t_callB (awake h) fun v h1 ⟨hv, K1⟩ => ⟨true, hv, ?_⟩
  refine t_callB (newI room h1) fun v h2 ⟨b1, c1, hv, B1, K2, hb1, hc1⟩ => ⟨some ⟨b1, 0, none⟩, hv, ?_⟩
  refine t_callB (newI other h2) fun v h3 ⟨b2, c2, hv, B2, K3, hb2, hc2⟩ => ⟨some ⟨b2, 0, none⟩, hv, ?_⟩
  have l1 := B1.lt
  have l2 := B2.lt
  have s1 := K1.1
  have s2 := K2.1
  have s3 := K3.1
  have hcap1 := roomOf_spec room
  have hcap2 := roomOf_spec other
  have b1c2 : b1 ≠ c2 := by omega
  have b2c1 : b2 ≠ c1 := by omega
  have c1c2 : c1 ≠ c2 := by omega
  have K13 : Keep [] h h3 := (K1.trans K2).trans K3
  have hold : ∀ i, i ∈ [c1, c2] → h.size ≤ i := fun i hi => by simp at hi; omega
  have kof : ∀ g', Keep [c1, c2] h3 g' → Keep [] h g' := fun g' kk => K13.new kk (fun i hi => .inr (hold i hi))
  have B1' := B1.keep K3 (by simp) (by simp)
  refine t_join' (fun (z : Bool × Unit) g => h3 = g ∧ (z.1 = false → n ≤ 70 ∧ m ≤ 70)) ?_ ?_
  · refine t_false rfl (t_false rfl (t_cond (fun h1 => ⟨(true, ()), rfl, rfl, fun h => by cases h⟩) fun h1 => ⟨(_, ()), rfl, rfl, fun h3 => ?_⟩))
    simp at h1 h3
    exact ⟨by omega, by omega⟩
  rintro ⟨z, u⟩ g ⟨rfl, hz⟩
  refine t_cond (fun hbig => t_join (t_true rfl (t_true rfl (t_jout (true, ()) rfl (t_ret (finOf_back ⟨rfl, K13⟩)))))) (fun hsmall => ?_)
  obtain ⟨hm1, hm2⟩ := hz hsmall
  refine t_for (fun y g => ∃ (k : Nat) (xs : List Int), k ≤ n ∧ y.1 = ((k : Nat) : Int) ∧ xs.length ≤ roomOf room ∧ BoxAt g b1 c1 (roomOf room) (xs.map vI) ∧ BoxAt g b2 c2 (roomOf other) [] ∧ Keep [c1, c2] h3 g)
    (fun y _ => n - y.1.toNat)
    (fun y g => ∃ (xs : List Int), xs.length ≤ roomOf room ∧ BoxAt g b1 c1 (roomOf room) (xs.map vI) ∧ BoxAt g b2 c2 (roomOf other) [] ∧ Keep [c1, c2] h3 g)
    (0, ()) rfl ⟨0, [], by omega, rfl, by simp, by simpa using B1', B2, Keep.refl _ _⟩ ?_ ?_
  · rintro ⟨(z : Int), u'⟩ g ⟨k, xs, hk, e1, hx, B1, B2, hK⟩
    dsimp only at e1 ⊢
    subst e1
    refine t_cond (fun hlt0 => ?_) (fun hge => ?_)
    · have hlt : k < n := by simpa using hlt0
      obtain ⟨a, rfl, ha⟩ := (hp.keep (kof g hK) (fun _ _ hm => by cases hm)) k (vI (us[k]'(by omega))) (by simp [hn, hlt])
      refine t_deref _ rfl (t_chk (by omega) (t_load (us[k]'(by omega)) (by simpa using ha) ?_))
      refine t_callB (offerI _ B1) fun v g1 ⟨hv, B1', q1⟩ => ⟨decide (xs.length < roomOf room), by simpa using hv, ?_⟩
      refine t_next ((k : Int) + 1, ()) (by rw [w64 (by omega) (by omega)]; rfl) ⟨k + 1, if xs.length < roomOf room then xs ++ [us[k]'(by omega)] else xs, hlt, by simp, ?_, ?_, B2.keep q1 (by simp [b2c1]) (by simp [c1c2.symm]), hK.trans (q1.mono (by simp))⟩ ?_
      · split <;> (try simp) <;> omega
      · by_cases hq : xs.length < roomOf room <;> simpa [hq] using B1'
      · have : ((k : Int) + 1).toNat = k + 1 := by omega
        dsimp only
        omega
    · exact t_exit (_, ()) rfl ⟨xs, hx, B1, B2, hK⟩
  clear B1 B2 B1'
  rintro ⟨z1, u1⟩ g ⟨xs, hx, B1, B2, hK⟩
  refine t_for (fun y g => ∃ (k : Nat) (ys : List Int), k ≤ m ∧ y.1 = ((k : Nat) : Int) ∧ ys.length ≤ roomOf other ∧ BoxAt g b1 c1 (roomOf room) (xs.map vI) ∧ BoxAt g b2 c2 (roomOf other) (ys.map vI) ∧ Keep [c1, c2] h3 g)
    (fun y _ => m - y.1.toNat)
    (fun y g => ∃ (ys : List Int), ys.length ≤ roomOf other ∧ BoxAt g b1 c1 (roomOf room) (xs.map vI) ∧ BoxAt g b2 c2 (roomOf other) (ys.map vI) ∧ Keep [c1, c2] h3 g)
    (0, ()) rfl ⟨0, [], by omega, rfl, by simp, B1, by simpa using B2, hK⟩ ?_ ?_
  · clear B1 B2 hK
    rintro ⟨(z : Int), u'⟩ g ⟨k, ys, hk, e1, hy, B1, B2, hK⟩
    dsimp only at e1 ⊢
    subst e1
    refine t_cond (fun hlt0 => ?_) (fun hge => ?_)
    · have hlt : k < m := by simpa using hlt0
      obtain ⟨a, rfl, ha⟩ := (hq.keep (kof g hK) (fun _ _ hm => by cases hm)) k (vI (ws[k]'(by omega))) (by simp [hm, hlt])
      refine t_deref _ rfl (t_chk (by omega) (t_load (ws[k]'(by omega)) (by simpa using ha) ?_))
      refine t_callB (offerI _ B2) fun v g1 ⟨hv, B2', q1⟩ => ⟨decide (ys.length < roomOf other), by simpa using hv, ?_⟩
      refine t_next ((k : Int) + 1, ()) (by rw [w64 (by omega) (by omega)]; rfl) ⟨k + 1, if ys.length < roomOf other then ys ++ [ws[k]'(by omega)] else ys, hlt, by simp, ?_, B1.keep q1 (by simp [b1c2]) (by simp [c1c2]), ?_, hK.trans (q1.mono (by simp))⟩ ?_
      · split <;> (try simp) <;> omega
      · by_cases hq : ys.length < roomOf other <;> simpa [hq] using B2'
      · have : ((k : Int) + 1).toNat = k + 1 := by omega
        dsimp only
        omega
    · exact t_exit (_, ()) rfl ⟨ys, hy, B1, B2, hK⟩
  clear B1 B2 hK
  rintro ⟨z2, u2⟩ g ⟨ys, hy, B1, B2, hK⟩
  have hall : ∀ (l : List Int), ∀ v ∈ l.map vI, ∃ x, v = .int .i64 x := fun l v hv => by obtain ⟨y, _, rfl⟩ := List.mem_map.1 hv; exact ⟨y, rfl⟩
  -- who waits
  refine t_callB (allI B1 (hall xs) (by simpa using hx) (by simp; omega)) fun v g1 ⟨p1, e1, hv, o1, B1, q1, n1⟩ => ⟨(p1, xs.length, e1), by simpa using hv, ?_⟩
  have B2 := B2.keep q1 (by simp [b2c1]) (by simp [c1c2.symm])
  refine t_callB (allI B2 (hall ys) (by simpa using hy) (by simp; omega)) fun v g2 ⟨p2, e2, hv, o2, B2, q2, n2⟩ => ⟨(p2, ys.length, e2), by simpa using hv, ?_⟩
  have B1 := B1.keep q2 (by simp [b1c2]) (by simp [c1c2])
  have z1' := hK.1
  have z2' := q1.1
  have z3' := q2.1
  have o1 := o1.keep q2 (fun i hi hm => by have := n1 i hi; simp at hm; omega)
  refine t_callB (move B1 B2 b1c2 b2c1 c1c2 (by omega)) fun v g3 ⟨hv, B1, B2, q3⟩ => ⟨_, hv, ?_⟩
  have o1 := o1.keep q3 (fun i hi hm => by have := n1 i hi; simp at hm; omega)
  have o2 := o2.keep q3 (fun i hi hm => by have := n2 i hi; simp at hm; omega)
  obtain ⟨k, hk⟩ : ∃ k, min xs.length (roomOf other - ys.length) = k := ⟨_, rfl⟩
  rw [hk] at B1 B2 ⊢
  have hkx : k ≤ xs.length := by omega
  refine t_join (t_false (by simp) (t_jout (false, ()) (by (have : ¬ ((k : Int) > (xs.length : Int)) := by omega); simp only [this, decide_false]; rfl) (t_false rfl ?_)))
  have z4' := q3.1
  refine t_callB (allI B1 (hall _) (by simp; omega) (by simp; omega)) fun v g4 ⟨p3, e3, hv, o3, B1, q4, n3⟩ => ⟨(p3, (xs.drop k).length, e3), by simpa using hv, ?_⟩
  have z5' := q4.1
  have B2 := B2.keep q4 (by simp [b2c1]) (by simp [c1c2.symm])
  have o1 := o1.keep q4 (fun i hi hm => by have := n1 i hi; simp at hm; omega)
  have o2 := o2.keep q4 (fun i hi hm => by have := n2 i hi; simp at hm; omega)
  refine t_callB (allI B2 (hall _) (by simp; omega) (by simp; omega)) fun v g5 ⟨p4, e4, hv, o4, B2, q5, n4⟩ => ⟨(p4, (ys ++ xs.take k).length, e4), by simpa using hv, ?_⟩
  have z6' := q5.1
  have B1 := B1.keep q5 (by simp [b1c2]) (by simp [c1c2])
  have o1 := o1.keep q5 (fun i hi hm => by have := n1 i hi; simp at hm; omega)
  have o2 := o2.keep q5 (fun i hi hm => by have := n2 i hi; simp at hm; omega)
  have o3 := o3.keep q5 (fun i hi hm => by have := n3 i hi; simp at hm; omega)
  have hK5 : Keep [c1, c2] h3 g5 := ((((hK.trans (q1.mono (by simp))).trans (q2.mono (by simp))).trans (q3.mono (by simp))).trans (q4.mono (by simp))).trans (q5.mono (by simp))
  refine t_join (t_true rfl (t_callB (roomI B2) fun v g6 ⟨hv, hg⟩ => ⟨_, hv, ?_⟩))
  subst hg
  rw [w64 (by dsimp only; omega) (by dsimp only; omega)]
  have hc1 : xs.length ≤ e1 := by simpa using o1.cap
  refine t_true ?_ (t_chk (by dsimp only; omega) ?_)
  · dsimp only
    simp
    split <;> omega
  have cut : CellsAt g6 (if e1 = k then p1 else Option.map (fun x => Addr.add x (k * 1)) p1) ((xs.drop k).map vI) := by
    have := o1.cells.cut (c := e1) (m := k) (sz := 1) (by simp; omega)
    simpa [List.map_drop] using this
  have e5 : xs.length - k = (xs.drop k).length := by simp
  dsimp only
  simp only [Int.toNat_natCast]
  rw [e5]
  refine t_callB (ints (by simpa using o3.cells) cut (by simp; omega)) fun v g7 ⟨hv, hg⟩ => ⟨true, by simpa using hv, ?_⟩
  subst hg
  refine t_true rfl (t_chk (by omega) (t_new ?_))
  have k1 : Keep [] g7 (g7.push (.cells #[] 3 (0, 0))) := Keep.push _ _ _
  have oe : Own 1 3 (g7.push (.cells #[] 3 (0, 0))) (some ⟨g7.size, 0, none⟩) 0 0 [] := .inr ⟨g7.size, 0, #[], rfl, by rw [Array.getElem?_push, if_pos rfl], rfl, Nat.le_refl _, Nat.le_refl _, fun i v hv => by simp at hv⟩
  have hpl : ∀ (l : List Int), ∀ v ∈ l.map vI, Value.plain v = true := fun l v hv => by obtain ⟨y, _, rfl⟩ := List.mem_map.1 hv; rfl
  have old1 := o1.old
  have old4 := o4.old
  have o2 := o2.keep k1 (fun i hi hm => by cases hm)
  have o1 := o1.keep k1 (fun i hi hm => by cases hm)
  have o4 := o4.keep k1 (fun i hi hm => by cases hm)
  refine t_sem (append_wp appI oe o2.cells (m := ys.length) (by simp) (hpl _) (by omega) ?_)
  intro p6 e6 g8 o6 k6 n6
  refine ⟨(p6, 0 + ys.length, e6), rfl, ?_⟩
  have n6' : ∀ i, i ∈ blk p6 → g7.size ≤ i := fun i hi => (n6 i hi).elim (fun h => by simp [blk] at h; omega) (fun h => by simp at h; omega)
  have o1 := o1.keep k6 (fun i hi hm => by have := old1 i hi; simp [blk] at hm; omega)
  have o4 := o4.keep k6 (fun i hi hm => by have := old4 i hi; simp [blk] at hm; omega)
  have cut2 : CellsAt g8 (if e1 = 0 then p1 else Option.map (fun x => Addr.add x (0 * 1)) p1) ((xs.take k).map vI) := by
    have := (o1.cells.take k).cut (c := e1) (m := 0) (sz := 1) (by simp; omega)
    simpa [List.map_take] using this
  have e8 : k = (xs.take k).length := by simp; omega
  refine t_sem (append_wp appI o6 cut2 (m := k) (by simp; omega) (hpl _) (by omega) ?_)
  intro p7 e7 g9 o7 k7 n7
  refine ⟨(p7, 0 + ys.length + k, e7), rfl, ?_⟩
  have o4 := o4.keep k7 (fun i hi hm => by have := old4 i hi; have := n6' i hm; omega)
  have w4 : CellsAt g9 p4 ((ys ++ xs.take k).map vI) := by simpa using o4.cells
  have w7 : CellsAt g9 p7 ((ys ++ xs.take k).map vI) := by have := o7.cells; simpa using this
  have e9 : 0 + ys.length + k = (ys ++ xs.take k).length := by simp; omega
  rw [e9]
  refine t_callB (ints w4 w7 (by simp; omega)) fun v g10 ⟨hv, hg⟩ => ⟨true, by simpa using hv, ?_⟩
  subst hg
  refine t_jout (true, ()) rfl (t_ret (finOf_back ⟨rfl, ?_⟩))
  refine K13.new (((hK5.trans (k1.mono (by simp))).new k6 ?_).new k7 ?_) (fun i hi => .inr (hold i hi))
  · intro i hi
    have := n6' i
    simp [blk] at hi
    omega
  · intro i hi
    have := n6' i hi
    omega
end Go.Proofs.Ytaghpjmgnjkejaa
