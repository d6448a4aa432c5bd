/-
  THE MAILBOX: the law MailboxPlays, over a heap.
  Conditions: the arguments' cells are there.
-/
import Derived.Test.YtaghpjmgnjkejaaLaws2
namespace Go.Proofs.Ytaghpjmgnjkejaa
open Go Go.Eng
set_option linter.unusedVariables false

/-- Two boxes, and the reference's two. -/
structure Four (b1 c1 b2 c2 r1 r2 k1 k2 : Nat) (g : Heap) (xs ys us vs : List Int) : Prop where
  B1 : BoxAt g b1 c1 k1 (xs.map vI)
  B2 : BoxAt g b2 c2 k2 (ys.map vI)
  R1 : RefAt g r1 k1 us
  R2 : RefAt g r2 k2 vs
/-- They lie apart. -/
structure Dist (b1 c1 b2 c2 r1 r2 : Nat) : Prop where
  b1c2 : b1 ≠ c2
  b2c1 : b2 ≠ c1
  c1c2 : c1 ≠ c2
  r1r2 : r1 ≠ r2
  b1r1 : b1 ≠ r1
  b1r2 : b1 ≠ r2
  b2r1 : b2 ≠ r1
  b2r2 : b2 ≠ r2
  c1r1 : c1 ≠ r1
  c1r2 : c1 ≠ r2
  c2r1 : c2 ≠ r1
  c2r2 : c2 ≠ r2
section
variable {b1 c1 b2 c2 r1 r2 k1 k2 : Nat} {g g' : Heap} {xs ys us vs : List Int}
theorem Four.cc (D : Dist b1 c1 b2 c2 r1 r2) (F : Four b1 c1 b2 c2 r1 r2 k1 k2 g xs ys us vs) (k : Keep [c1, c2] g g') {xs' ys' : List Int} (B1 : BoxAt g' b1 c1 k1 (xs'.map vI)) (B2 : BoxAt g' b2 c2 k2 (ys'.map vI)) :
    Four b1 c1 b2 c2 r1 r2 k1 k2 g' xs' ys' us vs := by
  have hM : ∀ i, i ∈ [c1, c2] → ∀ arr f, g[i]? ≠ some (.cells arr 3 f) := fun i hi => by
    simp at hi
    rcases hi with rfl | rfl
    · exact F.B1.no
    · exact F.B2.no
  exact ⟨B1, B2, F.R1.keep k (by simp [D.c1r1.symm, D.c2r1.symm]) hM, F.R2.keep k (by simp [D.c1r2.symm, D.c2r2.symm]) hM⟩
theorem Four.onC1 (D : Dist b1 c1 b2 c2 r1 r2) (F : Four b1 c1 b2 c2 r1 r2 k1 k2 g xs ys us vs) (k : Keep [c1] g g') {xs' : List Int} (B1 : BoxAt g' b1 c1 k1 (xs'.map vI)) :
    Four b1 c1 b2 c2 r1 r2 k1 k2 g' xs' ys us vs :=
  F.cc D (k.mono (by simp)) B1 (F.B2.keep k (by simp [D.b2c1]) (by simp [D.c1c2.symm]))
theorem Four.onC2 (D : Dist b1 c1 b2 c2 r1 r2) (F : Four b1 c1 b2 c2 r1 r2 k1 k2 g xs ys us vs) (k : Keep [c2] g g') {ys' : List Int} (B2 : BoxAt g' b2 c2 k2 (ys'.map vI)) :
    Four b1 c1 b2 c2 r1 r2 k1 k2 g' xs ys' us vs :=
  F.cc D (k.mono (by simp)) (F.B1.keep k (by simp [D.b1c2]) (by simp [D.c1c2])) B2
theorem Four.rr (D : Dist b1 c1 b2 c2 r1 r2) (F : Four b1 c1 b2 c2 r1 r2 k1 k2 g xs ys us vs) (k : Keep [r1, r2] g g') {us' vs' : List Int} (R1 : RefAt g' r1 k1 us') (R2 : RefAt g' r2 k2 vs') :
    Four b1 c1 b2 c2 r1 r2 k1 k2 g' xs ys us' vs' :=
  ⟨F.B1.keep k (by simp [D.b1r1, D.b1r2]) (by simp [D.c1r1, D.c1r2]), F.B2.keep k (by simp [D.b2r1, D.b2r2]) (by simp [D.c2r1, D.c2r2]), R1, R2⟩
theorem Four.onR1 (D : Dist b1 c1 b2 c2 r1 r2) (F : Four b1 c1 b2 c2 r1 r2 k1 k2 g xs ys us vs) (k : Keep [r1] g g') {us' : List Int} (R1 : RefAt g' r1 k1 us') :
    Four b1 c1 b2 c2 r1 r2 k1 k2 g' xs ys us' vs :=
  F.rr D (k.mono (by simp)) R1 (F.R2.keep k (by simp [D.r1r2.symm]) (fun i hi => by simp at hi; subst hi; exact F.R1.no))
end

theorem plays (room other : Int) {p : Option Addr} {n c0 : Nat} {ls : List (Int × Int)} {h : Heap} (hp : OpsAt h p ls) (hn : ls.length = n) :
    CallsH Try.prog 6 [.int .i64 room, .int .i64 other, .slice p n c0] h (Back (Truth h)) := by
  refine calls_of mixed Try.func6 ?_
  rw [tronagelaw04_MailboxPlays_den]
  unfold tronagelaw04_MailboxPlays_T
  refine t_callB (awake h) fun v h1 ⟨hv, K1⟩ => ⟨true, hv, ?_⟩
  refine t_callB (newI room h1) fun v h2 ⟨b1, c1, hv, B1, K2, hb1, hc1⟩ => ⟨some ⟨b1, 0, none⟩, hv, ?_⟩
  refine t_callB (newI other h2) fun v h3 ⟨b2, c2, hv, B2, K3, hb2, hc2⟩ => ⟨some ⟨b2, 0, none⟩, hv, ?_⟩
  refine t_callB (refNew room h3) fun v h4 ⟨r1, hv, R1, K4, hr1⟩ => ⟨some ⟨r1, 0, none⟩, hv, ?_⟩
  refine t_callB (refNew other h4) fun v h5 ⟨r2, hv, R2, K5, hr2⟩ => ⟨some ⟨r2, 0, none⟩, hv, ?_⟩
  have l1 := B1.lt
  have l2 := B2.lt
  have l3 := R1.lt
  have l4 := R2.lt
  have s1 := K1.1
  have s2 := K2.1
  have s3 := K3.1
  have s4 := K4.1
  have s5 := K5.1
  have hcap1 := roomOf_spec room
  have hcap2 := roomOf_spec other
  have D : Dist b1 c1 b2 c2 r1 r2 := ⟨by omega, by omega, by omega, by omega, by omega, by omega, by omega, by omega, by omega, by omega, by omega, by omega⟩
  have K15 : Keep [] h h5 := (((K1.trans K2).trans K3).trans K4).trans K5
  have F0 : Four b1 c1 b2 c2 r1 r2 (roomOf room) (roomOf other) h5 [] [] [] [] :=
    ⟨((B1.keep K3 (by simp) (by simp)).keep K4 (by simp) (by simp)).keep K5 (by simp) (by simp), (B2.keep K4 (by simp) (by simp)).keep K5 (by simp) (by simp), R1.keep K5 (by simp) (by simp), R2⟩
  have hold : ∀ i, i ∈ [c1, c2, r1, r2] → h.size ≤ i := fun i hi => by simp at hi; omega
  refine t_join (t_false rfl (t_false rfl (t_jout (_, ()) rfl (t_cond (fun hbig => ?_) (fun hsmall => ?_)))))
  · exact t_join (t_true rfl (t_true rfl (t_jout (true, ()) rfl (t_ret (finOf_back ⟨rfl, K15⟩)))))
  have hn2 : n ≤ 200 := by simp at hsmall; omega
  refine t_for (fun y g => ∃ (k : Nat) (xs ys : List Int), k ≤ n ∧ y.1 = ((k : Nat) : Int) ∧ xs.length ≤ roomOf room ∧ ys.length ≤ roomOf other ∧ Four b1 c1 b2 c2 r1 r2 (roomOf room) (roomOf other) g xs ys xs ys ∧ Keep [c1, c2, r1, r2] h5 g)
    (fun y _ => n - y.1.toNat)
    (fun y g => Keep [c1, c2, r1, r2] h5 g)
    (0, false, ()) rfl ⟨0, [], [], by omega, rfl, by simp, by simp, F0, Keep.refl _ _⟩ ?_ ?_
  · rintro ⟨(z : Int), u, u'⟩ g ⟨k, xs, ys, hk, e1, hx, hy, F, hK⟩
    dsimp only at e1 ⊢
    subst e1
    -- the round's end, whatever was done
    have fin : ∀ (g : Heap) (xs ys : List Int) (Q : Leaf → Heap → Prop) (u : Bool), xs.length ≤ roomOf room → ys.length ≤ roomOf other → Four b1 c1 b2 c2 r1 r2 (roomOf room) (roomOf other) g xs ys xs ys → Keep [c1, c2, r1, r2] h5 g →
        (∀ g', Four b1 c1 b2 c2 r1 r2 (roomOf room) (roomOf other) g' xs ys xs ys → Keep [c1, c2, r1, r2] h5 g' → Q (.out [(.int .i64 (IntKind.wrap .i64 ((k : Int) + (1 : Int)))), (.bool u)]) g') →
        (
          T.call 20 [(.pointer (some ⟨b1, 0, none⟩))] (.one (.atom .slice)) fun (t34 : Option Addr × Nat × Nat) =>
          T.call 20 [(.pointer (some ⟨b2, 0, none⟩))] (.one (.atom .slice)) fun (t35 : Option Addr × Nat × Nat) =>
          T.call 18 [(.pointer (some ⟨b1, 0, none⟩))] (.one (.atom (.int .i64))) fun (t36 : Int) =>
          T.call 16 [(.pointer (some ⟨b1, 0, none⟩))] (.one (.atom (.int .i64))) fun (t37 : Int) =>
          T.join [(.atom .bool)]
          (cond (!true)
          (T.out [(.bool true)])
          (deref (some ⟨r1, 0, none⟩) fun a39 =>
          T.load .slice (a39.add 1) fun (t40 : Option Addr × Nat × Nat) =>
          T.call 19 [(.slice t34.1 t34.2.1 t34.2.2), (.slice t40.1 t40.2.1 t40.2.2)] (.one (.atom .bool)) fun (t41 : Bool) =>
          cond (!t41)
          (T.out [(.bool true)])
          (deref (some ⟨r2, 0, none⟩) fun a42 =>
          T.load .slice (a42.add 1) fun (t43 : Option Addr × Nat × Nat) =>
          T.call 19 [(.slice t35.1 t35.2.1 t35.2.2), (.slice t43.1 t43.2.1 t43.2.2)] (.one (.atom .bool)) fun (t44 : Bool) =>
          cond (!t44)
          (T.out [(.bool true)])
          (deref (some ⟨r1, 0, none⟩) fun a45 =>
          T.load .slice (a45.add 1) fun (t46 : Option Addr × Nat × Nat) =>
          cond (t36 != ((t46.2.1 : Nat) : Int))
          (T.out [(.bool true)])
          (deref (some ⟨r1, 0, none⟩) fun a47 =>
          T.load (.int .i64) a47 fun (t48 : Int) =>
          T.out [(.bool (t37 != t48))]))))) fun (z38 : Bool × Unit) =>
          cond z38.1
          (T.ret (.bool false))
          (T.out [(.int .i64 (IntKind.wrap .i64 ((k : Int) + (1 : Int)))), (.bool u)])).wp Try.prog Q g := by
      intro g xs ys Q u hx hy F hK hQ
      have hall : ∀ (l : List Int), ∀ v ∈ l.map vI, ∃ x, v = .int .i64 x := fun l v hv => by obtain ⟨y, _, rfl⟩ := List.mem_map.1 hv; exact ⟨y, rfl⟩
      refine t_callB (allI F.B1 (hall xs) (by simpa using hx) (by simp; omega)) fun v g1 ⟨p1, d1, hv, o1, B1', q1, n1⟩ => ⟨(p1, xs.length, d1), by simpa using hv, ?_⟩
      have F1 := F.onC1 D q1 B1'
      have hK1 : Keep [c1, c2, r1, r2] h5 g1 := hK.trans (q1.mono (by simp))
      refine t_callB (allI F1.B2 (hall ys) (by simpa using hy) (by simp; omega)) fun v g2 ⟨p2, d2, hv, o2, B2', q2, n2⟩ => ⟨(p2, ys.length, d2), by simpa using hv, ?_⟩
      have F2 := F1.onC2 D q2 B2'
      have hK2 : Keep [c1, c2, r1, r2] h5 g2 := hK1.trans (q2.mono (by simp))
      have hgs := q1.1
      have hlt2 := F.B2.lt
      have o1' := o1.keep q2 (fun i hi hm => by have := n1 i hi; simp at hm; omega)
      refine t_callB (lenI F2.B1) fun v g3 ⟨hv, hg⟩ => ⟨_, hv, ?_⟩
      subst hg
      refine t_callB (roomI F2.B1) fun v g4 ⟨hv, hg⟩ => ⟨_, hv, ?_⟩
      subst hg
      obtain ⟨s1, e1, hb1, hs1, ht1, hu1⟩ := F2.R1
      obtain ⟨s2, e2, hb2, hs2, ht2, hu2⟩ := F2.R2
      refine t_join (t_false rfl (t_deref _ rfl (t_load (s1, xs.length, e1) (cell2 hb1).2 ?_)))
      have w1 : CellsAt g4 p1 (xs.map vI) := by simpa using o1'.cells
      have w2 : CellsAt g4 p2 (ys.map vI) := by simpa using o2.cells
      refine t_callB (ints w1 ht1 (by omega)) fun v g5 ⟨hv, hg⟩ => ⟨true, by simpa using hv, ?_⟩
      subst hg
      refine t_false rfl (t_deref _ rfl (t_load (s2, ys.length, e2) (cell2 hb2).2 ?_))
      refine t_callB (ints w2 ht2 (by omega)) fun v g6 ⟨hv, hg⟩ => ⟨true, by simpa using hv, ?_⟩
      subst hg
      refine t_false rfl (t_deref _ rfl (t_load (s1, xs.length, e1) (cell2 hb1).2 (t_false (by simp) (t_deref _ rfl (t_load ((roomOf room : Nat) : Int) (cell2 hb1).1 ?_)))))
      exact t_jout (false, ()) (by simp [Shs.of]; rfl) (t_false rfl (hQ _ F2 hK2))
    have nxt : ∀ (g : Heap) (xs ys : List Int), k < n → xs.length ≤ roomOf room → ys.length ≤ roomOf other → Four b1 c1 b2 c2 r1 r2 (roomOf room) (roomOf other) g xs ys xs ys → Keep [c1, c2, r1, r2] h5 g → ∀ (u : Bool) (Mz : Shs.Ty [.atom (.int .i64), .atom .bool] → Heap → Prop) (Q : Leaf → Heap → Prop),
        forQ 0 [.atom (.int .i64), .atom .bool] (fun y g => ∃ (k : Nat) (xs ys : List Int), k ≤ n ∧ y.1 = ((k : Nat) : Int) ∧ xs.length ≤ roomOf room ∧ ys.length ≤ roomOf other ∧ Four b1 c1 b2 c2 r1 r2 (roomOf room) (roomOf other) g xs ys xs ys ∧ Keep [c1, c2, r1, r2] h5 g)
          (fun y _ => n - y.1.toNat) (n - (k : Int).toNat) Mz Q (.out [(.int .i64 (IntKind.wrap .i64 ((k : Int) + (1 : Int)))), (.bool u)]) g := by
      intro g xs ys hkn hx hy F hK u Mz Q
      refine ⟨((k : Int) + 1, u, ()), by rw [w64 (by omega) (by omega)]; rfl, ⟨k + 1, xs, ys, hkn, by simp, hx, hy, F, hK⟩, ?_⟩
      have : ((k : Int) + 1).toNat = k + 1 := by omega
      dsimp only
      omega
    refine t_cond (fun hlt0 => ?_) (fun hge => ?_)
    · have hlt' : k < n := by simpa using hlt0
      have hls : k < ls.length := by omega
      have kof : ∀ g', Keep [c1, c2, r1, r2] h5 g' → Keep [] h g' := fun g' kk => K15.new kk (fun i hi => .inr (hold i hi))
      have rd : ∀ g', Keep [c1, c2, r1, r2] h5 g' → ∃ a, p = some a ∧ cellH g' (a.add (k * 2)) = some (vI ls[k].1) ∧ cellH g' ((a.add (k * 2)).add 1) = some (vI ls[k].2) :=
        fun g' kk => hp.keep (kof g' kk) (by simp) k ls[k] (List.getElem?_eq_getElem hls)
      obtain ⟨a, rfl, ha, _⟩ := rd g hK
      have rd' : ∀ g', Keep [c1, c2, r1, r2] h5 g' → cellH g' ((a.add (k * 2)).add 1) = some (vI ls[k].2) := fun g' kk => by obtain ⟨a', h1, _, h2⟩ := rd g' kk; cases h1; exact h2
      -- to the round's end with 'true'
      have done : ∀ (g : Heap) (xs ys : List Int), xs.length ≤ roomOf room → ys.length ≤ roomOf other → Four b1 c1 b2 c2 r1 r2 (roomOf room) (roomOf other) g xs ys xs ys → Keep [c1, c2, r1, r2] h5 g → _ :=
        fun g xs ys hx hy F hK Mz Q => fin g xs ys (forQ 0 [.atom (.int .i64), .atom .bool] (fun y g => ∃ (k : Nat) (xs ys : List Int), k ≤ n ∧ y.1 = ((k : Nat) : Int) ∧ xs.length ≤ roomOf room ∧ ys.length ≤ roomOf other ∧ Four b1 c1 b2 c2 r1 r2 (roomOf room) (roomOf other) g xs ys xs ys ∧ Keep [c1, c2, r1, r2] h5 g)
          (fun y _ => n - y.1.toNat) (n - (k : Int).toNat) Mz Q) u hx hy F hK (fun g' F' hK' => nxt g' xs ys hlt' hx hy F' hK' u Mz Q)
      refine t_deref _ rfl (t_chk (by omega) (t_load ls[k].1 (by simpa using ha) (t_join (t_cond (fun hd1 => ?_) (fun hd1 => ?_)))))
      · -- offer
        refine t_deref _ rfl (t_chk (by omega) (t_load ls[k].2 (by simpa using rd' g hK) (t_deref _ rfl (t_chk (by omega) (t_load ls[k].2 (by simpa using rd' g hK) ?_)))))
        refine t_callB (offerI ls[k].2 F.B1) fun v g1 ⟨hv, B1', q1⟩ => ⟨decide (xs.length < roomOf room), by simpa using hv, ?_⟩
        have F1 := F.onC1 (xs' := if xs.length < roomOf room then xs ++ [ls[k].2] else xs) D q1 (by by_cases hq : xs.length < roomOf room <;> simpa [hq] using B1')
        have hK1 : Keep [c1, c2, r1, r2] h5 g1 := hK.trans (q1.mono (by simp))
        refine t_still (by simpa using rd' g1 hK1) ?_
        refine t_callB (refOffer ls[k].2 F1.R1 (by omega)) fun v g2 ⟨hv, R1', q2⟩ => ⟨decide (xs.length < roomOf room), by simpa using hv, ?_⟩
        have F2 := F1.onR1 (us' := if xs.length < roomOf room then xs ++ [ls[k].2] else xs) D q2 (by by_cases hq : xs.length < roomOf room <;> simpa [hq] using R1')
        have hK2 : Keep [c1, c2, r1, r2] h5 g2 := hK1.trans (q2.mono (by simp))
        refine t_jout (true, ()) (by simp [Shs.of]; rfl) (done _ _ _ ?_ hy F2 hK2 _ _)
        split <;> (try simp) <;> omega
      refine t_join (t_cond (fun hd2 => ?_) (fun hd2 => ?_))
      · -- poll
        refine t_callB (pollI F.B1) fun v g1 hv => ?_
        cases xs with
        | nil =>
          obtain ⟨rfl, hg⟩ := hv
          subst hg
          refine ⟨(0, false, ()), rfl, t_callB (refPoll F.R1) fun v g2 hv => ?_⟩
          obtain ⟨rfl, hg⟩ := hv
          subst hg
          exact ⟨(0, false, ()), rfl, t_join (t_true rfl (t_jout (true, ()) rfl (t_jout (true, ()) rfl (t_jout (true, ()) rfl (done _ _ _ hx hy F hK _ _)))))⟩
        | cons x rest =>
          obtain ⟨rfl, B1', q1⟩ := hv
          have F1 := F.onC1 D q1 B1'
          have hK1 : Keep [c1, c2, r1, r2] h5 g1 := hK.trans (q1.mono (by simp))
          refine ⟨(x, true, ()), rfl, t_callB (refPoll F1.R1) fun v g2 hv => ?_⟩
          obtain ⟨rfl, R1', q2⟩ := hv
          have F2 := F1.onR1 D q2 R1'
          have hK2 : Keep [c1, c2, r1, r2] h5 g2 := hK1.trans (q2.mono (by simp))
          exact ⟨(x, true, ()), rfl, t_join (t_true (by simp) (t_jout (true, ()) rfl (t_jout (true, ()) rfl (t_jout (true, ()) rfl (done _ _ _ (by simp at hx; omega) hy F2 hK2 _ _)))))⟩
      refine t_join (t_cond (fun hd3 => ?_) (fun hd3 => ?_))
      · -- all
        obtain ⟨s1, e1, hb1, hs1, ht1, hu1⟩ := F.R1
        refine t_deref _ rfl (t_load (s1, xs.length, e1) (cell2 hb1).2 ?_)
        refine t_callB (allI F.B1 (fun v hv => by obtain ⟨y, _, rfl⟩ := List.mem_map.1 hv; exact ⟨y, rfl⟩) (by simpa using hx) (by simp; omega)) fun v g1 ⟨p1, d1, hv, o1, B1', q1, n1⟩ => ⟨(p1, xs.length, d1), by simpa using hv, ?_⟩
        have F1 := F.onC1 D q1 B1'
        have hK1 : Keep [c1, c2, r1, r2] h5 g1 := hK.trans (q1.mono (by simp))
        refine t_still (q1.cell (cell2 hb1).2 (by rw [add_block]; simp [D.c1r1.symm])) ?_
        have w1 : CellsAt g1 p1 (xs.map vI) := by simpa using o1.cells
        have w2 : CellsAt g1 s1 (xs.map vI) := ht1.keep q1 (fun i hi hm => by obtain ⟨arr, f, hh⟩ := hu1 i hi; simp at hm; subst hm; exact F.B1.no _ _ hh)
        refine t_callB (ints w1 w2 (by omega)) fun v g2 ⟨hv, hg⟩ => ⟨true, by simpa using hv, ?_⟩
        subst hg
        exact t_jout (true, ()) rfl (t_jout (true, ()) rfl (t_jout (true, ()) rfl (done _ _ _ hx hy F1 hK1 _ _)))
      refine t_join (t_cond (fun hd4 => ?_) (fun hd4 => ?_))
      · -- from the one into the other
        refine t_callB (move F.B1 F.B2 D.b1c2 D.b2c1 D.c1c2 (by omega)) fun v g1 ⟨hv, B1', B2', q1⟩ => ⟨_, hv, ?_⟩
        have F1 := F.cc D q1 B1' B2'
        have hK1 : Keep [c1, c2, r1, r2] h5 g1 := hK.trans (q1.mono (by simp))
        refine t_callB (refMove F1.R1 F1.R2 D.r1r2 (by omega) hcap2.2.1) fun v g2 ⟨hv, R1', R2', q2⟩ => ⟨_, hv, ?_⟩
        have F2 := F1.rr D q2 R1' R2'
        have hK2 : Keep [c1, c2, r1, r2] h5 g2 := hK1.trans (q2.mono (by simp))
        exact t_jout (true, ()) (by simp [Shs.of]; rfl) (t_jout (true, ()) rfl (t_jout (true, ()) rfl (t_jout (true, ()) rfl (done _ _ _ (by simp; omega) (by simp; omega) F2 hK2 _ _))))
      refine t_join (t_cond (fun hd5 => ?_) (fun hd5 => ?_))
      · -- and back
        refine t_callB (move F.B2 F.B1 D.b2c1 D.b1c2 D.c1c2.symm (by omega)) fun v g1 ⟨hv, B2', B1', q1⟩ => ⟨_, hv, ?_⟩
        have F1 := F.cc D (q1.mono (by simp)) B1' B2'
        have hK1 : Keep [c1, c2, r1, r2] h5 g1 := hK.trans (q1.mono (by simp))
        refine t_callB (refMove F1.R2 F1.R1 D.r1r2.symm (by omega) hcap1.2.1) fun v g2 ⟨hv, R2', R1', q2⟩ => ⟨_, hv, ?_⟩
        have F2 := F1.rr D (q2.mono (by simp)) R1' R2'
        have hK2 : Keep [c1, c2, r1, r2] h5 g2 := hK1.trans (q2.mono (by simp))
        exact t_jout (true, ()) (by simp [Shs.of]; rfl) (t_jout (true, ()) rfl (t_jout (true, ()) rfl (t_jout (true, ()) rfl (t_jout (true, ()) rfl (done _ _ _ (by simp; omega) (by simp; omega) F2 hK2 _ _)))))
      exact t_jout (true, ()) rfl (t_jout (true, ()) rfl (t_jout (true, ()) rfl (t_jout (true, ()) rfl (t_jout (true, ()) rfl (done _ _ _ hx hy F hK _ _)))))
    · exact t_exit (_, u, ()) rfl hK
  rintro ⟨z, u⟩ g hK
  exact t_ret (finOf_back ⟨rfl, K15.new hK (fun i hi => .inr (hold i hi))⟩)
end Go.Proofs.Ytaghpjmgnjkejaa
