/-
  THE MAILBOX: the law MailboxOrder, over a heap.
  Conditions: the arguments' cells are there.
-/
import Derived.Test.YtaghpjmgnjkejaaLaws1
namespace Go.Proofs.Ytaghpjmgnjkejaa
open Go Go.Eng
set_option linter.unusedVariables false

/-- A slice of operations: what is done, and the number. -/
def OpsAt (h : Heap) (p : Option Addr) (l : List (Int × Int)) : Prop :=
  ∀ i o, l[i]? = some o → ∃ a, p = some a ∧ cellH h (a.add (i * 2)) = some (vI o.1) ∧ cellH h ((a.add (i * 2)).add 1) = some (vI o.2)
theorem OpsAt.keep {M : List Nat} {h h' : Heap} {p : Option Addr} {l : List (Int × Int)} (c : OpsAt h p l) (k : Keep M h h') (hm : ∀ i, i ∈ M → h.size ≤ i) : OpsAt h' p l := fun i o ho => by
  obtain ⟨a, rfl, h1, h2⟩ := c i o ho
  have hlt : a.block < h.size := by have := cellH_lt h1; rwa [add_block] at this
  have hn : a.block ∉ M := fun h => by have := hm _ h; omega
  exact ⟨a, rfl, k.cell h1 (by rw [add_block]; exact hn), k.cell h2 (by rw [add_block, add_block]; exact hn)⟩
theorem ops_of_reads {P : Program} {h : Heap} {n : Nat} {t e ti : TypeId} {p : Option Addr} {len cap : Nat} {f0 f1 : Field} (ht : P.underlying t = some (.slice e)) (he : P.underlying e = some (.struct #[f0, f1])) (hi : P.underlying ti = some (.int .i64))
    (hf0 : f0.type = ti ∧ f0.offset = 0) (hf1 : f1.type = ti ∧ f1.offset = 1) (hc : P.cellsOf e = 2) (hc1 : P.cellsOf ti = 1) (H : Reads P h n t [.slice p len cap]) :
    len ≤ cap ∧ cap ≤ maxLen ∧ ∃ l : List (Int × Int), l.length = len ∧ OpsAt h p l := by
  obtain ⟨m, p', len', cap', h1, h2, h3, _, h4⟩ := reads_slice ht H
  simp only [List.cons.injEq, Value.slice.injEq, and_true] at h1
  obtain ⟨rfl, rfl, rfl⟩ := h1
  obtain ⟨l, hl, hp⟩ := choose_list (p := fun i (o : Int × Int) => ∃ a, p = some a ∧ cellH h (a.add (i * 2)) = some (vI o.1) ∧ cellH h ((a.add (i * 2)).add 1) = some (vI o.2)) len (fun i hi' => by
    obtain ⟨cs', g1, g2, g3⟩ := h4 i hi'
    obtain ⟨m', g4, g5⟩ := reads_struct he g3
    rw [hc] at g1 g2
    obtain ⟨c0, c1, rfl⟩ : ∃ c0 c1, cs' = [c0, c1] := by
      match cs', g1 with
      | [c0, c1], _ => exact ⟨c0, c1, rfl⟩
    have r0 := g5 f0 (by simp)
    have r1 := g5 f1 (by simp)
    rw [hf0.1, hf0.2, hc1] at r0
    rw [hf1.1, hf1.2, hc1] at r1
    obtain ⟨x0, e0, _⟩ := reads_int hi r0
    obtain ⟨x1, e1, _⟩ := reads_int hi r1
    simp at e0 e1
    subst e0 e1
    obtain ⟨a, ha, hcell⟩ := g2 0 _ rfl
    obtain ⟨a', ha', hcell'⟩ := g2 1 _ rfl
    rw [ha] at ha'; cases ha'
    exact ⟨(x0, x1), a, ha, by simpa using hcell, by rw [add_add]; exact hcell'⟩)
  exact ⟨h2, h3, l, hl, hp⟩

theorem order (room : Int) {p : Option Addr} {n c0 : Nat} {ls : List (Int × Int)} {h : Heap} (hp : OpsAt h p ls) (hn : ls.length = n) :
    CallsH Try.prog 4 [.int .i64 room, .slice p n c0] h (Back (Truth h)) := by
  refine calls_of mixed Try.func4 ?_
  rw [tronagelaw04_MailboxOrder_den]
  unfold tronagelaw04_MailboxOrder_T
  refine t_callB (awake h) fun v h1 ⟨hv, K1⟩ => ⟨true, hv, ?_⟩
  refine t_callB (newI room h1) fun v h2 ⟨b, c, hv, B, K2, hb, hc⟩ => ⟨some ⟨b, 0, none⟩, hv, ?_⟩
  have hlt := B.lt
  have K12 : Keep [] h h2 := K1.trans K2
  have hs1 := K1.1
  have hcap := roomOf_spec room
  refine t_join (t_false rfl (t_jout (_, ()) rfl (t_cond (fun hbig => ?_) (fun hsmall => ?_))))
  · exact t_join (t_true rfl (t_jout (true, ()) rfl (t_ret (finOf_back ⟨rfl, K12⟩))))
  have hn2 : n ≤ 200 := by simp at hsmall; omega
  refine t_for (fun y g => ∃ (k : Nat) (went wait : List Int), k ≤ n ∧ y.1 = (k : Nat) ∧ went.length + wait.length ≤ k ∧ wait.length ≤ roomOf room ∧
      y.2.1.2.1 = went.length ∧ Own 1 3 g y.2.1.1 went.length y.2.1.2.2 (went.map vI) ∧
      y.2.2.1.2.1 = went.length + wait.length ∧ Own 1 3 g y.2.2.1.1 (went.length + wait.length) y.2.2.1.2.2 ((went ++ wait).map vI) ∧
      BoxAt g b c (roomOf room) (wait.map vI) ∧ Keep [c] h2 g ∧ (∀ i, i ∈ blk y.2.1.1 → h2.size ≤ i) ∧ (∀ i, i ∈ blk y.2.2.1.1 → h2.size ≤ i) ∧ (∀ i, i ∈ blk y.2.1.1 → i ∉ blk y.2.2.1.1))
    (fun y _ => n - y.1.toNat)
    (fun y g => ∃ (went wait : List Int), went.length + wait.length ≤ n ∧ wait.length ≤ roomOf room ∧
      y.2.1.2.1 = went.length ∧ Own 1 3 g y.2.1.1 went.length y.2.1.2.2 (went.map vI) ∧
      y.2.2.1.2.1 = went.length + wait.length ∧ Own 1 3 g y.2.2.1.1 (went.length + wait.length) y.2.2.1.2.2 ((went ++ wait).map vI) ∧
      BoxAt g b c (roomOf room) (wait.map vI) ∧ Keep [c] h2 g ∧ (∀ i, i ∈ blk y.2.1.1 → h2.size ≤ i) ∧ (∀ i, i ∈ blk y.2.2.1.1 → h2.size ≤ i))
    (0, (none, 0, 0), (none, 0, 0), false, ()) rfl
    ⟨0, [], [], by omega, rfl, by simp, by simp, rfl, by simpa using Own.nil 1 3 h2, rfl, by simpa using Own.nil 1 3 h2, by simpa using B, Keep.refl _ _, fun i hi => (by cases hi), fun i hi => (by cases hi), fun i hi => (by cases hi)⟩ ?_ ?_
  · rintro ⟨(z : Int), ⟨q, m, cc⟩, ⟨q2, m2, cc2⟩, u, u'⟩ g ⟨k, went, wait, hk, e1, hle, hw, e2, o1, e3, o2, hB, hK, n1, n2, hd⟩
    dsimp only at e1 e2 o1 e3 o2 n1 n2 hd ⊢
    subst e1 e2 e3
    -- the round's end, whatever was done
    have fin : ∀ (g : Heap) (q : Option Addr) (m cc : Nat) (q2 : Option Addr) (m2 cc2 : Nat) (went wait : List Int), m = went.length → m2 = went.length + wait.length → k < n → m2 ≤ k + 1 → wait.length ≤ roomOf room →
        Own 1 3 g q m cc (went.map vI) → Own 1 3 g q2 m2 cc2 ((went ++ wait).map vI) → BoxAt g b c (roomOf room) (wait.map vI) → Keep [c] h2 g →
        (∀ i, i ∈ blk q → h2.size ≤ i) → (∀ i, i ∈ blk q2 → h2.size ≤ i) → (∀ i, i ∈ blk q → i ∉ blk q2) → ∀ (Q : Leaf → Heap → Prop) (u : Bool),
        Q (.out [(.int .i64 (IntKind.wrap .i64 ((k : Int) + (1 : Int)))), (.slice q m cc), (.slice q2 m2 cc2), (.bool u)]) g →
        (T.join [(.atom .bool)]
          (T.call 18 [(.pointer (some ⟨b, 0, none⟩))] (.one (.atom (.int .i64))) fun (t27 : Int) =>
          cond (t27 != (IntKind.wrap .i64 (((m2 : Nat) : Int) - ((m : Nat) : Int))))
          (T.out [(.bool true)])
          (T.call 18 [(.pointer (some ⟨b, 0, none⟩))] (.one (.atom (.int .i64))) fun (t28 : Int) =>
          T.call 16 [(.pointer (some ⟨b, 0, none⟩))] (.one (.atom (.int .i64))) fun (t29 : Int) =>
          T.out [(.bool (decide (t28 > t29)))])) fun (z26 : Bool × Unit) =>
          cond z26.1
          (T.ret (.bool false))
          (T.out [(.int .i64 (IntKind.wrap .i64 ((k : Int) + (1 : Int)))), (.slice q m cc), (.slice q2 m2 cc2), (.bool u)])).wp Try.prog Q g := by
      intro g q m cc q2 m2 cc2 went wait e1 e2 hkn hle hw o1 o2 hB hK n1 n2 hd Q u hQ
      subst e1 e2
      refine t_join (t_callB (lenI hB) fun v g1 ⟨hv, hg⟩ => ⟨_, hv, ?_⟩)
      subst hg
      rw [w64 (by omega) (by omega)]
      refine t_false (by simp; omega) ?_
      refine t_callB (lenI hB) fun v g2 ⟨hv, hg⟩ => ⟨_, hv, ?_⟩
      subst hg
      refine t_callB (roomI hB) fun v g2 ⟨hv, hg⟩ => ⟨_, hv, ?_⟩
      subst hg
      refine t_jout (false, ()) ?_ (t_false rfl hQ)
      have : ¬ ((wait.map vI).length : Int) > (roomOf room : Int) := by simp; omega
      simp only [this, decide_false]
      rfl
    -- and the next round
    have nxt : ∀ (g : Heap) (q : Option Addr) (m cc : Nat) (q2 : Option Addr) (m2 cc2 : Nat) (went wait : List Int) (u : Bool) (mm : Nat) (Mz : Shs.Ty [.atom (.int .i64), .atom .slice, .atom .slice, .atom .bool] → Heap → Prop) (Q : Leaf → Heap → Prop), m = went.length → m2 = went.length + wait.length → k < n → m2 ≤ k + 1 → wait.length ≤ roomOf room →
        Own 1 3 g q m cc (went.map vI) → Own 1 3 g q2 m2 cc2 ((went ++ wait).map vI) → BoxAt g b c (roomOf room) (wait.map vI) → Keep [c] h2 g →
        (∀ i, i ∈ blk q → h2.size ≤ i) → (∀ i, i ∈ blk q2 → h2.size ≤ i) → (∀ i, i ∈ blk q → i ∉ blk q2) → n - k ≤ mm →
        forQ 0 [.atom (.int .i64), .atom .slice, .atom .slice, .atom .bool] (fun y g => ∃ (k : Nat) (went wait : List Int), k ≤ n ∧ y.1 = (k : Nat) ∧ went.length + wait.length ≤ k ∧ wait.length ≤ roomOf room ∧  y.2.1.2.1 = went.length ∧ Own 1 3 g y.2.1.1 went.length y.2.1.2.2 (went.map vI) ∧  y.2.2.1.2.1 = went.length + wait.length ∧ Own 1 3 g y.2.2.1.1 (went.length + wait.length) y.2.2.1.2.2 ((went ++ wait).map vI) ∧  BoxAt g b c (roomOf room) (wait.map vI) ∧ Keep [c] h2 g ∧ (∀ i, i ∈ blk y.2.1.1 → h2.size ≤ i) ∧ (∀ i, i ∈ blk y.2.2.1.1 → h2.size ≤ i) ∧ (∀ i, i ∈ blk y.2.1.1 → i ∉ blk y.2.2.1.1)) (fun y _ => n - y.1.toNat) mm Mz Q
          (.out [(.int .i64 (IntKind.wrap .i64 ((k : Int) + (1 : Int)))), (.slice q m cc), (.slice q2 m2 cc2), (.bool u)]) g := by
      intro g q m cc q2 m2 cc2 went wait u mm Mz Q e1 e2 hkn hle hw o1 o2 hB hK n1 n2 hd hmm
      subst e1 e2
      refine ⟨((k : Int) + 1, (q, went.length, cc), (q2, went.length + wait.length, cc2), u, ()), by rw [w64 (by omega) (by omega)]; rfl, ⟨k + 1, went, wait, hkn, by simp, hle, hw, rfl, o1, rfl, o2, hB, hK, n1, n2, hd⟩, ?_⟩
      have : ((k : Int) + 1).toNat = k + 1 := by omega
      dsimp only
      omega
    refine t_cond (fun hlt0 => ?_) (fun hge => ?_)
    · have hlt' : k < n := by simpa using hlt0
      have hls : k < ls.length := by first | omega | (dsimp only; omega) | (simp; done) | (simp; omega)
      have kof : ∀ g', Keep [c] h2 g' → Keep [] h g' := fun g' kk => K12.new kk (fun i hi => .inr (by simp at hi; omega))
      have rd : ∀ g', Keep [c] h2 g' → ∃ a, p = some a ∧ cellH g' (a.add (k * 2)) = some (vI ls[k].1) ∧ cellH g' ((a.add (k * 2)).add 1) = some (vI ls[k].2) :=
        fun g' kk => hp.keep (kof g' kk) (by simp) k ls[k] (List.getElem?_eq_getElem hls)
      obtain ⟨a, rfl, ha, _⟩ := rd g hK
      have rd' : ∀ g', Keep [c] h2 g' → cellH g' ((a.add (k * 2)).add 1) = some (vI ls[k].2) := fun g' kk => by obtain ⟨a', h1, _, h2⟩ := rd g' kk; cases h1; exact h2
      refine t_deref _ rfl (t_chk (by first | omega | (dsimp only; omega) | (simp; done) | (simp; omega)) (t_load ls[k].1 (by simpa using ha) (t_join (t_cond (fun hd1 => ?_) (fun hd1 => ?_)))))
      · refine t_deref _ rfl (t_chk (by first | omega | (dsimp only; omega) | (simp; done) | (simp; omega)) (t_load ls[k].2 (by simpa using rd' g hK) ?_))
        refine t_callB (offerI ls[k].2 hB) fun v g1 ⟨hv, B1, K3⟩ => ⟨decide (wait.length < roomOf room), by simpa using hv, ?_⟩
        have hK1 := hK.trans K3
        have o1' := o1.keep K3 (fun i hi hm => by have := n1 i hi; simp at hm; omega)
        have o2' := o2.keep K3 (fun i hi hm => by have := n2 i hi; simp at hm; omega)
        refine t_join (t_cond (fun hr => ?_) (fun hr => ?_))
        · have hr2 : wait.length < roomOf room := by simpa using hr
          rw [if_pos (by simpa using hr2)] at B1
          refine t_deref _ rfl (t_chk (by first | omega | (dsimp only; omega) | (simp; done) | (simp; omega)) (t_load ls[k].2 (by simpa using rd' g1 hK1) (t_new ?_)))
          have kp : Keep [] g1 (g1.push (.cells #[.int .i64 ls[k].2] 3 (0, 0))) := Keep.push _ _ _
          have hK2 : Keep [c] h2 (g1.push (.cells #[.int .i64 ls[k].2] 3 (0, 0))) := hK1.trans (Keep.push _ _ _)
          have hs2 := hK1.1
          refine t_sem (append_wp appI (o2'.keep kp (fun i hi hm => by cases hm)) oneCell (m := 1) rfl (by simp [Eng.Value.plain]) (by first | omega | (dsimp only; omega) | (simp; done) | (simp; omega)) ?_)
          intro p' c' g2 o3 k3 n3
          refine ⟨(p', went.length + wait.length + 1, c'), rfl, ?_⟩
          have n3' : ∀ i, i ∈ blk p' → h2.size ≤ i := fun i hi => (n3 i hi).elim (n2 i) (fun h => by simp at h; omega)
          have hK3 : Keep [c] h2 g2 := hK2.new k3 fun i hi => .inr (n2 i hi)
          have B2 := (B1.keep kp (by simp) (by simp)).keep k3 (fun hi => by have := n2 _ hi; omega) (fun hi => by have := n2 _ hi; omega)
          have o1'' := (o1'.keep kp (fun i hi hm => by cases hm)).keep k3 (fun i hi hm => hd i hi hm)
          have hd' : ∀ i, i ∈ blk q → i ∉ blk p' := fun i hi hp' => (n3 i hp').elim (fun h => hd i hi h) (fun h => by have := o1'.old i hi; simp at h; omega)
          refine t_jout ((p', went.length + wait.length + 1, c'), ()) rfl (t_join (t_callB (roomI B2) fun v g3 ⟨hv, hg⟩ => ⟨_, hv, ?_⟩))
          subst hg
          rw [w64 (by first | omega | (dsimp only; omega) | (simp; done) | (simp; omega)) (by first | omega | (dsimp only; omega) | (simp; done) | (simp; omega))]
          have ht : decide (((went.length + wait.length + 1 : Nat) : Int) - (went.length : Nat) ≤ (roomOf room : Nat)) = true := by first | omega | (dsimp only; omega) | (simp; done) | (simp; omega)
          dsimp only
          refine t_false (by rw [ht]; simp [hr2]) (t_jout (false, ()) rfl (t_false rfl (t_jout ((q, went.length, cc), (p', went.length + wait.length + 1, c'), u, ()) rfl ?_)))
          refine fin g3 q _ cc p' _ c' went (wait ++ [ls[k].2]) rfl (by simp [Nat.add_assoc]) hlt' (by first | omega | (dsimp only; omega) | (simp; done) | (simp; omega)) (by first | omega | (dsimp only; omega) | (simp; done) | (simp; omega)) o1'' (by simpa [Nat.add_assoc] using o3) (by simpa using B2) hK3 n1 n3' hd' _ u ?_
          exact nxt g3 q _ cc p' _ c' went (wait ++ [ls[k].2]) u _ _ _ rfl (by simp [Nat.add_assoc]) hlt' (by first | omega | (dsimp only; omega) | (simp; done) | (simp; omega)) (by first | omega | (dsimp only; omega) | (simp; done) | (simp; omega)) o1'' (by simpa [Nat.add_assoc] using o3) (by simpa using B2) hK3 n1 n3' hd' (by simp)
        · have hr2 : ¬ wait.length < roomOf room := by simpa using hr
          rw [if_neg (by simpa using hr2)] at B1
          refine t_jout ((q2, went.length + wait.length, cc2), ()) rfl (t_join (t_callB (roomI B1) fun v g3 ⟨hv, hg⟩ => ⟨_, hv, ?_⟩))
          subst hg
          rw [w64 (by first | omega | (dsimp only; omega) | (simp; done) | (simp; omega)) (by first | omega | (dsimp only; omega) | (simp; done) | (simp; omega))]
          have ht : decide (((went.length + wait.length : Nat) : Int) - (went.length : Nat) ≤ (roomOf room : Nat)) = true := by first | omega | (dsimp only; omega) | (simp; done) | (simp; omega)
          refine t_true (by rw [ht]; simp [hr2]) (t_jout (false, ()) (by simp only [hr2, decide_false]; rfl) (t_false rfl (t_jout ((q, went.length, cc), (q2, went.length + wait.length, cc2), u, ()) rfl ?_)))
          refine fin g3 q _ cc q2 _ cc2 went wait rfl rfl hlt' (by first | omega | (dsimp only; omega) | (simp; done) | (simp; omega)) hw o1' o2' B1 hK1 n1 n2 hd _ u ?_
          exact nxt g3 q _ cc q2 _ cc2 went wait u _ _ _ rfl rfl hlt' (by first | omega | (dsimp only; omega) | (simp; done) | (simp; omega)) hw o1' o2' B1 hK1 n1 n2 hd (by simp)
      · refine t_join (t_cond (fun hd2 => ?_) (fun hd2 => ?_))
        · refine t_callB (pollI hB) fun v g1 hv => ?_
          cases wait with
          | nil =>
            obtain ⟨rfl, hg⟩ := hv
            subst hg
            refine ⟨(0, false, ()), rfl, t_join (t_false rfl (t_jout ((q, went.length, cc), ()) rfl (t_join (t_true rfl (t_jout (false, ()) (by simp [Shs.of]; rfl) (t_false rfl
              (t_jout ((q, went.length, cc), u, ()) rfl (t_jout ((q, went.length, cc), (q2, went.length + ([] : List Int).length, cc2), u, ()) rfl ?_))))))))⟩
            refine fin g1 q _ cc q2 _ cc2 went [] rfl rfl hlt' (by first | omega | (dsimp only; omega) | (simp; done) | (simp; omega)) hw o1 o2 hB hK n1 n2 hd _ u ?_
            exact nxt g1 q _ cc q2 _ cc2 went [] u _ _ _ rfl rfl hlt' (by first | omega | (dsimp only; omega) | (simp; done) | (simp; omega)) hw o1 o2 hB hK n1 n2 hd (by simp)
          | cons x rest =>
            obtain ⟨rfl, B1, K3⟩ := hv
            simp only [List.length_cons] at hle hw o2 ⊢
            have hK1 := hK.trans K3
            have hs2 := hK1.1
            have o1' := o1.keep K3 (fun i hi hm => by have := n1 i hi; simp at hm; omega)
            have o2' := o2.keep K3 (fun i hi hm => by have := n2 i hi; simp at hm; omega)
            refine ⟨(x, true, ()), rfl, t_join (t_true rfl (t_new ?_))⟩
            have kp : Keep [] g1 (g1.push (.cells #[.int .i64 x] 3 (0, 0))) := Keep.push _ _ _
            have hK2 : Keep [c] h2 (g1.push (.cells #[.int .i64 x] 3 (0, 0))) := hK1.trans (Keep.push _ _ _)
            refine t_sem (append_wp appI (o1'.keep kp (fun i hi hm => by cases hm)) oneCell (m := 1) rfl (by simp [Eng.Value.plain]) (by first | omega | (dsimp only; omega) | (simp; done) | (simp; omega)) ?_)
            intro p' c' g2 o3 k3 n3
            have n3' : ∀ i, i ∈ blk p' → h2.size ≤ i := fun i hi => (n3 i hi).elim (n1 i) (fun h => by simp at h; omega)
            have hK3 : Keep [c] h2 g2 := hK2.new k3 fun i hi => .inr (n1 i hi)
            have B2 := (B1.keep kp (by simp) (by simp)).keep k3 (fun hi => by have := n1 _ hi; omega) (fun hi => by have := n1 _ hi; omega)
            have o2'' := (o2'.keep kp (fun i hi hm => by cases hm)).keep k3 (fun i hi hm => hd i hm hi)
            have hd' : ∀ i, i ∈ blk p' → i ∉ blk q2 := fun i hp' hi => (n3 i hp').elim (fun h => hd i h hi) (fun h => by have := o2'.old i hi; simp at h; omega)
            have o3' : Own 1 3 g2 p' (went.length + 1) c' ((went ++ [x]).map vI) := by simpa using o3
            have o2f : Own 1 3 g2 q2 (went.length + (rest.length + 1)) cc2 (((went ++ [x]) ++ rest).map vI) := by simpa using o2''
            refine ⟨(p', went.length + 1, c'), rfl, t_jout ((p', went.length + 1, c'), ()) rfl (t_join (t_false rfl (t_jout (false, ()) rfl (t_false rfl
              (t_jout ((p', went.length + 1, c'), u, ()) rfl (t_jout ((p', went.length + 1, c'), (q2, went.length + (rest.length + 1), cc2), u, ()) rfl ?_))))))⟩
            refine fin g2 p' _ c' q2 _ cc2 (went ++ [x]) rest (by simp) (by simp; omega) hlt' (by first | omega | (dsimp only; omega) | (simp; done) | (simp; omega)) (by omega) o3' o2f B2 hK3 n3' n2 hd' _ u ?_
            exact nxt g2 p' _ c' q2 _ cc2 (went ++ [x]) rest u _ _ _ (by simp) (by simp; omega) hlt' (by first | omega | (dsimp only; omega) | (simp; done) | (simp; omega)) (by omega) o3' o2f B2 hK3 n3' n2 hd' (by simp)
        · refine t_jout ((q, went.length, cc), u, ()) rfl (t_jout ((q, went.length, cc), (q2, went.length + wait.length, cc2), u, ()) rfl ?_)
          refine fin g q _ cc q2 _ cc2 went wait rfl rfl hlt' (by first | omega | (dsimp only; omega) | (simp; done) | (simp; omega)) hw o1 o2 hB hK n1 n2 hd _ u ?_
          exact nxt g q _ cc q2 _ cc2 went wait u _ _ _ rfl rfl hlt' (by first | omega | (dsimp only; omega) | (simp; done) | (simp; omega)) hw o1 o2 hB hK n1 n2 hd (by simp)
    · have hge : k = n := by simp at hge; omega
      exact t_exit (_, (q, went.length, cc), (q2, went.length + wait.length, cc2), u, ()) rfl ⟨went, wait, by first | omega | (dsimp only; omega) | (simp; done) | (simp; omega), hw, rfl, o1, rfl, o2, hB, hK, n1, n2⟩
  rintro ⟨(z : Int), ⟨q, m, cc⟩, ⟨q2, m2, cc2⟩, u, u'⟩ g ⟨went, wait, hle, hw, e2, o1, e3, o2, hB, hK, n1, n2⟩
  dsimp only at e2 o1 e3 o2 n1 n2 ⊢
  subst e2 e3
  refine t_join (t_true rfl (t_new ?_))
  have k1 : Keep [] g (g.push (.cells #[] 3 (0, 0))) := Keep.push _ _ _
  have oe : Own 1 3 (g.push (.cells #[] 3 (0, 0))) (some ⟨g.size, 0, none⟩) 0 0 [] := .inr ⟨g.size, 0, #[], rfl, by rw [Array.getElem?_push, if_pos rfl], rfl, Nat.le_refl _, Nat.le_refl _, fun i v hv => by simp at hv⟩
  have hgs := hK.1
  refine t_sem (append_wp appI oe (o1.cells.keep k1 (fun i _ hm => by cases hm)) (m := went.length) (by simp) (fun v hv => by obtain ⟨y, _, rfl⟩ := List.mem_map.1 hv; rfl) (by first | omega | (dsimp only; omega) | (simp; done) | (simp; omega)) ?_)
  intro q3 c3 g3 o3 k3 n3
  refine ⟨(q3, 0 + went.length, c3), rfl, ?_⟩
  have kg3 : Keep [] g g3 := k1.new k3 (fun i hi => .inr (by simp [blk] at hi; omega))
  have n3' : ∀ i, i ∈ blk q3 → g.size ≤ i := fun i hi => (n3 i hi).elim (fun h => by simp [blk] at h; omega) (fun h => by simp at h; omega)
  have hB3 := hB.keep kg3 (by simp) (by simp)
  refine t_callB (allI hB3 (fun v hv => by obtain ⟨y, _, rfl⟩ := List.mem_map.1 hv; exact ⟨y, rfl⟩) (by simpa using hw) (by first | omega | (dsimp only; omega) | (simp; done) | (simp; omega))) fun v g4 ⟨p4, c4, hv, o4, B4, k4, n4⟩ => ⟨(p4, wait.length, c4), by simpa using hv, ?_⟩
  have o3' := o3.keep k4 (fun i hi hm => by have := n3' i hi; simp at hm; omega)
  refine t_sem (append_wp appI o3' o4.cells (m := wait.length) (by simp) (fun v hv => by obtain ⟨y, _, rfl⟩ := List.mem_map.1 hv; rfl) (by first | omega | (dsimp only; omega) | (simp; done) | (simp; omega)) ?_)
  intro q5 c5 g5 o5 k5 n5
  refine ⟨(q5, 0 + went.length + wait.length, c5), rfl, ?_⟩
  have ka : Keep [c] h2 g5 := ((hK.trans (kg3.mono (by simp))).trans k4).new k5 (fun i hi => .inr (by have := n3' i hi; omega))
  have c2 : CellsAt g5 q2 ((went ++ wait).map vI) := ((o2.cells.keep kg3 (fun i _ hm => by cases hm)).keep k4 (fun i hi hm => by have := n2 i hi; simp at hm; omega)).keep k5 (fun i hi hm => by have h1 := n3' i hm; have h2 := o2.old i hi; omega)
  have c5' : CellsAt g5 q5 ((went ++ wait).map vI) := by have := o5.cells; simpa using this
  have el : went.length + wait.length = (went ++ wait).length := by simp
  have el2 : 0 + went.length + wait.length = (went ++ wait).length := by simp
  rw [el, el2]
  refine t_callB (ints c2 c5' (by first | omega | (dsimp only; omega) | (simp; done) | (simp; omega))) fun v g6 ⟨hv, hg⟩ => ⟨true, by simpa using hv, ?_⟩
  subst hg
  exact t_jout (true, ()) rfl (t_ret (finOf_back ⟨rfl, K12.new ka (fun i hi => .inr (by simp at hi; omega))⟩))
end Go.Proofs.Ytaghpjmgnjkejaa
