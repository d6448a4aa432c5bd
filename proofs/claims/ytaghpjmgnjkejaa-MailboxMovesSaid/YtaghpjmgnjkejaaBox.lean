/-
  THE MAILBOX: what each method of a box does, over a heap.
  Conditions: the box's two blocks are there.
-/
import Derived.Test.YtaghpjmgnjkejaaEngU
import Derived.Test.YtaghpjmgnjkejaaDen
namespace Go.Proofs.Ytaghpjmgnjkejaa
open Go Go.Eng
set_option linter.unusedVariables false

theorem mixed : Try.prog.follows .mixedOrders = true := by kernel_rfl

/-- A box: its struct's block b, its channel's block c, its room, what waits. -/
def BoxAt (h : Heap) (b c cap : Nat) (l : List Value) : Prop :=
  ∃ ty s r, h[b]? = some (.cells #[.chan (some c)] ty (0, 0)) ∧ h[c]? = some (.chan cap l.toArray false s r false)
theorem BoxAt.cell {h : Heap} {b c cap : Nat} {l : List Value} (B : BoxAt h b c cap l) : cellH h ⟨b, 0, none⟩ = some (.chan (some c)) := by
  obtain ⟨ty, s, r, h1, h2⟩ := B
  rw [cellH_of (a := ⟨b, 0, none⟩) h1 rfl]; rfl
theorem BoxAt.ne {h : Heap} {b c cap : Nat} {l : List Value} (B : BoxAt h b c cap l) : b ≠ c := by
  obtain ⟨ty, s, r, h1, h2⟩ := B
  intro e; subst e; rw [h1] at h2; cases h2
theorem BoxAt.keep {M : List Nat} {h h' : Heap} {b c cap : Nat} {l : List Value} (B : BoxAt h b c cap l) (k : Keep M h h') (hb : b ∉ M) (hc : c ∉ M) : BoxAt h' b c cap l := by
  obtain ⟨ty, s, r, h1, h2⟩ := B
  exact ⟨ty, s, r, k.at h1 hb, k.at h2 hc⟩
theorem BoxAt.lt {h : Heap} {b c cap : Nat} {l : List Value} (B : BoxAt h b c cap l) : b < h.size ∧ c < h.size := by
  obtain ⟨ty, s, r, h1, h2⟩ := B
  constructor
  · rcases Nat.lt_or_ge b h.size with g | g
    · exact g
    · rw [Array.getElem?_eq_none g] at h1; cases h1
  · rcases Nat.lt_or_ge c h.size with g | g
    · exact g
    · rw [Array.getElem?_eq_none g] at h2; cases h2
theorem BoxAt.put {h : Heap} {b c cap : Nat} {l : List Value} (B : BoxAt h b c cap l) (l' : List Value) (s r : Nat) : BoxAt (h.setIfInBounds c (.chan cap l'.toArray false s r false)) b c cap l' := by
  have hne := B.ne
  have hlt := B.lt
  obtain ⟨ty, s0, r0, h1, h2⟩ := B
  refine ⟨ty, s, r, ?_, ?_⟩
  · rw [Array.getElem?_setIfInBounds_ne hne.symm]; exact h1
  · rw [Array.getElem?_setIfInBounds_self_of_lt hlt.2]

/-- The room of a box. -/
def roomOf (room : Int) : Nat := (if (if (64 : Int) < room then (64 : Int) else room) > (1 : Int) then (if (64 : Int) < room then (64 : Int) else room) else (1 : Int)).toNat
theorem roomOf_spec (room : Int) : 1 ≤ roomOf room ∧ roomOf room ≤ 64 ∧ ((roomOf room : Nat) : Int) = (if (if (64 : Int) < room then (64 : Int) else room) > (1 : Int) then (if (64 : Int) < room then (64 : Int) else room) else (1 : Int)) ∧ (room < 1 ∨ room > 64 ∨ (roomOf room : Int) = room) := by
  unfold roomOf
  split <;> split at * <;> omega

theorem makeChan_wp {P : Program} {h : Heap} {t e : TypeId} {d : ChanDir} {i : TypeInfo} (hd : P.underlying t = some (.chan d e)) (hi : P.info? e = some i) (hb : i.bytes ≤ 4096) {n : Int} (h0 : 0 ≤ n) (h1 : n ≤ 64)
    {K : Value → Heap → Prop} {X : Value → Heap → Prop} (hk : K (.chan (some h.size)) (h.push (.chan n.toNat #[] false 0 0 false))) : semWp P (Instr.makeChan t (.int .i64 n)) K X h := by
  have e1 : IntKind.i64.max = 9223372036854775807 := rfl
  have hbn : (i.bytes : Int) * n ≤ 4096 * 64 := Int.mul_le_mul (by omega) h1 h0 (by omega)
  unfold Instr.makeChan
  simp only [asInt, asIntOf]
  refine underlying_run hd ?_
  refine typeInfo_run hi ?_
  dsimp only
  rw [if_neg (by rw [e1]; omega)]
  exact hk
theorem lenChan_wp {P : Program} {h : Heap} {t e rt : TypeId} {d : ChanDir} (hd : P.underlying t = some (.chan d e)) {c cap s r : Nat} {buf : Array Value} {cl : Bool} (hc : h[c]? = some (.chan cap buf cl s r false))
    {K : Value → Heap → Prop} {X : Value → Heap → Prop} (hk : K (.int .i64 buf.size) h) : semWp P (Builtin.len_ #[t] rt #[.chan (some c)]) K X h := by
  unfold Builtin.len_
  simp only [List.getElem?_toArray, List.getElem?_cons_zero]
  refine underlying_run hd ?_
  exact ⟨_, hc, by simp, hk⟩
theorem capChan_wp {P : Program} {h : Heap} {t e rt : TypeId} {d : ChanDir} (hd : P.underlying t = some (.chan d e)) {c cap s r : Nat} {buf : Array Value} {cl : Bool} (hc : h[c]? = some (.chan cap buf cl s r false))
    {K : Value → Heap → Prop} {X : Value → Heap → Prop} (hk : K (.int .i64 cap) h) : semWp P (Builtin.cap_ #[t] rt #[.chan (some c)]) K X h := by
  unfold Builtin.cap_
  simp only [List.getElem?_toArray, List.getElem?_cons_zero]
  refine underlying_run hd ?_
  exact ⟨_, hc, by simp, hk⟩

section int
theorem info3 : ∃ i, Try.prog.info? 3 = some i ∧ i.size = 1 ∧ (∃ z, i.zero = some z ∧ z.cells.size = 1) ∧ 0 < i.bytes ∧ i.bytes ≤ 4096 :=
  ⟨Try.t3, by kernel_rfl, rfl, ⟨_, rfl, rfl⟩, by decide, by decide⟩

theorem newI (room : Int) (h : Heap) : CallsH Try.prog 14 [.int .i64 room] h (Back fun v h' => ∃ b c, v = .pointer (some ⟨b, 0, none⟩) ∧ BoxAt h' b c (roomOf room) [] ∧ Keep [] h h' ∧ h.size ≤ b ∧ h.size ≤ c) := by
  refine calls_of mixed Try.func14 ?_
  rw [mailbox_New_int_den]
  unfold mailbox_New_int_T
  obtain ⟨h1, h2, h3, _⟩ := roomOf_spec room
  rw [← h3]
  obtain ⟨i, hi, _, _, _, hb⟩ := info3
  refine t_sem (makeChan_wp Try.underlying56 hi hb (by omega) (by omega) ⟨some h.size, rfl, ?_⟩)
  refine t_new (t_ret (finOf_back ⟨h.size + 1, h.size, by simp, ⟨58, 0, 0, ?_, ?_⟩, ?_, by omega, by omega⟩))
  · rw [Array.getElem?_push, if_pos (by simp)]
  · rw [Array.getElem?_push, if_neg (by simp), Array.getElem?_push, if_pos rfl]; rfl
  · exact (Keep.push _ _ _).trans (Keep.push _ _ _)

theorem offerI (x : Int) {h : Heap} {b c cap : Nat} {l : List Value} (B : BoxAt h b c cap l) : CallsH Try.prog 15 [.pointer (some ⟨b, 0, none⟩), .int .i64 x] h
    (Back fun v h' => v = .bool (decide (l.length < cap)) ∧ BoxAt h' b c cap (if l.length < cap then l ++ [.int .i64 x] else l) ∧ Keep [c] h h') := by
  refine calls_of mixed Try.func15 ?_
  rw [mailbox_Box_int_Offer_den]
  unfold mailbox_Box_int_Offer_T
  refine t_deref _ rfl (t_load (some c) B.cell (t_derefN c rfl ?_))
  have B' := B
  obtain ⟨ty, s, r, h1, h2⟩ := B'
  refine ⟨cap, l.toArray, s, r, h2, ?_⟩
  by_cases hl : l.length < cap
  · simp only [List.size_toArray, if_pos hl]
    refine t_true rfl (t_ret (finOf_back ⟨by simp [hl], ?_, Keep.set _ _ _⟩))
    have e : l.toArray.push (.int .i64 x) = (l ++ [Value.int .i64 x]).toArray := by simp
    rw [e]; exact B.put _ _ _
  · simp only [List.size_toArray, if_neg hl]
    exact t_false rfl (t_ret (finOf_back ⟨by simp; omega, B, Keep.refl _ _⟩))

theorem pollI {h : Heap} {b c cap : Nat} {l : List Value} (B : BoxAt h b c cap l) : CallsH Try.prog 17 [.pointer (some ⟨b, 0, none⟩)] h
    (Back fun v h' => match l with
      | [] => v = .tuple #[.int .i64 0, .bool false] ∧ h' = h
      | x :: r => v = .tuple #[x, .bool true] ∧ BoxAt h' b c cap r ∧ Keep [c] h h') := by
  refine calls_of mixed Try.func17 ?_
  rw [mailbox_Box_int_Poll_den]
  unfold mailbox_Box_int_Poll_T
  refine t_deref _ rfl (t_load (some c) B.cell (t_derefN c rfl ?_))
  have B' := B
  obtain ⟨ty, s, r, h1, h2⟩ := B'
  refine ⟨cap, l.toArray, s, r, h2, ?_⟩
  cases l with
  | nil => exact t_false rfl (t_ret (finOf_back ⟨rfl, rfl⟩))
  | cons x r' =>
    have e : (x :: r').toArray.extract 1 (x :: r').toArray.size = r'.toArray := by simp
    simp only [List.size_toArray, List.length_cons, Nat.zero_lt_succ, if_true]
    refine t_true rfl (t_ret (finOf_back ⟨rfl, ?_, Keep.set _ _ _⟩))
    have := B.put r' s (r + 1)
    rw [← e] at this; exact this

theorem lenI {h : Heap} {b c cap : Nat} {l : List Value} (B : BoxAt h b c cap l) : CallsH Try.prog 18 [.pointer (some ⟨b, 0, none⟩)] h (Back fun v h' => v = .int .i64 l.length ∧ h' = h) := by
  refine calls_of mixed Try.func18 ?_
  rw [mailbox_Box_int_Len_den]
  unfold mailbox_Box_int_Len_T
  refine t_deref _ rfl (t_load (some c) B.cell ?_)
  obtain ⟨ty, s, r, h1, h2⟩ := B
  exact t_sem (lenChan_wp Try.underlying56 h2 ⟨_, rfl, finOf_back ⟨by simp, rfl⟩⟩)

theorem roomI {h : Heap} {b c cap : Nat} {l : List Value} (B : BoxAt h b c cap l) : CallsH Try.prog 16 [.pointer (some ⟨b, 0, none⟩)] h (Back fun v h' => v = .int .i64 cap ∧ h' = h) := by
  refine calls_of mixed Try.func16 ?_
  rw [mailbox_Box_int_Room_den]
  unfold mailbox_Box_int_Room_T
  refine t_deref _ rfl (t_load (some c) B.cell ?_)
  obtain ⟨ty, s, r, h1, h2⟩ := B
  exact t_sem (capChan_wp Try.underlying56 h2 ⟨_, rfl, finOf_back ⟨rfl, rfl⟩⟩)
theorem appI : AppT Try.prog 35 35 3 1 := ⟨Try.underlying35, .inl Try.underlying35, info3, by decide⟩

theorem oneCell {h : Heap} {v : Value} {t : TypeId} : CellsAt (h.push (.cells #[v] t (0, 0))) (some ⟨h.size, 0, none⟩) [v] := by
  intro i u hu
  refine ⟨_, rfl, ?_⟩
  cases i with
  | zero => rw [add_mk, cellH_of (c := #[v]) (t := t) (f := (0, 0)) (by rw [Array.getElem?_push, if_pos rfl]) rfl]; simpa using hu
  | succ i => simp at hu

theorem allI {h : Heap} {b c cap : Nat} {l : List Value} (B : BoxAt h b c cap l) (hl : ∀ v ∈ l, ∃ x, v = .int .i64 x) (hcap : l.length ≤ cap) (hn : l.length ≤ 1000000) : CallsH Try.prog 20 [.pointer (some ⟨b, 0, none⟩)] h
    (Back fun v h' => ∃ p cc, v = .slice p l.length cc ∧ Own 1 3 h' p l.length cc l ∧ BoxAt h' b c cap l ∧ Keep [c] h h' ∧ ∀ i, i ∈ blk p → h.size ≤ i) := by
  refine calls_of mixed Try.func20 ?_
  rw [mailbox_Box_int_All_den]
  unfold mailbox_Box_int_All_T
  refine t_callB (lenI B) fun v h' ⟨hv, hh⟩ => ⟨l.length, hv, ?_⟩
  subst hh
  have hBl := B.lt
  refine t_for (fun y g => ∃ k, k ≤ l.length ∧ y.1 = (k : Nat) ∧ y.2.1.2.1 = k ∧ Own 1 3 g y.2.1.1 k y.2.1.2.2 (l.take k) ∧ BoxAt g b c cap (l.drop k ++ l.take k) ∧ Keep [c] h' g ∧ ∀ i, i ∈ blk y.2.1.1 → h'.size ≤ i)
    (fun y _ => l.length - y.1.toNat)
    (fun y g => y.2.1.2.1 = l.length ∧ Own 1 3 g y.2.1.1 l.length y.2.1.2.2 l ∧ BoxAt g b c cap l ∧ Keep [c] h' g ∧ ∀ i, i ∈ blk y.2.1.1 → h'.size ≤ i)
    (0, (none, 0, 0), ()) rfl ⟨0, by omega, rfl, rfl, by simpa using Own.nil 1 3 h', by simpa using B, Keep.refl _ _, fun i hi => by cases hi⟩ ?_ ?_
  · rintro ⟨z, ⟨p, n, cc⟩, u⟩ g ⟨k, hk, e1, e2, ho, hB, hK, hnew⟩
    dsimp only at e1 e2 ho hnew ⊢
    subst e1 e2
    refine t_cond (fun hlt => ?_) (fun hge => ?_)
    · have hlt : n < l.length := by simpa using hlt
      obtain ⟨x, hx⟩ : ∃ x, l[n]? = some x := ⟨_, List.getElem?_eq_getElem hlt⟩
      have hd : l.drop n = x :: l.drop (n + 1) := by rw [List.drop_eq_getElem_cons hlt]; rw [List.getElem?_eq_getElem hlt] at hx; cases hx; rfl
      have ht : l.take (n + 1) = l.take n ++ [x] := by rw [List.take_add_one, hx]; rfl
      obtain ⟨xi, rfl⟩ := hl x (List.mem_of_getElem? hx)
      rw [hd] at hB
      refine t_callB (pollI hB) fun v g1 hg => ?_
      obtain ⟨rfl, hB1, hK1⟩ := hg
      refine ⟨(xi, true, ()), rfl, ?_⟩
      refine t_new ?_
      have hs1 : g.size ≤ g1.size := hK1.1
      have hs0 : h'.size ≤ g.size := hK.1
      have hka : Keep [c] h' (g1.push (.cells #[.int .i64 xi] 3 (0, 0))) := (hK.trans hK1).trans (Keep.push _ _ _)
      have ho1 : Own 1 3 (g1.push (.cells #[.int .i64 xi] 3 (0, 0))) p n cc (l.take n) := (ho.keep hK1 (fun i hi hm => by have := hnew i hi; simp at hm; omega)).keep (Keep.push [] _ _) (fun i hi hm => by cases hm)
      refine t_sem (append_wp appI ho1 oneCell (m := 1) rfl (by simp [Eng.Value.plain]) (by omega) ?_)
      intro p' c' g2 ho2 hK2 hb2
      refine ⟨(p', n + 1, c'), rfl, ?_⟩
      have hnew2 : ∀ i, i ∈ blk p' → h'.size ≤ i := fun i hi => (hb2 i hi).elim (hnew i) (fun h => by simp at h; omega)
      have hK3 : Keep [c] h' g2 := hka.new hK2 fun i hi => .inr (hnew i hi)
      have hB2 : BoxAt g2 b c cap (l.drop (n + 1) ++ l.take n) := (hB1.keep (Keep.push [] _ _) (by simp) (by simp)).keep hK2 (fun hi => by have := hnew _ hi; omega) (fun hi => by have := hnew _ hi; omega)
      have hlen : (l.drop (n + 1) ++ l.take n).length < cap := by simp; omega
      refine t_callB (offerI xi hB2) fun v g3 hg => ?_
      obtain ⟨rfl, hB3, hK4⟩ := hg
      refine ⟨true, by simp only [hlen, decide_true]; rfl, ?_⟩
      rw [if_pos hlen, List.append_assoc, ← ht] at hB3
      refine t_next ((n : Int) + 1, (p', n + 1, c'), ()) (by rw [w64 (by omega) (by omega)]; rfl) ⟨n + 1, hlt, by simp, rfl, ?_, hB3, hK3.trans hK4, hnew2⟩ (by simp; omega)
      dsimp only
      rw [ht]
      exact ho2.keep hK4 (fun i hi hm => by have := hnew2 i hi; simp at hm; omega)
    · have hge : n = l.length := by simp at hge; omega
      refine t_exit ((n : Int), (p, n, cc), ()) rfl ?_
      subst hge
      exact ⟨rfl, by simpa using ho, by simpa using hB, hK, hnew⟩
  · rintro ⟨z, ⟨p, n, cc⟩, u⟩ g ⟨e1, ho, hB, hK, hnew⟩
    dsimp only at e1 ho hnew ⊢
    subst e1
    exact t_ret (finOf_back ⟨p, cc, rfl, ho, hB, hK, hnew⟩)
end int
section str
theorem info9 : ∃ i, Try.prog.info? 9 = some i ∧ i.size = 1 ∧ (∃ z, i.zero = some z ∧ z.cells.size = 1) ∧ 0 < i.bytes ∧ i.bytes ≤ 4096 :=
  ⟨Try.t9, by kernel_rfl, rfl, ⟨_, rfl, rfl⟩, by decide, by decide⟩

theorem newS (room : Int) (h : Heap) : CallsH Try.prog 9 [.int .i64 room] h (Back fun v h' => ∃ b c, v = .pointer (some ⟨b, 0, none⟩) ∧ BoxAt h' b c (roomOf room) [] ∧ Keep [] h h' ∧ h.size ≤ b ∧ h.size ≤ c) := by
  refine calls_of mixed Try.func9 ?_
  rw [mailbox_New_string_den]
  unfold mailbox_New_string_T
  obtain ⟨h1, h2, h3, _⟩ := roomOf_spec room
  rw [← h3]
  obtain ⟨i, hi, _, _, _, hb⟩ := info9
  refine t_sem (makeChan_wp Try.underlying53 hi hb (by omega) (by omega) ⟨some h.size, rfl, ?_⟩)
  refine t_new (t_ret (finOf_back ⟨h.size + 1, h.size, by simp, ⟨55, 0, 0, ?_, ?_⟩, ?_, by omega, by omega⟩))
  · rw [Array.getElem?_push, if_pos (by simp)]
  · rw [Array.getElem?_push, if_neg (by simp), Array.getElem?_push, if_pos rfl]; rfl
  · exact (Keep.push _ _ _).trans (Keep.push _ _ _)

theorem offerS (x : ByteArray) {h : Heap} {b c cap : Nat} {l : List Value} (B : BoxAt h b c cap l) : CallsH Try.prog 10 [.pointer (some ⟨b, 0, none⟩), .string x] h
    (Back fun v h' => v = .bool (decide (l.length < cap)) ∧ BoxAt h' b c cap (if l.length < cap then l ++ [.string x] else l) ∧ Keep [c] h h') := by
  refine calls_of mixed Try.func10 ?_
  rw [mailbox_Box_string_Offer_den]
  unfold mailbox_Box_string_Offer_T
  refine t_deref _ rfl (t_load (some c) B.cell (t_derefN c rfl ?_))
  have B' := B
  obtain ⟨ty, s, r, h1, h2⟩ := B'
  refine ⟨cap, l.toArray, s, r, h2, ?_⟩
  by_cases hl : l.length < cap
  · simp only [List.size_toArray, if_pos hl]
    refine t_true rfl (t_ret (finOf_back ⟨by simp [hl], ?_, Keep.set _ _ _⟩))
    have e : l.toArray.push (.string x) = (l ++ [Value.string x]).toArray := by simp
    rw [e]; exact B.put _ _ _
  · simp only [List.size_toArray, if_neg hl]
    exact t_false rfl (t_ret (finOf_back ⟨by simp; omega, B, Keep.refl _ _⟩))

theorem pollS {h : Heap} {b c cap : Nat} {l : List Value} (B : BoxAt h b c cap l) : CallsH Try.prog 13 [.pointer (some ⟨b, 0, none⟩)] h
    (Back fun v h' => match l with
      | [] => v = .tuple #[.string { data := #[] }, .bool false] ∧ h' = h
      | x :: r => v = .tuple #[x, .bool true] ∧ BoxAt h' b c cap r ∧ Keep [c] h h') := by
  refine calls_of mixed Try.func13 ?_
  rw [mailbox_Box_string_Poll_den]
  unfold mailbox_Box_string_Poll_T
  refine t_deref _ rfl (t_load (some c) B.cell (t_derefN c rfl ?_))
  have B' := B
  obtain ⟨ty, s, r, h1, h2⟩ := B'
  refine ⟨cap, l.toArray, s, r, h2, ?_⟩
  cases l with
  | nil => exact t_false rfl (t_ret (finOf_back ⟨rfl, rfl⟩))
  | cons x r' =>
    have e : (x :: r').toArray.extract 1 (x :: r').toArray.size = r'.toArray := by simp
    simp only [List.size_toArray, List.length_cons, Nat.zero_lt_succ, if_true]
    refine t_true rfl (t_ret (finOf_back ⟨rfl, ?_, Keep.set _ _ _⟩))
    have := B.put r' s (r + 1)
    rw [← e] at this; exact this

theorem lenS {h : Heap} {b c cap : Nat} {l : List Value} (B : BoxAt h b c cap l) : CallsH Try.prog 12 [.pointer (some ⟨b, 0, none⟩)] h (Back fun v h' => v = .int .i64 l.length ∧ h' = h) := by
  refine calls_of mixed Try.func12 ?_
  rw [mailbox_Box_string_Len_den]
  unfold mailbox_Box_string_Len_T
  refine t_deref _ rfl (t_load (some c) B.cell ?_)
  obtain ⟨ty, s, r, h1, h2⟩ := B
  exact t_sem (lenChan_wp Try.underlying53 h2 ⟨_, rfl, finOf_back ⟨by simp, rfl⟩⟩)

theorem appS : AppT Try.prog 22 22 9 1 := ⟨Try.underlying22, .inl Try.underlying22, info9, by decide⟩

theorem allS {h : Heap} {b c cap : Nat} {l : List Value} (B : BoxAt h b c cap l) (hl : ∀ v ∈ l, ∃ x, v = .string x) (hcap : l.length ≤ cap) (hn : l.length ≤ 1000000) : CallsH Try.prog 11 [.pointer (some ⟨b, 0, none⟩)] h
    (Back fun v h' => ∃ p cc, v = .slice p l.length cc ∧ Own 1 9 h' p l.length cc l ∧ BoxAt h' b c cap l ∧ Keep [c] h h' ∧ ∀ i, i ∈ blk p → h.size ≤ i) := by
  refine calls_of mixed Try.func11 ?_
  rw [mailbox_Box_string_All_den]
  unfold mailbox_Box_string_All_T
  refine t_callB (lenS B) fun v h' ⟨hv, hh⟩ => ⟨l.length, hv, ?_⟩
  subst hh
  have hBl := B.lt
  refine t_for (fun y g => ∃ k, k ≤ l.length ∧ y.1 = (k : Nat) ∧ y.2.1.2.1 = k ∧ Own 1 9 g y.2.1.1 k y.2.1.2.2 (l.take k) ∧ BoxAt g b c cap (l.drop k ++ l.take k) ∧ Keep [c] h' g ∧ ∀ i, i ∈ blk y.2.1.1 → h'.size ≤ i)
    (fun y _ => l.length - y.1.toNat)
    (fun y g => y.2.1.2.1 = l.length ∧ Own 1 9 g y.2.1.1 l.length y.2.1.2.2 l ∧ BoxAt g b c cap l ∧ Keep [c] h' g ∧ ∀ i, i ∈ blk y.2.1.1 → h'.size ≤ i)
    (0, (none, 0, 0), ()) rfl ⟨0, by omega, rfl, rfl, by simpa using Own.nil 1 9 h', by simpa using B, Keep.refl _ _, fun i hi => by cases hi⟩ ?_ ?_
  · rintro ⟨z, ⟨p, n, cc⟩, u⟩ g ⟨k, hk, e1, e2, ho, hB, hK, hnew⟩
    dsimp only at e1 e2 ho hnew ⊢
    subst e1 e2
    refine t_cond (fun hlt => ?_) (fun hge => ?_)
    · have hlt : n < l.length := by simpa using hlt
      obtain ⟨x, hx⟩ : ∃ x, l[n]? = some x := ⟨_, List.getElem?_eq_getElem hlt⟩
      have hd : l.drop n = x :: l.drop (n + 1) := by rw [List.drop_eq_getElem_cons hlt]; rw [List.getElem?_eq_getElem hlt] at hx; cases hx; rfl
      have ht : l.take (n + 1) = l.take n ++ [x] := by rw [List.take_add_one, hx]; rfl
      obtain ⟨xi, rfl⟩ := hl x (List.mem_of_getElem? hx)
      rw [hd] at hB
      refine t_callB (pollS hB) fun v g1 hg => ?_
      obtain ⟨rfl, hB1, hK1⟩ := hg
      refine ⟨(xi, true, ()), rfl, ?_⟩
      refine t_new ?_
      have hs1 : g.size ≤ g1.size := hK1.1
      have hs0 : h'.size ≤ g.size := hK.1
      have hka : Keep [c] h' (g1.push (.cells #[.string xi] 9 (0, 0))) := (hK.trans hK1).trans (Keep.push _ _ _)
      have ho1 : Own 1 9 (g1.push (.cells #[.string xi] 9 (0, 0))) p n cc (l.take n) := (ho.keep hK1 (fun i hi hm => by have := hnew i hi; simp at hm; omega)).keep (Keep.push [] _ _) (fun i hi hm => by cases hm)
      refine t_sem (append_wp appS ho1 oneCell (m := 1) rfl (by simp [Eng.Value.plain]) (by omega) ?_)
      intro p' c' g2 ho2 hK2 hb2
      refine ⟨(p', n + 1, c'), rfl, ?_⟩
      have hnew2 : ∀ i, i ∈ blk p' → h'.size ≤ i := fun i hi => (hb2 i hi).elim (hnew i) (fun h => by simp at h; omega)
      have hK3 : Keep [c] h' g2 := hka.new hK2 fun i hi => .inr (hnew i hi)
      have hB2 : BoxAt g2 b c cap (l.drop (n + 1) ++ l.take n) := (hB1.keep (Keep.push [] _ _) (by simp) (by simp)).keep hK2 (fun hi => by have := hnew _ hi; omega) (fun hi => by have := hnew _ hi; omega)
      have hlen : (l.drop (n + 1) ++ l.take n).length < cap := by simp; omega
      refine t_callB (offerS xi hB2) fun v g3 hg => ?_
      obtain ⟨rfl, hB3, hK4⟩ := hg
      refine ⟨true, by simp only [hlen, decide_true]; rfl, ?_⟩
      rw [if_pos hlen, List.append_assoc, ← ht] at hB3
      refine t_next ((n : Int) + 1, (p', n + 1, c'), ()) (by rw [w64 (by omega) (by omega)]; rfl) ⟨n + 1, hlt, by simp, rfl, ?_, hB3, hK3.trans hK4, hnew2⟩ (by simp; omega)
      dsimp only
      rw [ht]
      exact ho2.keep hK4 (fun i hi hm => by have := hnew2 i hi; simp at hm; omega)
    · have hge : n = l.length := by simp at hge; omega
      refine t_exit ((n : Int), (p, n, cc), ()) rfl ?_
      subst hge
      exact ⟨rfl, by simpa using ho, by simpa using hB, hK, hnew⟩
  · rintro ⟨z, ⟨p, n, cc⟩, u⟩ g ⟨e1, ho, hB, hK, hnew⟩
    dsimp only at e1 ho hnew ⊢
    subst e1
    exact t_ret (finOf_back ⟨p, cc, rfl, ho, hB, hK, hnew⟩)
end str
end Go.Proofs.Ytaghpjmgnjkejaa
