/-
  TABLE, PLAIN 3: where rows lie.
  Conditions: few rows of few numbers of 64 bits.
-/
import Derived.Test.YtklamaeccniblaaDoorP2
namespace Go.Proofs.YtklamaeccniblaaDoor
open Go Go.Eng
set_option linter.unusedVariables false

def getO (l : List Int) (k : Nat) : Int := l.getD k 0
def freeB (row : List Int) (a : Nat) (o : List Int) : Bool := (List.range row.length).all fun c => getO row c == 0 || getO o (a + c) == 0
theorem freeB_iff {row : List Int} {a : Nat} {o : List Int} : freeB row a o = true ↔ ∀ c, c < row.length → getO row c ≠ 0 → getO o (a + c) = 0 := by
  unfold freeB
  rw [List.all_eq_true]
  constructor
  · intro h c hc hx
    have := h c (List.mem_range.2 hc)
    simp only [Bool.or_eq_true, beq_iff_eq] at this
    exact this.resolve_left hx
  · intro h c hc
    simp only [Bool.or_eq_true, beq_iff_eq]
    by_cases hx : getO row c = 0
    · exact .inl hx
    · exact .inr (h c (List.mem_range.1 hc) hx)
theorem freeB_false {row : List Int} {a : Nat} {o : List Int} (h : freeB row a o = false) : ∃ c, c < row.length ∧ getO row c ≠ 0 ∧ getO o (a + c) ≠ 0 := by
  by_cases hx : ∃ c, c < row.length ∧ getO row c ≠ 0 ∧ getO o (a + c) ≠ 0
  · exact hx
  · have : freeB row a o = true := freeB_iff.2 fun c hc h1 => by
      by_cases h2 : getO o (a + c) = 0
      · exact h2
      · exact absurd ⟨c, hc, h1, h2⟩ hx
    rw [this] at h; cases h
theorem getO_get {l : List Int} {k : Nat} (h : k < l.length) : getO l k = l[k] := by unfold getO; rw [List.getD_eq_getElem?_getD, List.getElem?_eq_getElem h]; rfl
theorem getO_ge {l : List Int} {k : Nat} (h : l.length ≤ k) : getO l k = 0 := by unfold getO; rw [List.getD_eq_getElem?_getD, List.getElem?_eq_none h]; rfl
def leastGo (p : Nat → Bool) : Nat → Nat → Nat
  | 0, a => a
  | n + 1, a => if p a then a else leastGo p n (a + 1)
theorem leastGo_ok {p : Nat → Bool} : ∀ {n a : Nat}, p (a + n) = true → p (leastGo p n a) = true ∧ a ≤ leastGo p n a ∧ leastGo p n a ≤ a + n ∧ ∀ b, a ≤ b → b < leastGo p n a → p b = false := by
  intro n
  induction n with
  | zero => intro a h; exact ⟨h, Nat.le_refl _, Nat.le_refl _, fun b h1 h2 => by simp only [leastGo] at h2; omega⟩
  | succ n ih =>
    intro a h
    simp only [leastGo]
    split
    · rename_i hp; exact ⟨hp, Nat.le_refl _, by omega, fun b h1 h2 => by omega⟩
    · rename_i hp
      obtain ⟨h1, h2, h3, h4⟩ := ih (a := a + 1) (by rw [show a + 1 + n = a + (n + 1) by omega]; exact h)
      refine ⟨h1, by omega, by omega, fun b hb hb' => ?_⟩
      by_cases e : b = a
      · subst e; simpa using hp
      · exact h4 b (by omega) hb'
def fitL (row o : List Int) : Nat := leastGo (fun a => freeB row a o) o.length 0
theorem fitL_ok (row o : List Int) : freeB row (fitL row o) o = true ∧ fitL row o ≤ o.length ∧ ∀ b, b < fitL row o → freeB row b o = false := by
  obtain ⟨h1, _, h3, h4⟩ := leastGo_ok (p := fun a => freeB row a o) (n := o.length) (a := 0) (freeB_iff.2 fun c hc _ => getO_ge (by omega))
  exact ⟨h1, by unfold fitL; omega, fun b hb => h4 b (Nat.zero_le _) hb⟩

abbrev Pk := List Int × List Int × List Int × List Int
theorem owner_D (p : Pk) {k : Nat} : table_Packed_owner_D p (k : Int) = some (getO p.2.2.2 k) := by
  unfold table_Packed_owner_D
  by_cases h : k < p.2.2.2.length
  · rw [decide_eq_false (by omega), cond_false, bind_some' (idx_lt h), getO_get h]
  · rw [decide_eq_true (by omega), cond_true, getO_ge (by omega)]
theorem fit_D (p : Pk) {row : List Int} (hr : row.length ≤ 1000) (ho : p.2.2.2.length ≤ 1000000) : table_Packed_fit_D p row = some ((fitL row p.2.2.2 : Nat) : Int) := by
  obtain ⟨f1, f2, f3⟩ := fitL_ok row p.2.2.2
  unfold table_Packed_fit_D
  refine bind_some' (x := ((fitL row p.2.2.2 : Nat) : Int)) ?_ _
  refine some_of (P := fun z => z = ((fitL row p.2.2.2 : Nat) : Int)) (loop_inv (fun z : Int => ∃ k : Nat, z = k ∧ k ≤ fitL row p.2.2.2) (fun z : Int => fitL row p.2.2.2 - z.toNat) _ (fun z ⟨k, e, hk⟩ => ?_) ⟨0, rfl, Nat.zero_le _⟩) (fun y h => h)
  subst e
  have inner : ∃ b : Bool, (forN (σ := Unit) (β := Unit) (0 : Int) (((List.length row) : Nat) : Int) () fun i_z4 z4 =>
      (idx row i_z4).bind fun e33 => (cond (e33 != (0 : Int)) ((table_Packed_owner_D p (IntKind.wrap .i64 ((k : Int) + i_z4))).bind fun t8 => some (t8 != (0 : Int))) (some false)).bind fun z7 =>
      cond z7 (some (Step.done ())) (some (Step.next ()))) = some (if b then .next () else .done ()) ∧ b = freeB row k p.2.2.2 := by
    rcases forN_inv (σ := Unit) (β := Unit) (n := row.length) (f := fun i_z4 z4 =>
      (idx row i_z4).bind fun e33 => (cond (e33 != (0 : Int)) ((table_Packed_owner_D p (IntKind.wrap .i64 ((k : Int) + i_z4))).bind fun t8 => some (t8 != (0 : Int))) (some false)).bind fun z7 =>
      cond z7 (some (Step.done ())) (some (Step.next ())))
      (fun j _ => ∀ c, c < j → getO row c ≠ 0 → getO p.2.2.2 (k + c) = 0) (fun _ => freeB row k p.2.2.2 = false) (by omega) (s := ()) (fun c hc => by omega) (fun j s hj hI => by
        have hw : IntKind.wrap .i64 ((k : Int) + (j : Int)) = ((k + j : Nat) : Int) := by rw [w64 (by omega) (by omega)]; omega
        rw [bind_some' (idx_lt hj), hw, owner_D]
        by_cases hx : row[j] = 0
        · left
          refine ⟨(), by simp only [hx]; rfl, fun c hc hne => ?_⟩
          by_cases e : c = j
          · subst e; rw [getO_get hj] at hne; exact absurd hx hne
          · exact hI c (by omega) hne
        · have hb : (row[j] != 0) = true := bne_iff_ne.2 hx
          rw [hb, cond_true, Option.bind_some, Option.bind_some]
          by_cases ho : getO p.2.2.2 (k + j) = 0
          · left
            refine ⟨(), by rw [ho]; rfl, fun c hc hne => ?_⟩
            by_cases e : c = j
            · subst e; exact ho
            · exact hI c (by omega) hne
          · right
            refine ⟨(), by rw [bne_iff_ne.2 ho]; rfl, ?_⟩
            cases hf : freeB row k p.2.2.2 with
            | false => rfl
            | true => exact absurd (freeB_iff.1 hf j hj (by rw [getO_get hj]; exact hx)) ho) with ⟨s, h1, h2⟩ | ⟨b, h1, h2⟩
    · exact ⟨true, h1, (freeB_iff.2 h2).symm⟩
    · exact ⟨false, h1, h2.symm⟩
  obtain ⟨b, hb, hf⟩ := inner
  by_cases he : k = fitL row p.2.2.2
  · right
    have : b = true := by rw [hf, he]; exact f1
    subst this
    exact ⟨k, by rw [hb]; rfl, by rw [he]⟩
  · left
    have : b = false := by rw [hf]; exact f3 k (by omega)
    subst this
    refine ⟨((k + 1 : Nat) : Int), by rw [hb]; simp only [Option.bind_some, Bool.false_eq_true, if_false]; rw [w64 (by omega) (by omega)]; rfl, ⟨k + 1, rfl, by omega⟩, by omega⟩

/-! ## laying -/
def setPad (l : List Int) (k : Nat) (x : Int) : List Int := (l ++ List.replicate (k + 1 - l.length) 0).set k x
theorem getO_setPad (l : List Int) (k : Nat) (x : Int) (j : Nat) : getO (setPad l k x) j = if j = k then x else getO l j := by
  unfold getO setPad
  rw [List.getD_eq_getElem?_getD, List.getElem?_set]
  split
  · rename_i h
    subst h
    rw [if_pos (by simp; omega), if_pos rfl]
    rfl
  · rename_i h
    rw [if_neg (fun e => h e.symm), List.getD_eq_getElem?_getD]
    rcases Nat.lt_or_ge j l.length with g | g
    · rw [List.getElem?_append_left g]
    · rw [List.getElem?_append_right g, List.getElem?_eq_none g, List.getElem?_replicate]
      split <;> rfl
theorem setPad_len (l : List Int) (k : Nat) (x : Int) : (setPad l k x).length = max l.length (k + 1) := by
  unfold setPad
  rw [List.length_set, List.length_append, List.length_replicate]
  omega
def lay1 (row : List Int) (a : Nat) (id : Int) (s : List Int × List Int) (c : Nat) : List Int × List Int :=
  if getO row c = 0 then s else (setPad s.1 (a + c) (getO row c), setPad s.2 (a + c) id)
def layG (row : List Int) (a : Nat) (id : Int) (s : List Int × List Int) : List Int × List Int := (List.range row.length).foldl (lay1 row a id) s
def layK (row : List Int) (a : Nat) (id : Int) (s : List Int × List Int) (k : Nat) : List Int × List Int := (List.range k).foldl (lay1 row a id) s
theorem layK_succ (row : List Int) (a : Nat) (id : Int) (s : List Int × List Int) (k : Nat) : layK row a id s (k + 1) = lay1 row a id (layK row a id s k) k := by
  unfold layK
  rw [List.range_succ, List.foldl_append]
  rfl
theorem lay1_len {row : List Int} {a : Nat} {id : Int} {s : List Int × List Int} {c : Nat} (h : s.1.length = s.2.length) : (lay1 row a id s c).1.length = (lay1 row a id s c).2.length ∧ (lay1 row a id s c).1.length ≤ max s.1.length (a + c + 1) ∧ s.1.length ≤ (lay1 row a id s c).1.length := by
  unfold lay1
  split
  · exact ⟨h, by omega, Nat.le_refl _⟩
  · simp only [setPad_len]; omega
theorem layK_len {row : List Int} {a : Nat} {id : Int} {s : List Int × List Int} (h : s.1.length = s.2.length) : ∀ k, (layK row a id s k).1.length = (layK row a id s k).2.length ∧ (layK row a id s k).1.length ≤ max s.1.length (a + k) ∧ s.1.length ≤ (layK row a id s k).1.length := by
  intro k
  induction k with
  | zero => exact ⟨h, by show s.1.length ≤ _; omega, Nat.le_refl _⟩
  | succ k ih =>
    rw [layK_succ]
    have := lay1_len (row := row) (a := a) (id := id) (c := k) ih.1
    omega
/-- Both lists get noughts until the place is there. -/
theorem pad_loop {f : Pk → Option (Step Pk Pk)} {q : Nat} (hf : ∀ z : Pk, f z = cond (decide ((((List.length z.2.2.1) : Nat) : Int) ≤ (q : Int))) ((app z.2.2.1 ([(0 : Int)] : List Int)).bind fun t15 => (app z.2.2.2 ([(0 : Int)] : List Int)).bind fun t17 => some (Step.next (z.1, z.2.1, t15, t17))) (some (Step.done z))) (hq : q ≤ 1000000) :
    ∀ {ids base n o : List Int}, n.length = o.length → loop (σ := Pk) (β := Pk) (ids, base, n, o) f = some (ids, base, n ++ List.replicate (q + 1 - n.length) 0, o ++ List.replicate (q + 1 - n.length) 0) := by
  intro ids base n o
  generalize hm : q + 1 - n.length = m
  induction m generalizing n o with
  | zero =>
    intro hl
    rw [loop_eq, hf, decide_eq_false (by dsimp only; omega)]
    simp
  | succ m ih =>
    intro hl
    rw [loop_eq, hf, decide_eq_true (by dsimp only; omega)]
    simp only [cond_true]
    rw [app_ok (by simp; omega), Option.bind_some, app_ok (by simp; omega), Option.bind_some]
    show loop (ids, base, n ++ [0], o ++ [0]) f = _
    rw [ih (by simp; omega) (by simp; omega)]
    simp [List.replicate_succ, List.append_assoc]
theorem lay_D {ids base n o row : List Int} {a id : Nat} (hl : n.length = o.length) (hr : row.length ≤ 1000) (ha : a ≤ 100000) (hn : n.length ≤ 100000) (hid : id ≤ 100000) :
    table_Packed_lay_D (ids, base, n, o) row (a : Int) (id : Int) = some (ids, base, (layG row a ((id : Int) + 1) (n, o)).1, (layG row a ((id : Int) + 1) (n, o)).2) := by
  unfold table_Packed_lay_D
  obtain ⟨z, h1, h2⟩ := forS_inv (σ := Pk) (n := row.length) (f := fun i_z2 z2 =>
    ((idx row i_z2).bind fun e29 =>
    cond (e29 == (0 : Int))
    (some z2)
    ((loop (σ := (List Int × List Int × List Int × List Int)) (β := (List Int × List Int × List Int × List Int)) z2 fun z7 =>
        cond (decide ((((List.length z7.2.2.1) : Nat) : Int) ≤ (IntKind.wrap .i64 ((a : Int) + i_z2))))
        ((app z7.2.2.1 ([(0 : Int)] : List Int)).bind fun t15 =>
          (app z7.2.2.2 ([(0 : Int)] : List Int)).bind fun t17 =>
          some (Step.next (z7.1, z7.2.1, t15, t17)))
        (some (Step.done (z7.1, z7.2.1, z7.2.2.1, z7.2.2.2)))).bind fun z6 =>
      (setI z6.2.2.1 (IntKind.wrap .i64 ((a : Int) + i_z2)) e29).bind fun m252 =>
      (setI z6.2.2.2 (IntKind.wrap .i64 ((a : Int) + i_z2)) (IntKind.wrap .i64 ((id : Int) + (1 : Int)))).bind fun m267 =>
      some (z6.1, z6.2.1, m252, m267))).bind fun z3 =>
    some z3)
    (fun k z => z = (ids, base, (layK row a ((id : Int) + 1) (n, o) k).1, (layK row a ((id : Int) + 1) (n, o) k).2)) (by omega) (s := (ids, base, n, o)) rfl fun k z hk e => by
      subst e
      obtain ⟨g1, g2, g3⟩ := layK_len (row := row) (a := a) (id := (id : Int) + 1) (s := (n, o)) hl k
      rw [layK_succ]
      generalize layK row a ((id : Int) + 1) (n, o) k = s at g1 g2 g3
      obtain ⟨n', o'⟩ := s
      dsimp only at g1 g2 g3 ⊢
      have hw : IntKind.wrap .i64 ((a : Int) + (k : Int)) = ((a + k : Nat) : Int) := by rw [w64 (by omega) (by omega)]; omega
      have hw2 : IntKind.wrap .i64 ((id : Int) + 1) = (id : Int) + 1 := w64 (by omega) (by omega)
      rw [bind_some' (idx_lt hk), hw, hw2]
      unfold lay1
      rw [getO_get hk]
      by_cases hx : row[k] = 0
      · rw [if_pos hx, hx]
        exact ⟨_, rfl, rfl⟩
      · have hb : (row[k] == 0) = false := beq_eq_false_iff_ne.2 hx
        rw [if_neg hx, hb, cond_false]
        have hp := pad_loop (q := a + k) (ids := ids) (base := base) (f := fun z7 => cond (decide ((((List.length z7.2.2.1) : Nat) : Int) ≤ ((a + k : Nat) : Int)))
          ((app z7.2.2.1 ([(0 : Int)] : List Int)).bind fun t15 => (app z7.2.2.2 ([(0 : Int)] : List Int)).bind fun t17 => some (Step.next (z7.1, z7.2.1, t15, t17)))
          (some (Step.done (z7.1, z7.2.1, z7.2.2.1, z7.2.2.2)))) (fun z => rfl) (by omega) g1
        rw [hp, Option.bind_some, setI_ok (by omega) (by simp; omega), Option.bind_some, setI_ok (by omega) (by simp; omega), Option.bind_some]
        refine ⟨_, rfl, ?_⟩
        unfold setPad
        simp only [Int.toNat_natCast, ← g1]
  rw [h1, Option.bind_some, h2]
  rfl

/-! ## packing -/
def packStep (s : List Int × List Int × List Int) (row : List Int) : List Int × List Int × List Int :=
  (s.1 ++ [((fitL row s.2.2 : Nat) : Int)], layG row (fitL row s.2.2) ((s.1.length : Int) + 1) s.2)
def packT (out : List (List Int)) : List Int × List Int × List Int := out.foldl packStep ([], [], [])
theorem packT_snoc (out : List (List Int)) (row : List Int) : packT (out ++ [row]) = packStep (packT out) row := by unfold packT; rw [List.foldl_append]; rfl
def baseOf (ids pl : List Int) : List Int := ids.map fun k => getO pl k.toNat
def packL (rows : List (List Int)) : Pk :=
  let s := shareT (rows.map trimL)
  let q := packT s.2
  (s.1, baseOf s.1 q.1, q.2.1, q.2.2)
theorem packT_len {out : List (List Int)} (h : ∀ r ∈ out, r.length ≤ 100) : (packT out).1.length = out.length ∧ (packT out).2.1.length = (packT out).2.2.length ∧ (packT out).2.1.length ≤ 100 * out.length := by
  revert h
  refine snoc_ind (P := fun out : List (List Int) => (∀ r ∈ out, r.length ≤ 100) → (packT out).1.length = out.length ∧ (packT out).2.1.length = (packT out).2.2.length ∧ (packT out).2.1.length ≤ 100 * out.length) (fun _ => ⟨rfl, rfl, Nat.le_refl _⟩) (fun out row ih h => ?_) out
  obtain ⟨h1, h2, h3⟩ := ih fun r hr => h r (List.mem_append_left _ hr)
  have hrow := h row (by simp)
  rw [packT_snoc]
  unfold packStep
  have hf := (fitL_ok row (packT out).2.2).2.1
  have := layK_len (row := row) (a := fitL row (packT out).2.2) (id := ((packT out).1.length : Int) + 1) (s := (packT out).2) h2 row.length
  unfold layG
  unfold layK at this
  simp only [List.length_append, List.length_cons, List.length_nil]
  omega
theorem Pack_D {rows : List (List Int)} (h : Small2 rows) : table_Pack_D rows = some (packL rows) := by
  unfold table_Pack_D
  rw [Share_D h, Option.bind_some]
  have ok := shareT_ok (rows.map trimL)
  have ht := h.trim
  have hout : ∀ r ∈ (shareT (rows.map trimL)).2, r.length ≤ 100 := fun r hr => ht.each r (ok.sub r hr)
  have hfew : (shareT (rows.map trimL)).2.length ≤ 26 := by have := ok.few; have := ht.len; omega
  have hids : (shareT (rows.map trimL)).1.length ≤ 26 := by have := ok.len; have := ht.len; omega
  have hin : ∀ (k : Nat) (hk : k < (shareT (rows.map trimL)).1.length), ∃ q : Nat, (shareT (rows.map trimL)).1[k] = (q : Int) ∧ q < (shareT (rows.map trimL)).2.length := fun k hk => by
    have hk' : k < (rows.map trimL).length := by have := ok.len; omega
    obtain ⟨q, e1, e2⟩ := ok.ids k _ (List.getElem?_eq_getElem hk')
    rw [List.getElem?_eq_getElem hk] at e1
    refine ⟨q, Option.some.inj e1, ?_⟩
    rcases Nat.lt_or_ge q (shareT (rows.map trimL)).2.length with g | g
    · exact g
    · rw [List.getElem?_eq_none g] at e2; cases e2
  unfold packL
  generalize shareT (rows.map trimL) = sh at hout hfew hids hin
  obtain ⟨ids, out⟩ := sh
  dsimp only at hout hfew hids hin ⊢
  obtain ⟨z, h1, h2⟩ := forS_inv (σ := (List Int × (List Int × List Int × List Int × List Int))) (n := out.length) (f := fun i_z5 z5 =>
    (idx out i_z5).bind fun e69 =>
    (table_Packed_fit_D z5.2 e69).bind fun t8 =>
    (table_Packed_lay_D z5.2 e69 t8 i_z5).bind fun t9 =>
    (app z5.1 ([t8] : List Int)).bind fun t11 =>
    some (t11, t9))
    (fun k z => z = ((packT (out.take k)).1, ids, [], (packT (out.take k)).2.1, (packT (out.take k)).2.2)) (by omega) (s := ([], ids, [], [], [])) rfl fun k z hk e => by
      subst e
      obtain ⟨g1, g2, g3⟩ := packT_len (out := out.take k) fun r hr => hout r (List.mem_of_mem_take hr)
      have hlt : (out.take k).length = k := by rw [List.length_take]; omega
      have hrow := hout _ (List.getElem_mem hk)
      rw [take_snoc hk, packT_snoc]
      generalize packT (out.take k) = q at g1 g2 g3
      obtain ⟨pl, n, o⟩ := q
      dsimp only at g1 g2 g3 ⊢
      have hf := (fitL_ok out[k] o).2.1
      rw [bind_some' (idx_lt hk), fit_D _ (by omega) (by dsimp only; omega), Option.bind_some, lay_D g2 (by omega) (by dsimp only; omega) (by omega) (by omega), Option.bind_some, app_ok (by simp; omega), Option.bind_some]
      refine ⟨_, rfl, ?_⟩
      unfold packStep
      dsimp only
      rw [show pl.length = k by omega]
  rw [h1, Option.bind_some]
  subst h2
  rw [List.take_length]
  obtain ⟨g1, g2, g3⟩ := packT_len hout
  generalize packT out = q at g1 g2 g3
  obtain ⟨pl, n, o⟩ := q
  dsimp only at g1 g2 g3 ⊢
  obtain ⟨z, h1, h2⟩ := forS_inv (σ := (List Int × List Int × List Int × List Int)) (n := ids.length) (f := fun i_z13 z13 =>
    (idx ids i_z13).bind fun e149 =>
    (idx pl e149).bind fun e194 =>
    (app z13.2.1 ([e194] : List Int)).bind fun t20 =>
    some (z13.1, t20, z13.2.2.1, z13.2.2.2))
    (fun k z => z = (ids, baseOf (ids.take k) pl, n, o)) (by omega) (s := (ids, [], n, o)) rfl fun k z hk e => by
      subst e
      obtain ⟨q, e1, e2⟩ := hin k hk
      have hl : (baseOf (ids.take k) pl).length ≤ 26 := by unfold baseOf; simp; omega
      have hqp : q < pl.length := by omega
      rw [bind_some' (idx_lt hk), e1, bind_some' (idx_lt hqp), app_ok (by simp; omega), Option.bind_some]
      refine ⟨_, rfl, ?_⟩
      rw [take_snoc hk]
      unfold baseOf
      rw [List.map_append, e1]
      simp only [List.map_cons, List.map_nil, Int.toNat_natCast, getO_get hqp]
  rw [h1, Option.bind_some, h2, List.take_length]
end Go.Proofs.YtklamaeccniblaaDoor
