/-
  EXPR, PLAIN PART 15: ExprOrder's law.
  Conditions: none.
-/
import Derived.Test.YtkhfdckieocciaaDoorE14
namespace Go.Proofs.YtkhfdckieocciaaDoor
open Go Go.Eng
set_option linter.unusedVariables false
set_option linter.unusedSectionVars false
set_option maxRecDepth 100000

def leafN (n : Nat) : Ex := Ex.mk 1 n []
structure Fold where
  sum : Ex
  adds : Nat
  prod : Ex
def Fold.out (s : Fold) (p : Ex) : Ex := bif s.adds == 0 then p else Ex.mk (s.adds : Nat) 0 [s.sum, p]
def Fold.step (s : Fold) (x : Nat × Nat) : Fold := bif Nat.ble 2 x.1 then ⟨s.sum, s.adds, Ex.mk ((5 + x.1 : Nat) : Int) 0 [s.prod, leafN x.2]⟩ else ⟨s.out s.prod, 5 + x.1, leafN x.2⟩
def text : List (Nat × Nat) → List Nat
  | [] => []
  | x :: l => sg (5 + x.1) :: (dec x.2 ++ text l)
theorem text_app (l m : List (Nat × Nat)) : text (l ++ m) = text l ++ text m := by
  induction l with
  | nil => rfl
  | cons x l ih => simp only [List.cons_append, text, ih, List.append_assoc]
theorem factor_num {u n d : Nat} (hu : u < 10 ^ 18) {w : List Nat} (hw : NoDg w) (hd : d < 20) : factor (n + 1) d (dec u ++ w) = .ok (leafN u) w := by
  have hdg := dec_dg u
  have hnum := num_dec hu hw
  cases hc : dec u with
  | nil => exact absurd hc (dec_ne u)
  | cons c r =>
    rw [hc] at hdg hnum
    simp only [List.all_cons, Bool.and_eq_true] at hdg
    obtain ⟨h1, c45, c40, c36, c64, h2⟩ := dg_not hdg.1
    rw [List.cons_append] at hnum ⊢
    have hnd : Nat.ble 20 d = false := by
      cases hh : Nat.ble 20 d with
      | false => rfl
      | true => have := Nat.le_of_ble_eq_true hh; omega
    rw [factor, skip_no h1]
    dsimp only
    rw [h2, hnd, c45, c40, c36, c64]
    simp only [Bool.and_false, cond_false]
    rw [hnum]
    rfl
theorem text_nodg (l : List (Nat × Nat)) (hl : ∀ x ∈ l, x.1 < 5) : NoDg (text l) := by
  cases l with
  | nil => intro c r e; cases e
  | cons x l =>
    intro c r e
    cases e
    have := hl x (by simp)
    exact (sg_facts (5 + x.1) (by omega) (by omega)).2.2
theorem more_at {part : List Nat → Rd Ex} {a b n k : Nat} {x : Ex} {l : List Nat} (h5 : 5 ≤ k) (h9 : k ≤ 9) : more part a b (n + 1) x (sg k :: l) = bif inR a b k then (match part l with
    | .ok y l' => more part a b n (Ex.mk (k : Nat) 0 [x, y]) l'
    | .bad e l' => .bad e l') else .ok x (sg k :: l) := by
  obtain ⟨g1, g2, _⟩ := sg_facts k h5 h9
  rw [more, skip_no g1]
  dsimp only
  rw [g2]
  rfl
theorem parse_ok : ∀ (ts : List (Nat × Nat)) (s : Fold) (n : Nat), (∀ x ∈ ts, x.1 < 5 ∧ x.2 < 10 ^ 18) → (text ts).length + 1 ≤ n →
    ∃ p l, more (factor 300 0) 7 9 n s.prod (text ts) = .ok p l ∧ l.length ≤ (text ts).length ∧ ∀ m, l.length + 1 ≤ m → more (product (factor 300 0)) 5 6 m (s.out p) l = .ok ((ts.foldl Fold.step s).out (ts.foldl Fold.step s).prod) [] := by
  intro ts
  induction ts with
  | nil =>
    intro s n _ hn
    exact ⟨s.prod, [], more_stop (by omega) (.inl rfl), Nat.le_refl _, fun m hm => more_stop (by omega) (.inl rfl)⟩
  | cons x ts ih =>
    intro s n hts hn
    obtain ⟨g, w⟩ := x
    obtain ⟨hg, hw⟩ := hts (g, w) (by simp)
    have hg : g < 5 := hg
    have hw : w < 10 ^ 18 := hw
    have hts' : ∀ x ∈ ts, x.1 < 5 ∧ x.2 < 10 ^ 18 := fun x hx => hts x (by simp [hx])
    have ht : text ((g, w) :: ts) = sg (5 + g) :: (dec w ++ text ts) := rfl
    rw [ht] at hn ⊢
    rw [List.length_cons, List.length_append] at hn
    obtain ⟨n, rfl⟩ : ∃ k, n = k + 1 := ⟨n - 1, by omega⟩
    have hF : factor 300 0 (dec w ++ text ts) = .ok (leafN w) (text ts) := factor_num hw (text_nodg ts fun x hx => (hts' x hx).1) (by decide)
    rw [more_at (by omega) (by omega)]
    rw [List.foldl_cons]
    have hcase : (2 ≤ g ∧ Nat.ble 2 g = true ∧ inR 7 9 (5 + g) = true) ∨ (g < 2 ∧ Nat.ble 2 g = false ∧ inR 7 9 (5 + g) = false ∧ inR 5 6 (5 + g) = true) := by
      have : g = 0 ∨ g = 1 ∨ g = 2 ∨ g = 3 ∨ g = 4 := by omega
      rcases this with rfl | rfl | rfl | rfl | rfl <;> decide
    rcases hcase with ⟨_, hb, hin⟩ | ⟨_, hb, hout, hin⟩
    · rw [hin, cond_true, hF]
      dsimp only
      have hst : Fold.step s (g, w) = ⟨s.sum, s.adds, Ex.mk ((5 + g : Nat) : Int) 0 [s.prod, leafN w]⟩ := by unfold Fold.step; rw [hb]; rfl
      obtain ⟨p, l, q1, q2, q3⟩ := ih (Fold.step s (g, w)) n hts' (by omega)
      rw [hst] at q1 q3 ⊢
      refine ⟨p, l, q1, by rw [List.length_cons, List.length_append]; omega, q3⟩
    · rw [hout, cond_false]
      refine ⟨s.prod, _, rfl, Nat.le_refl _, fun m hm => ?_⟩
      rw [List.length_cons, List.length_append] at hm
      obtain ⟨m, rfl⟩ : ∃ k, m = k + 1 := ⟨m - 1, by omega⟩
      rw [more_at (by omega) (by omega), hin, cond_true]
      have hst : Fold.step s (g, w) = ⟨s.out s.prod, 5 + g, leafN w⟩ := by unfold Fold.step; rw [hb]; rfl
      obtain ⟨p, l, q1, q2, q3⟩ := ih (Fold.step s (g, w)) ((text ts).length + 1) hts' (Nat.le_refl _)
      have hP : product (factor 300 0) (dec w ++ text ts) = .ok p l := by
        unfold product chain
        rw [hF]
        dsimp only
        rw [hst] at q1
        exact q1
      rw [hP]
      dsimp only
      have h3 := q3 m (by omega)
      rw [← h3, hst]
      have : Fold.out ⟨s.out s.prod, 5 + g, leafN w⟩ p = Ex.mk ((5 + g : Nat) : Int) 0 [s.out s.prod, p] := by
        unfold Fold.out
        have h0 : (5 + g == 0) = false := by
          simp
        dsimp only
        rw [h0]
        rfl
      rw [this]
def fold0 (v : Nat) : Fold := ⟨Ex.mk 0 0 [], 0, leafN v⟩
theorem read_order {v : Nat} (hv : v < 10 ^ 18) (ts : List (Nat × Nat)) (hts : ∀ x ∈ ts, x.1 < 5 ∧ x.2 < 10 ^ 18) :
    read (dec v ++ text ts) = .ok ((ts.foldl Fold.step (fold0 v)).out (ts.foldl Fold.step (fold0 v)).prod) [] := by
  have hF : factor 300 0 (dec v ++ text ts) = .ok (leafN v) (text ts) := factor_num hv (text_nodg ts fun x hx => (hts x hx).1) (by decide)
  obtain ⟨p, l, q1, q2, q3⟩ := parse_ok ts (fold0 v) ((text ts).length + 1) hts (Nat.le_refl _)
  have hP : product (factor 300 0) (dec v ++ text ts) = .ok p l := by
    unfold product chain
    rw [hF]
    exact q1
  have hS : sum (factor 300 0) (dec v ++ text ts) = .ok ((ts.foldl Fold.step (fold0 v)).out (ts.foldl Fold.step (fold0 v)).prod) [] := by
    unfold sum
    rw [chain, hP]
    exact q3 _ (Nat.le_refl _)
  obtain ⟨c, r, hc, h1, _⟩ := (Tx.num 0 v hv).head
  rw [hc, List.cons_append] at hS ⊢
  unfold read
  rw [skip_no h1]
  dsimp only
  rw [hS]
  rfl

/-! ## the law's own way to put it together -/
theorem sign_text2 : ∀ g : Nat, g < 5 → (0 ≤ (g : Int) ∧ (g : Int) ≤ (IntKind.wrap .u8 ((g : Int) + (1 : Int))) ∧ (IntKind.wrap .u8 ((g : Int) + (1 : Int))) ≤ ((ByteArray.size { data := #[43, 45, 42, 47, 37] } : Nat) : Int)) ∧
    bs (ByteArray.extract { data := #[43, 45, 42, 47, 37] } (Int.toNat (g : Int)) (Int.toNat (IntKind.wrap .u8 ((g : Int) + (1 : Int))))) = [sg (5 + g)] ∧
    ByteArray.size (ByteArray.extract { data := #[43, 45, 42, 47, 37] } (Int.toNat (g : Int)) (Int.toNat (IntKind.wrap .u8 ((g : Int) + (1 : Int))))) = 1 := by
  intro g hg
  have : g = 0 ∨ g = 1 ∨ g = 2 ∨ g = 3 ∨ g = 4 := by omega
  rcases this with rfl | rfl | rfl | rfl | rfl <;> decide +kernel
theorem join_ok (s : Fold) : tronagelaw20_join_D s.sum (s.adds : Nat) s.prod = some ((s.out s.prod).kind, (s.out s.prod).n, (s.out s.prod).kids) := by
  unfold tronagelaw20_join_D Fold.out
  have e : (((s.adds : Nat) : Int) == 0) = (s.adds == 0) := eqN s.adds 0
  rw [e, Ex.eta, Ex.eta]
  cases s.adds == 0 <;> rfl
theorem tmod5 {e : Int} (h : 0 ≤ e) : Int.tmod e 5 = ((e.toNat % 5 : Nat) : Int) := by
  rw [Int.tmod_eq_emod_of_nonneg h]
  omega
/-- The pairs of a sign and the number behind it, so many. -/
def pairs (v g : Nat → Nat) : Nat → List (Nat × Nat)
  | 0 => []
  | k + 1 => pairs v g k ++ [(g k, v (k + 1))]
theorem pairs_ok {v g : Nat → Nat} (hv : ∀ k, v k ≤ 255) (hg : ∀ k, g k < 5) : ∀ k, ∀ x ∈ pairs v g k, x.1 < 5 ∧ x.2 < 10 ^ 18 := by
  intro k
  induction k with
  | zero => intro x hx; cases hx
  | succ k ih =>
    intro x hx
    rcases List.mem_append.1 hx with h | h
    · exact ih x h
    · have : x = (g k, v (k + 1)) := by simpa using h
      subst this
      have := hv (k + 1)
      exact ⟨hg k, by rw [pow18]; show v (k + 1) < _; omega⟩
theorem text_len {v g : Nat → Nat} (hv : ∀ k, v k ≤ 255) : ∀ k, (text (pairs v g k)).length ≤ 4 * k := by
  intro k
  induction k with
  | zero => exact Nat.le_refl _
  | succ k ih =>
    show (text (pairs v g k ++ [(g k, v (k + 1))])).length ≤ _
    rw [text_app]
    have := dec_len (u := v (k + 1)) (k := 2) (by have := hv (k + 1); omega)
    simp only [text, List.length_append, List.length_cons, List.length_nil]
    omega
def foldK (v g : Nat → Nat) (k : Nat) : Fold := (pairs v g k).foldl Fold.step (fold0 (v 0))
theorem foldK_succ (v g : Nat → Nat) (k : Nat) : foldK v g (k + 1) = Fold.step (foldK v g k) (g k, v (k + 1)) := by
  unfold foldK
  show (pairs v g k ++ [(g k, v (k + 1))]).foldl _ _ = _
  rw [List.foldl_append]
  rfl
abbrev OSt := Int × ByteArray × (Int × Int × List Ex) × (Int × Int × List Ex)
def ostate (s : Fold) (t : ByteArray) : OSt := ((s.adds : Nat), t, (s.sum.kind, s.sum.n, s.sum.kids), (s.prod.kind, s.prod.n, s.prod.kids))
/-- Behind so many rounds. -/
def Round (v g : Nat → Nat) (len : Nat) : Nat → OSt → Prop
  | 0, z => z = ((0 : Int), { data := #[] }, ((0 : Int), (0 : Int), ([] : List Ex)), ((0 : Int), (0 : Int), ([] : List Ex)))
  | k + 1, z => ∃ t, z = ostate (foldK v g k) t ∧ bs t = dec (v 0) ++ text (pairs v g k) ++ (if k + 1 < len then [sg (5 + g k)] else [])
theorem order_law (l signs : List Int) (hl : ∀ x ∈ l, 0 ≤ x ∧ x ≤ 255) (hs : ∀ x ∈ signs, 0 ≤ x ∧ x ≤ 255) : tronagelaw20_ExprOrder_D 300 l signs = some true := by
  unfold tronagelaw20_ExprOrder_D
  rw [awake_ok]
  simp only [Option.bind_some]
  cases h1 : decide (((List.length l : Nat) : Int) < 1) with
  | true => rfl
  | false =>
    cases h2 : decide (((List.length l : Nat) : Int) > 12) with
    | true => rfl
    | false =>
      cases h3 : decide (((List.length signs : Nat) : Int) < ((List.length l : Nat) : Int)) with
      | true => rfl
      | false =>
        have h1 := of_decide_eq_false h1
        have h2 := of_decide_eq_false h2
        have h3 := of_decide_eq_false h3
        simp only [cond_false, Option.bind_some]
        obtain ⟨v, hvd⟩ : ∃ v : Nat → Nat, v = fun k => (l.getD k 0).toNat := ⟨_, rfl⟩
        obtain ⟨g, hgd⟩ : ∃ g : Nat → Nat, g = fun k => (signs.getD k 0).toNat % 5 := ⟨_, rfl⟩
        have hvk : ∀ k (hk : k < l.length), l[k] = ((v k : Nat) : Int) := fun k hk => by
          have := hl _ (List.getElem_mem hk)
          have e : l.getD k 0 = l[k] := by simp [List.getD, hk]
          rw [hvd]
          show l[k] = (((l.getD k 0).toNat : Nat) : Int)
          rw [e]
          omega
        have hgk : ∀ k (hk : k < signs.length), Int.tmod signs[k] 5 = ((g k : Nat) : Int) := fun k hk => by
          have := hs _ (List.getElem_mem hk)
          have e : signs.getD k 0 = signs[k] := by simp [List.getD, hk]
          rw [hgd, tmod5 this.1]
          show _ = (((signs.getD k 0).toNat % 5 : Nat) : Int)
          rw [e]
        have hv : ∀ k, v k ≤ 255 := fun k => by
          rw [hvd]
          by_cases hk : k < l.length
          · have := hl _ (List.getElem_mem hk)
            have e : l.getD k 0 = l[k] := by simp [List.getD, hk]
            show (l.getD k 0).toNat ≤ 255
            rw [e]
            omega
          · have e : l.getD k 0 = 0 := by simp [List.getD, Nat.le_of_not_lt hk]
            show (l.getD k 0).toNat ≤ 255
            rw [e]
            decide
        have hg : ∀ k, g k < 5 := fun k => by rw [hgd]; exact Nat.mod_lt _ (by decide)
        clear hvd hgd
        have hv18 : ∀ k, v k < 10 ^ 18 := fun k => by have := hv k; rw [pow18]; omega
        have hd3 : ∀ k, (dec (v k)).length ≤ 3 := fun k => dec_len (k := 2) (by have := hv k; omega)
        obtain ⟨z, e1, e2⟩ := forS_inv (σ := OSt) (n := l.length) (Round v g l.length) (by omega) (s := ((0 : Int), { data := #[] }, ((0 : Int), (0 : Int), ([] : List Ex)), ((0 : Int), (0 : Int), ([] : List Ex)))) (f := fun i_z6 z6 =>
          (idx l i_z6).bind fun e74 =>
          (tronageref20_Show_D 300 (Ex.mk (1 : Int) (IntKind.wrap .i64 e74) ([] : List Ex))).bind fun t13 =>
          need (((ByteArray.size z6.2.1 + ByteArray.size t13 : Nat) : Int) ≤ IntKind.max .i64) <|
          (cond (i_z6 == (0 : Int))
          (some true)
          ((idx signs (IntKind.wrap .i64 (i_z6 - (1 : Int)))).bind fun e103 =>
            need ((5 : Int) ≠ 0) <|
            some (decide ((Int.tmod e103 (5 : Int)) < (2 : Int))))).bind fun z14 =>
          (cond z14
          ((cond (decide (i_z6 > (0 : Int)))
            ((tronagelaw20_join_D (Ex.mk (z6.2.2.1.1) (z6.2.2.1.2.1) z6.2.2.1.2.2) z6.1 (Ex.mk (z6.2.2.2.1) (z6.2.2.2.2.1) z6.2.2.2.2.2)).bind fun t25 =>
              (idx signs (IntKind.wrap .i64 (i_z6 - (1 : Int)))).bind fun e197 =>
              need ((5 : Int) ≠ 0) <|
              some ((IntKind.wrap .i64 ((5 : Int) + (IntKind.wrap .i64 (Int.tmod e197 (5 : Int))))), (t25.1, t25.2.1, t25.2.2)))
            (some (z6.1, z6.2.2.1))).bind fun z18 =>
            some (z18.1, z18.2, ((1 : Int), (IntKind.wrap .i64 e74), ([] : List Ex))))
          ((idx signs (IntKind.wrap .i64 (i_z6 - (1 : Int)))).bind fun e272 =>
            need ((5 : Int) ≠ 0) <|
            some (z6.1, z6.2.2.1, ((IntKind.wrap .i64 ((5 : Int) + (IntKind.wrap .i64 (Int.tmod e272 (5 : Int))))), (0 : Int), ([(Ex.mk (z6.2.2.2.1) (z6.2.2.2.2.1) z6.2.2.2.2.2), (Ex.mk (1 : Int) (IntKind.wrap .i64 e74) ([] : List Ex))] : List Ex))))).bind fun z17 =>
          (cond (decide ((IntKind.wrap .i64 (i_z6 + (1 : Int))) < (((List.length l) : Nat) : Int)))
          ((idx signs i_z6).bind fun e340 =>
            need ((5 : Int) ≠ 0) <|
            (idx signs i_z6).bind fun e350 =>
            need ((5 : Int) ≠ 0) <|
            need (0 ≤ (Int.tmod e340 (5 : Int)) ∧ (Int.tmod e340 (5 : Int)) ≤ (IntKind.wrap .u8 ((Int.tmod e350 (5 : Int)) + (1 : Int))) ∧ (IntKind.wrap .u8 ((Int.tmod e350 (5 : Int)) + (1 : Int))) ≤ (ByteArray.size { data := #[43, 45, 42, 47, 37] } : Nat)) <|
            need (((ByteArray.size (z6.2.1 ++ t13) + ByteArray.size (ByteArray.extract { data := #[43, 45, 42, 47, 37] } (Int.toNat (Int.tmod e340 (5 : Int))) (Int.toNat (IntKind.wrap .u8 ((Int.tmod e350 (5 : Int)) + (1 : Int))))) : Nat) : Int) ≤ IntKind.max .i64) <|
            some ((z6.2.1 ++ t13) ++ (ByteArray.extract { data := #[43, 45, 42, 47, 37] } (Int.toNat (Int.tmod e340 (5 : Int))) (Int.toNat (IntKind.wrap .u8 ((Int.tmod e350 (5 : Int)) + (1 : Int)))))))
          (some (z6.2.1 ++ t13))).bind fun z40 =>
          some (z17.1, z40, z17.2.1, z17.2.2)) rfl (fun k z hk hI => by
            have hks : k < signs.length := by omega
            obtain ⟨B, _, b2, b3⟩ := show_ok (Tx.num 0 (v k) (hv18 k)) (by decide) 300 (by decide)
            have hBs : B.size = (dec (v k)).length := by rw [← b3, bs_length]
            have hd := hd3 k
            obtain ⟨t1, t2, t3⟩ := sign_text2 (g k) (hg k)
            -- the text's end: a sign, if there is more
            have hend : ∀ t : ByteArray, t.size ≤ 100 → ∃ t', (cond (decide ((IntKind.wrap .i64 (((k : Nat) : Int) + (1 : Int))) < (((List.length l) : Nat) : Int)))
              ((idx signs ((k : Nat) : Int)).bind fun e340 =>
                need ((5 : Int) ≠ 0) <|
                (idx signs ((k : Nat) : Int)).bind fun e350 =>
                need ((5 : Int) ≠ 0) <|
                need (0 ≤ (Int.tmod e340 (5 : Int)) ∧ (Int.tmod e340 (5 : Int)) ≤ (IntKind.wrap .u8 ((Int.tmod e350 (5 : Int)) + (1 : Int))) ∧ (IntKind.wrap .u8 ((Int.tmod e350 (5 : Int)) + (1 : Int))) ≤ (ByteArray.size { data := #[43, 45, 42, 47, 37] } : Nat)) <|
                need (((ByteArray.size (t ++ B) + ByteArray.size (ByteArray.extract { data := #[43, 45, 42, 47, 37] } (Int.toNat (Int.tmod e340 (5 : Int))) (Int.toNat (IntKind.wrap .u8 ((Int.tmod e350 (5 : Int)) + (1 : Int))))) : Nat) : Int) ≤ IntKind.max .i64) <|
                some ((t ++ B) ++ (ByteArray.extract { data := #[43, 45, 42, 47, 37] } (Int.toNat (Int.tmod e340 (5 : Int))) (Int.toNat (IntKind.wrap .u8 ((Int.tmod e350 (5 : Int)) + (1 : Int)))))))
              (some (t ++ B))) = some t' ∧ bs t' = bs t ++ dec (v k) ++ (if k + 1 < l.length then [sg (5 + g k)] else []) := fun t ht => by
              rw [w64 (by omega) (by omega)]
              by_cases hlt : k + 1 < l.length
              · rw [decide_eq_true (by omega), cond_true, idx_lt hks]
                simp only [Option.bind_some]
                rw [hgk k hks, need_ok' (by decide), need_ok' (by decide), need_ok' t1, need_ok' (by rw [hmax, ByteArray.size_append, t3]; omega)]
                refine ⟨_, rfl, ?_⟩
                rw [bs_app, bs_app, b3, t2, if_pos hlt]
              · rw [decide_eq_false (by omega), cond_false]
                refine ⟨_, rfl, ?_⟩
                rw [bs_app, b3, if_neg hlt, List.append_nil]
            cases k with
            | zero =>
              have hz : z = ((0 : Int), { data := #[] }, ((0 : Int), (0 : Int), ([] : List Ex)), ((0 : Int), (0 : Int), ([] : List Ex))) := hI
              subst hz
              obtain ⟨t', g1, g2⟩ := hend { data := #[] } (by decide)
              refine ⟨ostate (foldK v g 0) t', ?_, t', rfl, ?_⟩
              · rw [idx_lt hk]
                simp only [Option.bind_some]
                rw [hvk 0 hk, w64 (n := ((v 0 : Nat) : Int)) (by omega) (by have := hv 0; omega), b2]
                simp only [Option.bind_some]
                have e0 : ByteArray.size { data := #[] } = 0 := rfl
                rw [need_ok' (by rw [hmax, e0]; omega), g1]
                rfl
              · rw [g2]
                show [] ++ dec (v 0) ++ _ = dec (v 0) ++ [] ++ _
                rw [List.nil_append, List.append_nil]
            | succ k =>
              obtain ⟨t, rfl, ht⟩ := hI
              rw [if_pos hk] at ht
              have hts : t.size ≤ 100 := by
                rw [← bs_length, ht]
                have := text_len (g := g) hv k
                have := hd3 0
                simp only [List.length_append, List.length_cons, List.length_nil]
                omega
              obtain ⟨t', g1, g2⟩ := hend t hts
              have hks' : k < signs.length := by omega
              refine ⟨ostate (foldK v g (k + 1)) t', ?_, t', rfl, ?_⟩
              · rw [idx_lt hk]
                simp only [Option.bind_some]
                rw [hvk (k + 1) hk, w64 (n := ((v (k + 1) : Nat) : Int)) (by omega) (by have := hv (k + 1); omega), b2]
                dsimp +instances only [ostate]
                simp only [Option.bind_some]
                rw [need_ok' (by rw [hmax]; omega)]
                have ek : (((k + 1 : Nat) : Int) == 0) = false := by
                  have : ((k + 1 : Nat) : Int) ≠ 0 := by omega
                  simpa using this
                rw [ek, w64 (n := ((k + 1 : Nat) : Int) - 1) (by omega) (by omega)]
                have ek1 : ((k + 1 : Nat) : Int) - 1 = (k : Int) := by omega
                rw [ek1, idx_lt hks', decide_eq_true (show (((k + 1 : Nat) : Int) > 0) by omega)]
                simp only [Option.bind_some, cond_false, cond_true]
                rw [hgk k hks', need_ok' (by decide), g1]
                simp only [Option.bind_some, Ex.eta]
                rw [foldK_succ]
                have gk := hg k
                rw [w64 (n := ((g k : Nat) : Int)) (by omega) (by omega), w64 (n := (5 : Int) + ((g k : Nat) : Int)) (by omega) (by omega)]
                have e5 : (5 : Int) + ((g k : Nat) : Int) = ((5 + g k : Nat) : Int) := by omega
                rw [e5]
                unfold Fold.step
                by_cases h2g : 2 ≤ g k
                · rw [decide_eq_false (show ¬ (((g k : Nat) : Int) < 2) by omega), Nat.ble_eq_true_of_le h2g, need_ok' (by decide)]
                  rfl
                · have hb : Nat.ble 2 (g k) = false := by
                    cases hh : Nat.ble 2 (g k) with
                    | false => rfl
                    | true => exact absurd (Nat.le_of_ble_eq_true hh) h2g
                  rw [decide_eq_true (show (((g k : Nat) : Int) < 2) by omega), hb, join_ok, need_ok' (by decide)]
                  rfl
              · rw [g2, ht]
                show _ = dec (v 0) ++ text (pairs v g k ++ [(g k, v (k + 1))]) ++ _
                rw [text_app]
                simp [text])
        rw [e1]
        obtain ⟨k, hk⟩ : ∃ k, l.length = k + 1 := ⟨l.length - 1, by omega⟩
        rw [hk] at e2
        obtain ⟨t, rfl, ht⟩ := e2
        rw [if_neg (by omega), List.append_nil] at ht
        have hts : t.size ≤ 100 := by
          rw [← bs_length, ht]
          have := text_len (g := g) hv k
          have := hd3 0
          simp only [List.length_append]
          omega
        have hr := read_order (hv18 0) (pairs v g k) (pairs_ok hv hg k)
        rw [← ht] at hr
        simp only [Option.bind_some, ostate, Ex.eta, read_ok]
        rw [join_ok]
        have hdle := readA_dle t
        have hA : readA t = outR t (read (bs t)) := by unfold readA; rw [decide_eq_false (by omega)]; rfl
        rw [hA, hr] at hdle ⊢
        have hf : (pairs v g k).foldl Fold.step (fold0 (v 0)) = foldK v g k := rfl
        rw [hf] at hdle ⊢
        have hdle : dle 300 ((foldK v g k).out (foldK v g k).prod) := by
          have h : dle 300 (Ex.mk ((foldK v g k).out (foldK v g k).prod).kind ((foldK v g k).out (foldK v g k).prod).n ((foldK v g k).out (foldK v g k).prod).kids) := hdle
          rwa [Ex.eta] at h
        unfold outR
        simp only [Option.bind_some, Ex.eta]
        rw [same_self 300 _ hdle]
        rfl
end Go.Proofs.YtkhfdckieocciaaDoor
