/-
  THE ENGINE, PART F: a region whose order is open: quiet operations are taken as soon as they can be; what they read is asked again behind each loud one that they may come after.
  Conditions: none; it speaks of any program.
-/
import Derived.Test.YtkhfdckieocciaaDoorEngE
namespace Go.Eng
open Go

section
variable {P : Program} {ops : Array Oper}

/-! ## what is forced before what -/
def maskOf (m : List Nat) (o : Oper) : Nat := o.after.toList.foldl (fun s e => bif Region.binds .any e then s ||| 2 ^ e.on ||| m.getD e.on 0 else s) 0
def befs (l : List Oper) : List Nat := l.foldl (fun m o => m ++ [maskOf m o]) []
/-- 'i' is always before 'j'. -/
def forced (ms : List Nat) (j i : Nat) : Bool := (ms.getD j 0).testBit i

theorem maskOf_spec (m : List Nat) (o : Oper) (i : Nat) (h : (maskOf m o).testBit i = true) :
    ∃ e ∈ o.after, Region.binds .any e = true ∧ (e.on = i ∨ (m.getD e.on 0).testBit i = true) := by
  unfold maskOf at h
  have key : ∀ (l : List Edge) (s : Nat), (l.foldl (fun s e => bif Region.binds .any e then s ||| 2 ^ e.on ||| m.getD e.on 0 else s) s).testBit i = true →
      s.testBit i = true ∨ ∃ e ∈ l, Region.binds .any e = true ∧ (e.on = i ∨ (m.getD e.on 0).testBit i = true) := by
    intro l
    induction l with
    | nil => intro s h; exact .inl h
    | cons x r ih =>
      intro s h
      rcases ih _ h with h1 | ⟨e, he, h1⟩
      · dsimp only at h1
        cases hx : Region.binds .any x with
        | false => rw [hx] at h1; exact .inl h1
        | true =>
          rw [hx] at h1
          simp only [cond_true, Nat.testBit_or, Bool.or_eq_true, Nat.testBit_two_pow, decide_eq_true_eq] at h1
          rcases h1 with (h1 | h1) | h1
          · exact .inl h1
          · exact .inr ⟨x, by simp, hx, .inl h1⟩
          · exact .inr ⟨x, by simp, hx, .inr h1⟩
      · exact .inr ⟨e, by simp [he], h1⟩
  rcases key o.after.toList 0 h with h1 | ⟨e, he, h1⟩
  · simp at h1
  · exact ⟨e, Array.mem_toList_iff.1 he, h1⟩

theorem snocInd {α : Type} {p : List α → Prop} (h0 : p []) (hs : ∀ l a, p l → p (l ++ [a])) (l : List α) : p l := by
  have key : ∀ r : List α, p r.reverse := by
    intro r
    induction r with
    | nil => exact h0
    | cons a r ih => rw [List.reverse_cons]; exact hs _ _ ih
  simpa using key l.reverse
theorem befs_snoc (l : List Oper) (o : Oper) : befs (l ++ [o]) = befs l ++ [maskOf (befs l) o] := by
  simp [befs]
theorem befs_length (l : List Oper) : (befs l).length = l.length := by
  refine snocInd (p := fun l => (befs l).length = l.length) rfl (fun l o ih => ?_) l
  rw [befs_snoc]; simp [ih]
theorem befs_spec (l : List Oper) : ∀ (j i : Nat), ((befs l).getD j 0).testBit i = true →
    ∃ o, l[j]? = some o ∧ ∃ e ∈ o.after, Region.binds .any e = true ∧ (e.on = i ∨ (e.on < j ∧ ((befs l).getD e.on 0).testBit i = true)) := by
  refine snocInd (p := fun l => ∀ (j i : Nat), ((befs l).getD j 0).testBit i = true →
    ∃ o, l[j]? = some o ∧ ∃ e ∈ o.after, Region.binds .any e = true ∧ (e.on = i ∨ (e.on < j ∧ ((befs l).getD e.on 0).testBit i = true))) (fun j i h => ?_) (fun l o ih => ?_) l
  · simp [befs] at h
  · intro j i h
    rw [befs_snoc] at h
    rcases Nat.lt_trichotomy j l.length with hj | hj | hj
    · have e1 : (befs l ++ [maskOf (befs l) o]).getD j 0 = (befs l).getD j 0 := by
        simp only [List.getD_eq_getElem?_getD]
        rw [List.getElem?_append_left (by rw [befs_length]; exact hj)]
      rw [e1] at h
      obtain ⟨o', ho', e, he, hb, hh⟩ := ih j i h
      refine ⟨o', by rw [List.getElem?_append_left hj]; exact ho', e, he, hb, hh.imp id fun ⟨h1, h2⟩ => ⟨h1, ?_⟩⟩
      rw [befs_snoc]
      simp only [List.getD_eq_getElem?_getD] at h2 ⊢
      rw [List.getElem?_append_left (by rw [befs_length]; omega)]
      exact h2
    · subst hj
      have e1 : (befs l ++ [maskOf (befs l) o]).getD l.length 0 = maskOf (befs l) o := by
        simp only [List.getD_eq_getElem?_getD]
        rw [List.getElem?_append_right (by rw [befs_length]; omega), befs_length]
        simp
      rw [e1] at h
      obtain ⟨e, he, hb, hh⟩ := maskOf_spec _ _ _ h
      refine ⟨o, by simp, e, he, hb, hh.imp id fun h2 => ?_⟩
      have hlt : e.on < l.length := by
        rcases Nat.lt_or_ge e.on l.length with h3 | h3
        · exact h3
        · rw [List.getD_eq_getElem?_getD, List.getElem?_eq_none (by rw [befs_length]; exact h3)] at h2
          simp at h2
      refine ⟨hlt, ?_⟩
      rw [befs_snoc]
      simp only [List.getD_eq_getElem?_getD] at h2 ⊢
      rw [List.getElem?_append_left (by rw [befs_length]; exact hlt)]
      exact h2
    · rw [List.getD_eq_getElem?_getD, List.getElem?_eq_none (by simp [befs_length]; omega)] at h
      simp at h

/-- With each operation that is listed all that is forced before it is. -/
def Closed (ops : Array Oper) (listed : Array Bool) : Prop := ∀ j o, ops[j]? = some o → listed.getD j false = true → ∀ e ∈ o.after, Region.binds .any e = true → listed.getD e.on false = true

theorem closed_forced {listed : Array Bool} (hc : Closed ops listed) : ∀ (j i : Nat), listed.getD j false = true → forced (befs ops.toList) j i = true → listed.getD i false = true := by
  intro j
  induction j using Nat.strongRecOn with
  | _ j ih =>
    intro i hj hf
    obtain ⟨o, ho, e, he, hb, hh⟩ := befs_spec ops.toList j i hf
    have ho' : ops[j]? = some o := by rw [← Array.getElem?_toList]; exact ho
    have h1 := hc j o ho' hj e he hb
    rcases hh with rfl | ⟨hlt, h2⟩
    · exact h1
    · exact ih e.on hlt i h1 h2
theorem ready_forced {listed : Array Bool} (hc : Closed ops listed) {j i : Nat} (hr : j ∈ Region.ready .any ops listed) (hf : forced (befs ops.toList) j i = true) : listed.getD i false = true := by
  obtain ⟨o, ho, e, he, hb, hh⟩ := befs_spec ops.toList j i hf
  have ho' : ops[j]? = some o := by rw [← Array.getElem?_toList]; exact ho
  obtain ⟨_, o2, ho2, hall⟩ := mem_ready.1 hr
  rw [ho'] at ho2
  cases ho2
  have h1 := hall e he hb
  rcases hh with rfl | ⟨_, h2⟩
  · exact h1
  · exact closed_forced hc e.on i h1 h2

theorem closed_set {listed : Array Bool} {j : Nat} (hc : Closed ops listed) (hr : j ∈ Region.ready .any ops listed) : Closed ops (listed.setIfInBounds j true) := by
  intro m o ho hm e he hb
  by_cases hjm : j = m
  · subst hjm
    obtain ⟨_, o2, ho2, hall⟩ := mem_ready.1 hr
    rw [ho] at ho2
    cases ho2
    exact getD_set_true (hall e he hb)
  · rw [getD_set_ne false hjm] at hm
    exact getD_set_true (hc m o ho hm e he hb)

/-! ## the game of all orders, on heaps -/
abbrev Pins := List (Nat × (Heap → Prop))
def GH (P : Program) (ops : Array Oper) (Qh : Act → Heap → Prop) (X : List PanicEntry → Heap → Prop) : Nat → Array Bool → Pins → Act → Heap → Prop
  | 0, listed, _, a, h => Region.ready .any ops listed = [] ∧ Qh a h
  | n + 1, listed, pend, a, h => (Region.ready .any ops listed = [] → Qh a h) ∧
    ∀ j ∈ Region.ready .any ops listed, StepH P ops j (fun a' h' => (∀ p ∈ pend, forced (befs ops.toList) j p.1 = false → p.2 h') ∧
      GH P ops Qh X n (listed.setIfInBounds j true) (pend.filter fun p => !forced (befs ops.toList) j p.1) a' h') X a h

variable {Qh : Act → Heap → Prop} {X : List PanicEntry → Heap → Prop}

theorem gh_wpAny {Q : Exit → Act → World → Prop} {w0 : World} {a0 : Act} {W : List Nat} (hW : ∀ o ∈ ops, ∀ d, o.dst = some d → d ∈ W) (hn : ∀ a w, Same w0 w → Qh a w.heap → Q .normal a w) (hp : ∀ c a w, Fr W a0 a → Same w0 w → X c w.heap → Q (.panic c) a w) :
    ∀ (n : Nat) (listed : Array Bool) (pend : Pins) (a : Act) (w : World), Fr W a0 a → Same w0 w → GH P ops Qh X n listed pend a w.heap → wpAny P .any ops Q n listed a w := by
  intro n
  induction n with
  | zero => intro listed pend a w hd hs H; exact ⟨H.1, hn a w hs H.2⟩
  | succ n ih =>
    intro listed pend a w hd hs H
    refine ⟨fun h0 => hn a w hs (H.1 h0), fun j hj => stepTo_wpOp (stepTo_mono (fun a' w' hx => ?_) (fun c w' hx => ?_) (stepTo_fr hW (H.2 j hj w rfl)))⟩
    · exact ih _ _ a' w' (hd.trans hx.1) (hs.trans hx.2.1) hx.2.2.2
    · exact hp c a w' hd (hs.trans hx.1) hx.2

theorem gh_mono : ∀ (n : Nat) (listed : Array Bool) (pend pend' : Pins) (a : Act) (h : Heap), (∀ p ∈ pend', p ∈ pend) → GH P ops Qh X n listed pend a h → GH P ops Qh X n listed pend' a h := by
  intro n
  induction n with
  | zero => intro listed pend pend' a h hs H; exact H
  | succ n ih =>
    intro listed pend pend' a h hs H
    refine ⟨H.1, fun j hj => stepH_mono (fun a' h' ⟨h1, h2⟩ => ⟨fun p hp hf => h1 p (hs p hp) hf, ih _ _ _ a' h' (fun p hp => ?_) h2⟩) (fun _ _ x => x) (H.2 j hj)⟩
    rw [List.mem_filter] at hp ⊢
    exact ⟨hs p hp.1, hp.2⟩

/-- A quiet operation's run: a value, and nothing done. -/
def QRun (P : Program) (s : Sem Next) (v : Value) (h : Heap) : Prop :=
  ∀ w, w.heap = h → ∃ w', (s.run P w = .ok (.value v) w' ∨ (s.run P w = .ok .skip w' ∧ v = undef)) ∧ Same w w' ∧ w'.heap = h

theorem step_put {j : Nat} {oi oj : Oper} {v : Value} {a : Act} {h : Heap} {K : Act → Heap → Prop} (hj : ops[j]? = some oj) (hap : oi.apart ops oj = true)
    (hsj : ∀ cs b, oj.op ≠ .select cs b) (H : StepH P ops j K X (a.put oi.dst v) h) :
    StepH P ops j (fun a' h' => (∃ u, a' = a.put oj.dst u) ∧ K (a'.put oi.dst v) h') X a h := by
  obtain ⟨h1, h2, h3⟩ := Oper.apart_spec hap
  intro w hw
  have H := H w hw
  unfold StepTo at *
  simp only [hj] at H ⊢
  rw [wanted_put oj a oi.dst v h1, execOp_put oj hsj a oi.dst v h1] at H
  have cm : ∀ u, (a.put oi.dst v).put oj.dst u = (a.put oj.dst u).put oi.dst v := fun u => Act.put_comm a v u h2
  rcases H with ⟨g1, g2⟩ | ⟨g1, g2⟩
  · exact .inl ⟨g1, g2.1, ⟨_, rfl⟩, by rw [← cm]; exact g2.2⟩
  · refine .inr ⟨g1, ?_⟩
    rcases g2 with ⟨u, w', h3, h4⟩ | ⟨w', h3, h4⟩ | ⟨f, args, w', h3, h4⟩ | ⟨u, w', h3, h4⟩
    · exact .inl ⟨u, w', h3, h4.1, ⟨_, rfl⟩, by rw [← cm]; exact h4.2⟩
    · exact .inr (.inl ⟨w', h3, h4.1, ⟨_, rfl⟩, by rw [← cm]; exact h4.2⟩)
    · refine .inr (.inr (.inl ⟨f, args, w', h3, h4.mono fun e w'' he => ?_⟩))
      cases e with
      | returned u => exact ⟨he.1, ⟨_, rfl⟩, by rw [← cm]; exact he.2⟩
      | panicked c => exact he
      | outgrown => exact he
    · exact .inr (.inr (.inr ⟨u, w', h3, h4⟩))

/-- A quiet operation that can be taken may be taken first. -/
theorem gh_first {i : Nat} {oi : Oper} {v : Value} {s : Sem Next} {b : Bool} {R : Heap → Prop} (hi : ops[i]? = some oi) (hsel : ∀ (j : Nat) (o : Oper) cs b, ops[j]? = some o → o.op ≠ .select cs b)
    (hR : ∀ h, R h → b = true → QRun P s v h) (hv : b = false → v = undef) :
    ∀ (n : Nat) (listed : Array Bool) (pend : Pins) (a : Act) (h : Heap), Closed ops listed →
      (∀ j oj, ops[j]? = some oj → j ≠ i → listed.getD j true = false → (∀ e ∈ oj.after, Region.binds .any e = true → e.on ≠ i) → oi.apart ops oj = true) →
      i ∈ Region.ready .any ops listed → execOp a.eval oi = s → Region.wanted oi (yielded ops a.tmps) = b → R h → (∀ p ∈ pend, p.2 h) →
      GH P ops Qh X n (listed.setIfInBounds i true) ((i, R) :: pend) (a.put oi.dst v) h → GH P ops Qh X (n + 1) listed pend a h := by
  intro n
  have own : ∀ (n : Nat) (listed : Array Bool) (pend : Pins) (a : Act) (h : Heap), execOp a.eval oi = s → Region.wanted oi (yielded ops a.tmps) = b → R h → (∀ p ∈ pend, p.2 h) →
      GH P ops Qh X n (listed.setIfInBounds i true) ((i, R) :: pend) (a.put oi.dst v) h →
      StepH P ops i (fun a' h' => (∀ p ∈ pend, forced (befs ops.toList) i p.1 = false → p.2 h') ∧
        GH P ops Qh X n (listed.setIfInBounds i true) (pend.filter fun p => !forced (befs ops.toList) i p.1) a' h') X a h := by
    intro n listed pend a h he hb hr hpend H w hw
    unfold StepTo
    simp only [hi]
    have H' := gh_mono n _ _ (pend.filter fun p => !forced (befs ops.toList) i p.1) _ h (fun p hp => List.mem_cons_of_mem _ (List.mem_filter.1 hp).1) H
    cases b with
    | false =>
      refine .inl ⟨hb, .refl w, ?_⟩
      rw [hw]
      have := hv rfl
      subst this
      exact ⟨fun p hp _ => hpend p hp, H'⟩
    | true =>
      refine .inr ⟨hb, ?_⟩
      obtain ⟨w', h1, h2, h3⟩ := hR h hr rfl w hw
      rw [he]
      rcases h1 with h1 | ⟨h1, rfl⟩
      · refine .inl ⟨v, w', h1, h2, ?_⟩
        rw [h3]
        exact ⟨fun p hp _ => hpend p hp, H'⟩
      · refine .inr (.inl ⟨w', h1, h2, ?_⟩)
        rw [h3]
        exact ⟨fun p hp _ => hpend p hp, H'⟩
  induction n with
  | zero =>
    intro listed pend a h hcl hfree hr he hb hRh hpend H
    refine ⟨fun h0 => (by rw [h0] at hr; cases hr), fun j hj => ?_⟩
    by_cases hji : j = i
    · subst hji; exact own 0 listed pend a h he hb hRh hpend H
    · have := ready_mono hj hji
      rw [H.1] at this
      cases this
  | succ n ih =>
    intro listed pend a h hcl hfree hr he hb hRh hpend H
    refine ⟨fun h0 => (by rw [h0] at hr; cases hr), fun j hj => ?_⟩
    by_cases hji : j = i
    · subst hji; exact own (n + 1) listed pend a h he hb hRh hpend H
    · have h1 := H.2 j (ready_mono hj hji)
      obtain ⟨hjun, oj, hoj, hall⟩ := mem_ready.1 hj
      have hiun : listed.getD i false = false := by
        have h0 := (mem_ready.1 hr).1
        rcases Nat.lt_or_ge i listed.size with h' | h'
        · simpa [h'] using h0
        · simp [Array.getElem?_eq_none h']
      have hnot : ∀ e ∈ oj.after, Region.binds .any e = true → e.on ≠ i := fun e he hb heq => by
        have h1 := hall e he hb
        rw [heq, hiun] at h1
        cases h1
      have hnf : forced (befs ops.toList) j i = false := by
        cases hf : forced (befs ops.toList) j i with
        | false => rfl
        | true => have := ready_forced hcl hj hf; rw [hiun] at this; cases this
      have hap := hfree j oj hoj hji hjun hnot
      obtain ⟨q1, q2, q3⟩ := Oper.apart_spec hap
      have h2 := step_put hoj hap (fun cs b => hsel j oj cs b hoj) h1
      have hfree' : ∀ k ok, ops[k]? = some ok → k ≠ i → (listed.setIfInBounds j true).getD k true = false →
          (∀ e ∈ ok.after, Region.binds .any e = true → e.on ≠ i) → oi.apart ops ok = true := fun k ok hk hki hun hno => by
        refine hfree k ok hk hki ?_ hno
        by_cases hjk : j = k
        · subst hjk; exact hjun
        · rw [getD_set_ne true hjk] at hun; exact hun
      refine stepH_mono (fun a' h' hx => ?_) (fun _ _ x => x) h2
      obtain ⟨⟨u, rfl⟩, h3, h4⟩ := hx
      refine ⟨fun p hp hf => h3 p (List.mem_cons_of_mem _ hp) hf, ?_⟩
      refine ih (listed.setIfInBounds j true) _ (a.put oj.dst u) h' (closed_set hcl hj) hfree' (ready_mono hr (Ne.symm hji)) ?_ ?_ (h3 (i, R) (List.mem_cons_self ..) hnf) ?_ ?_
      · rw [execOp_put oi (fun cs b => hsel i oi cs b hi) a oj.dst u q3]; exact he
      · rw [wanted_put oi a oj.dst u q3]; exact hb
      · intro p hp
        rw [List.mem_filter] at hp
        exact h3 p (List.mem_cons_of_mem _ hp.1) (by simpa using hp.2)
      · rw [Array.setIfInBounds_comm _ _ hji]
        rw [List.filter_cons_of_pos (by simp [hnf])] at h4
        exact h4
end
end Go.Eng
