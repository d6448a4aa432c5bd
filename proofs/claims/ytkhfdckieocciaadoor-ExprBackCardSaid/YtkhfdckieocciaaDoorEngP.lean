/-
  THE ENGINE, PART P: plain rules for loops that are functions.
  Conditions: none; no program in sight.
-/
import Derived.Test.YtkhfdckieocciaaDoorEngX
namespace Go.Eng
open Go

theorem idx_nat {α : Type} (l : List α) (k : Nat) : idx l (k : Int) = l[k]? := by
  unfold idx
  rw [if_pos (by omega), Int.toNat_natCast]
theorem idx_get {α : Type} {l : List α} {i : Int} (h0 : 0 ≤ i) (h1 : i.toNat < l.length) : idx l i = some l[i.toNat] := by
  unfold idx
  rw [if_pos h0, List.getElem?_eq_getElem h1]
theorem idx_lt {α : Type} {l : List α} {k : Nat} (h : k < l.length) : idx l (k : Int) = some l[k] := by
  rw [idx_nat, List.getElem?_eq_getElem h]
theorem app_ok {α : Type} {l m : List α} (h : l.length + m.length ≤ 1073741824) : app l m = some (l ++ m) := by unfold app; rw [if_pos h]
theorem cut_ok {α : Type} {l : List α} {a b : Int} (h0 : 0 ≤ a) (h1 : a ≤ b) (h2 : b ≤ (l.length : Int)) : cut l a b = some ((l.take b.toNat).drop a.toNat) := by unfold cut; rw [if_pos ⟨h0, h1, h2⟩]
theorem setI_ok {α : Type} {l : List α} {i : Int} {x : α} (h0 : 0 ≤ i) (h1 : i < (l.length : Int)) : setI l i x = some (l.set i.toNat x) := by unfold setI; rw [if_pos ⟨h0, h1⟩]
theorem need_ok {α : Type} {p : Prop} [Decidable p] (h : p) (k : Option α) : need p k = k := by unfold need; rw [if_pos h]
theorem bind_some' {α β : Type} {o : Option α} {x : α} (h : o = some x) (f : α → Option β) : o.bind f = f x := by rw [h]; rfl

theorem snoc_ind {α : Type} {P : List α → Prop} (h0 : P []) (hs : ∀ l x, P l → P (l ++ [x])) : ∀ l, P l := fun l => by
  have : ∀ r : List α, P r.reverse := fun r => by
    induction r with
    | nil => exact h0
    | cons x r ih => rw [List.reverse_cons]; exact hs _ _ ih
  have := this l.reverse
  rwa [List.reverse_reverse] at this
theorem forGoS_inv {σ : Type} {f : Int → σ → Option σ} (I : Int → σ → Prop) : ∀ (n : Nat) (i : Int) (s : σ), I i s → (∀ j s, i ≤ j → j < i + n → I j s → ∃ s', f j s = some s' ∧ I (j + 1) s') → ∃ s', forGoS f n i s = some s' ∧ I (i + n) s' := by
  intro n
  induction n with
  | zero => intro i s hI _; exact ⟨s, rfl, by simpa using hI⟩
  | succ n ih =>
    intro i s hI hs
    obtain ⟨s', h1, h2⟩ := hs i s (Int.le_refl _) (by omega) hI
    obtain ⟨s'', h3, h4⟩ := ih (i + 1) s' h2 fun j s hj hj' => hs j s (by omega) (by omega)
    refine ⟨s'', by simp only [forGoS]; rw [h1]; exact h3, ?_⟩
    rw [show i + (n + 1 : Nat) = i + 1 + n by omega]
    exact h4
theorem forS_inv {σ : Type} {f : Int → σ → Option σ} {n : Nat} (I : Nat → σ → Prop) (hn : n ≤ 9223372036854775807) {s : σ} (h0 : I 0 s) (hs : ∀ k s, k < n → I k s → ∃ s', f (k : Int) s = some s' ∧ I (k + 1) s') : ∃ s', forS 0 (n : Int) s f = some s' ∧ I n s' := by
  unfold forS
  rw [if_pos ⟨by omega, by omega⟩]
  obtain ⟨s', h1, h2⟩ := forGoS_inv (f := f) (fun i s => I i.toNat s) ((n : Int) - 0).toNat 0 s (by simpa using h0) fun j s hj hj' hI => by
    obtain ⟨s', h1, h2⟩ := hs j.toNat s (by omega) hI
    refine ⟨s', by rw [← h1, show ((j.toNat : Nat) : Int) = j by omega], by rw [show (j + 1).toNat = j.toNat + 1 by omega]; exact h2⟩
  refine ⟨s', h1, ?_⟩
  have e : ((0 : Int) + (((n : Int) - 0).toNat : Nat)).toNat = n := by omega
  rw [e] at h2
  exact h2
theorem forGo_inv {σ β : Type} {f : Int → σ → Option (Step σ β)} (I : Int → σ → Prop) (B : β → Prop) : ∀ (n : Nat) (i : Int) (s : σ), I i s → (∀ j s, i ≤ j → j < i + n → I j s → (∃ s', f j s = some (.next s') ∧ I (j + 1) s') ∨ ∃ b, f j s = some (.done b) ∧ B b) →
    (∃ s', forGo f n i s = some (.next s') ∧ I (i + n) s') ∨ ∃ b, forGo f n i s = some (.done b) ∧ B b := by
  intro n
  induction n with
  | zero => intro i s hI _; exact .inl ⟨s, rfl, by simpa using hI⟩
  | succ n ih =>
    intro i s hI hs
    rcases hs i s (Int.le_refl _) (by omega) hI with ⟨s', h1, h2⟩ | ⟨b, h1, h2⟩
    · rcases ih (i + 1) s' h2 fun j s hj hj' => hs j s (by omega) (by omega) with ⟨s'', h3, h4⟩ | ⟨b, h3, h4⟩
      · left
        refine ⟨s'', by simp only [forGo]; rw [h1]; exact h3, ?_⟩
        rw [show i + (n + 1 : Nat) = i + 1 + n by omega]
        exact h4
      · exact .inr ⟨b, by simp only [forGo]; rw [h1]; exact h3, h4⟩
    · exact .inr ⟨b, by simp only [forGo]; rw [h1]; rfl, h2⟩
theorem forN_inv {σ β : Type} {f : Int → σ → Option (Step σ β)} {n : Nat} (I : Nat → σ → Prop) (B : β → Prop) (hn : n ≤ 9223372036854775807) {s : σ} (h0 : I 0 s)
    (hs : ∀ k s, k < n → I k s → (∃ s', f (k : Int) s = some (.next s') ∧ I (k + 1) s') ∨ ∃ b, f (k : Int) s = some (.done b) ∧ B b) :
    (∃ s', forN 0 (n : Int) s f = some (.next s') ∧ I n s') ∨ ∃ b, forN 0 (n : Int) s f = some (.done b) ∧ B b := by
  unfold forN
  rw [if_pos ⟨by omega, by omega⟩]
  rcases forGo_inv (fun i s => I i.toNat s) B ((n : Int) - 0).toNat 0 s (by simpa using h0) (fun j s hj hj' hI => by
    have e : ((j.toNat : Nat) : Int) = j := by omega
    rcases hs j.toNat s (by omega) hI with ⟨s', h1, h2⟩ | ⟨b, h1, h2⟩
    · exact .inl ⟨s', by rw [← h1, e], by rw [show (j + 1).toNat = j.toNat + 1 by omega]; exact h2⟩
    · exact .inr ⟨b, by rw [← h1, e], h2⟩) with ⟨s', h1, h2⟩ | h
  · left
    refine ⟨s', h1, ?_⟩
    have e : ((0 : Int) + (((n : Int) - 0).toNat : Nat)).toNat = n := by omega
    rw [e] at h2
    exact h2
  · exact .inr h
/-- A counted loop that is never left early. -/
theorem forN_all {σ β : Type} {f : Int → σ → Option (Step σ β)} {n : Nat} (I : Nat → σ → Prop) (hn : n ≤ 9223372036854775807) {s : σ} (h0 : I 0 s)
    (hs : ∀ k s, k < n → I k s → ∃ s', f (k : Int) s = some (.next s') ∧ I (k + 1) s') : ∃ s', forN 0 (n : Int) s f = some (.next s') ∧ I n s' := by
  rcases forN_inv I (fun _ => False) hn h0 (fun k s hk hI => .inl (hs k s hk hI)) with h | ⟨_, _, h⟩
  · exact h
  · exact h.elim
theorem loop_inv {σ β : Type} {f : σ → Option (Step σ β)} (I : σ → Prop) (μ : σ → Nat) (B : β → Prop) (hs : ∀ s, I s → (∃ s', f s = some (.next s') ∧ I s' ∧ μ s' < μ s) ∨ ∃ b, f s = some (.done b) ∧ B b) : ∀ {s : σ}, I s → ∃ b, loop s f = some b ∧ B b := by
  intro s
  generalize hm : μ s = m
  induction m using Nat.strongRecOn generalizing s with
  | ind m ih =>
    intro hI
    rw [loop_eq]
    rcases hs s hI with ⟨s', h1, h2, h3⟩ | ⟨b, h1, h2⟩
    · rw [h1]
      exact ih (μ s') (by omega) rfl h2
    · rw [h1]
      exact ⟨b, rfl, h2⟩
/-- A loop that counts, told by what holds at its end. -/
theorem some_of {α : Type} {o : Option α} {P : α → Prop} {x : α} (h : ∃ y, o = some y ∧ P y) (hu : ∀ y, P y → y = x) : o = some x := by
  obtain ⟨y, h1, h2⟩ := h
  rw [h1, hu y h2]
end Go.Eng
