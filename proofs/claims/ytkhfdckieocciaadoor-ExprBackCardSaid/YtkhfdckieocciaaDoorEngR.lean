/-
  THE ENGINE, PART R: what a row's reading of an argument says of the heap; from a law's tree to the row's walk.
  Conditions: none; it speaks of any program.
-/
import Derived.Test.YtkhfdckieocciaaDoorEngU
import Derived.WalkKit
import Derived.ProofKit
import Derived.OpenShut
import Derived.ShutString
import Derived.ChangeOld
import Derived.Below
namespace Go.Eng
open Go Go.RowKit

/-- What can be read: the cells of a value of a type. -/
def Reads (P : Program) (h : Heap) : Nat → TypeId → List Value → Prop
  | 0, _, _ => False
  | n + 1, t, cs => match P.underlying t with
    | some .bool => ∃ b, cs = [.bool b]
    | some (.int k) => ∃ x, cs = [.int k x] ∧ (Lit.int k x).wf = true
    | some .string => ∃ s, cs = [.string s] ∧ s.size ≤ maxLen
    | some (.slice e) => ∃ p len cap, cs = [.slice p len cap] ∧ len ≤ cap ∧ cap ≤ maxLen ∧ (p = none → len = 0 ∧ cap = 0) ∧
        ∀ i, i < len → ∃ cs', cs'.length = P.cellsOf e ∧ (∀ j v, cs'[j]? = some v → ∃ a, p = some a ∧ cellH h (a.add (i * P.cellsOf e + j)) = some v) ∧ Reads P h n e cs'
    | some (.struct fs) => cs.length = P.cellsOf t ∧ ∀ f ∈ fs.toList, Reads P h n f.type ((cs.drop f.offset).take (P.cellsOf f.type))
    | _ => True

theorem mapM_some_mem {α β : Type} {f : α → Option β} : ∀ {l : List α} {r : List β}, l.mapM f = some r → ∀ a ∈ l, ∃ b, f a = some b := by
  intro l
  induction l with
  | nil => intro r _ a ha; cases ha
  | cons x l ih =>
    intro r h a ha
    rw [List.mapM_cons] at h
    cases hx : f x with
    | none => simp [hx] at h
    | some b =>
      cases hl : l.mapM f with
      | none => simp [hx, hl] at h
      | some bs =>
        rcases List.mem_cons.1 ha with rfl | ha
        · exact ⟨b, hx⟩
        · exact ih hl a ha

theorem reads_of_trod {H : Type} {enc : TypeId × Value → H} {P : Program} {w : World} {base : Nat} {spare : Nat → Bool} {held : Bool} : ∀ (fuel : Nat) (t : TypeId) (cs : List Value) (x : DataW H × List MemPlace),
    DataW.trod enc P w base spare held fuel t cs = some x → Reads P w.heap fuel t cs := by
  intro fuel
  induction fuel with
  | zero => intro t cs x h; simp [DataW.trod] at h
  | succ n ih =>
    intro t cs x h
    have h0 := h
    rw [DataW.trod_step] at h
    unfold DataW.trodStep at h
    unfold Reads
    split <;> rename_i hd <;> try trivial
    · rw [hd] at h
      split at h <;> first | cases h | skip
      all_goals rename_i h1; first | cases h1 | skip
      all_goals first | exact ⟨_, rfl⟩ | skip
    · rw [hd] at h
      split at h <;> first | cases h | skip
      all_goals rename_i h1; first | cases h1 | skip
      split at h
      · rename_i hk; obtain ⟨rfl, hw⟩ := hk; exact ⟨_, rfl, hw⟩
      · cases h
    · rw [hd] at h
      split at h <;> first | cases h | skip
      all_goals rename_i h1; first | cases h1 | skip
      split at h
      · rename_i hs; exact ⟨_, rfl, hs⟩
      · cases h
    · rename_i e
      rcases DataW.trod_slice hd h0 with ⟨rfl, _⟩ | ⟨a, len, cap, elems, rest, m, hm, rfl, _, _, hl, hc, hlen, hel, _⟩
      · exact ⟨none, 0, 0, rfl, Nat.le_refl _, Nat.zero_le _, fun _ => ⟨rfl, rfl⟩, fun i hi => by omega⟩
      · cases hm
        refine ⟨some a, len, cap, rfl, hl, hc, (fun h => by cases h), fun i hi => ?_⟩
        have h2 := hel i hi
        rw [List.getElem?_eq_getElem (by omega), Option.bind_eq_some_iff] at h2
        obtain ⟨cs', h3, h4⟩ := h2
        obtain ⟨_, h5, h6⟩ := World.cells?_some h3
        refine ⟨cs', h5, fun j v hj => ⟨a, rfl, ?_⟩, ih _ _ _ h4⟩
        have hjl : j < P.cellsOf e := by
          rcases Nat.lt_or_ge j cs'.length with g | g
          · omega
          · rw [List.getElem?_eq_none g] at hj; cases hj
        have := h6 j hjl
        rw [hj, add_add] at this
        exact this
    · rename_i fs
      rw [hd] at h
      dsimp only at h
      by_cases hlen : cs.length = P.cellsOf t
      · rw [if_pos hlen, Option.map_eq_some_iff] at h
        obtain ⟨xs, h2, _⟩ := h
        refine ⟨hlen, fun f hf => ?_⟩
        obtain ⟨y, hy⟩ := mapM_some_mem h2 f hf
        exact ih _ _ _ hy
      · rw [if_neg hlen] at h; cases h

theorem reads_of_Trod {H : Type} {enc : TypeId × Value → H} {P : Program} {w : World} {base : Nat} {spare : Nat → Bool} {held : Bool} {t : TypeId} {v : Value} {d : DataW H} {ps : List MemPlace}
    (h : DataW.Trod enc P w base spare held t v d ps) : ∃ n, Reads P w.heap n t v.cells.toList := by
  obtain ⟨fuel, hf⟩ := h
  exact ⟨fuel, reads_of_trod fuel t _ _ hf⟩

/-- What a law's call promises. -/
def Truth (h : Heap) (v : Value) (h' : Heap) : Prop := v = .bool true ∧ Keep [] h h'
theorem law_walk {P : Program} {f : FuncId} {args : Array Value} {w : World} (H : CallsH P f args.toList w.heap (Back (Truth w.heap))) :
    Calls P f args w fun e w' => e = .returned (.bool true) ∧ Below w.heap.size w w' := by
  have := H w rfl
  rw [Array.toArray_toList] at this
  refine this.mono fun e w' he => ?_
  obtain ⟨hs, he⟩ := he
  cases e with
  | returned v =>
    obtain ⟨v', hv, rfl, hk⟩ := he
    cases hv
    exact ⟨rfl, hs.os, hs.tape, hs.output, hk.1, fun k hk' => hk.2 k hk' (by simp)⟩
  | panicked c => obtain ⟨v', hv, _⟩ := he; cases hv
  | outgrown => exact he.elim

/-! ## what a reading gives, type by type -/
section
variable {P : Program} {h : Heap}
theorem reads_string {n : Nat} {t : TypeId} {cs : List Value} (ht : P.underlying t = some .string) (H : Reads P h n t cs) : ∃ s, cs = [.string s] ∧ s.size ≤ maxLen := by
  cases n with
  | zero => exact H.elim
  | succ n => unfold Reads at H; rw [ht] at H; exact H
theorem reads_int {n : Nat} {t : TypeId} {k : IntKind} {cs : List Value} (ht : P.underlying t = some (.int k)) (H : Reads P h n t cs) : ∃ x, cs = [.int k x] ∧ (Lit.int k x).wf = true := by
  cases n with
  | zero => exact H.elim
  | succ n => unfold Reads at H; rw [ht] at H; exact H
theorem reads_slice {n : Nat} {t e : TypeId} {cs : List Value} (ht : P.underlying t = some (.slice e)) (H : Reads P h n t cs) :
    ∃ m p len cap, cs = [.slice p len cap] ∧ len ≤ cap ∧ cap ≤ maxLen ∧ (p = none → len = 0 ∧ cap = 0) ∧
      ∀ i, i < len → ∃ cs', cs'.length = P.cellsOf e ∧ (∀ j v, cs'[j]? = some v → ∃ a, p = some a ∧ cellH h (a.add (i * P.cellsOf e + j)) = some v) ∧ Reads P h m e cs' := by
  cases n with
  | zero => exact H.elim
  | succ n =>
    unfold Reads at H
    rw [ht] at H
    obtain ⟨p, len, cap, h1, h2⟩ := H
    exact ⟨n, p, len, cap, h1, h2⟩
theorem reads_struct {n : Nat} {t : TypeId} {fs : Array Field} {cs : List Value} (ht : P.underlying t = some (.struct fs)) (H : Reads P h n t cs) :
    ∃ m, cs.length = P.cellsOf t ∧ ∀ f ∈ fs.toList, Reads P h m f.type ((cs.drop f.offset).take (P.cellsOf f.type)) := by
  cases n with
  | zero => exact H.elim
  | succ n =>
    unfold Reads at H
    rw [ht] at H
    exact ⟨n, H⟩

/-- A slice whose elements are read one by one: the elements as a list, the cells where they lie. -/
theorem choose_list {α : Type} {p : Nat → α → Prop} : ∀ (n : Nat), (∀ i, i < n → ∃ x, p i x) → ∃ l : List α, l.length = n ∧ ∀ i x, l[i]? = some x → p i x := by
  intro n
  induction n with
  | zero => intro _; exact ⟨[], rfl, fun i x hx => by simp at hx⟩
  | succ n ih =>
    intro H
    obtain ⟨l, hl, hp⟩ := ih fun i hi => H i (by omega)
    obtain ⟨x, hx⟩ := H n (by omega)
    refine ⟨l ++ [x], by simp [hl], fun i y hy => ?_⟩
    rcases Nat.lt_trichotomy i l.length with g | g | g
    · rw [List.getElem?_append_left g] at hy; exact hp i y hy
    · subst g; simp at hy; subst hy; rw [hl]; exact hx
    · rw [List.getElem?_eq_none (by simp; omega)] at hy; cases hy

theorem reads_strings {n : Nat} {t e : TypeId} {p : Option Addr} {len cap : Nat} (ht : P.underlying t = some (.slice e)) (he : P.underlying e = some .string) (hc : P.cellsOf e = 1) (H : Reads P h n t [.slice p len cap]) :
    len ≤ cap ∧ cap ≤ maxLen ∧ ∃ l : List ByteArray, l.length = len ∧ CellsAt h p (l.map Value.string) := by
  obtain ⟨m, p', len', cap', h1, h2, h3, _, h4⟩ := reads_slice ht H
  simp only [List.cons.injEq, Value.slice.injEq, and_true] at h1
  obtain ⟨rfl, rfl, rfl⟩ := h1
  obtain ⟨l, hl, hp⟩ := choose_list (p := fun i (s : ByteArray) => ∃ a, p = some a ∧ cellH h (a.add i) = some (.string s)) len (fun i hi => by
    obtain ⟨cs', g1, g2, g3⟩ := h4 i hi
    obtain ⟨s, rfl, _⟩ := reads_string he g3
    obtain ⟨a, ha, hcell⟩ := g2 0 _ rfl
    exact ⟨s, a, ha, by simpa [hc] using hcell⟩)
  refine ⟨h2, h3, l, hl, fun i v hv => ?_⟩
  rw [List.getElem?_map, Option.map_eq_some_iff] at hv
  obtain ⟨s, hs, rfl⟩ := hv
  exact hp i s hs
theorem reads_ints {n : Nat} {t e : TypeId} {k : IntKind} {p : Option Addr} {len cap : Nat} (ht : P.underlying t = some (.slice e)) (he : P.underlying e = some (.int k)) (hc : P.cellsOf e = 1) (H : Reads P h n t [.slice p len cap]) :
    len ≤ cap ∧ cap ≤ maxLen ∧ ∃ l : List Int, l.length = len ∧ CellsAt h p (l.map fun x => .int k x) ∧ ∀ x ∈ l, (Lit.int k x).wf = true := by
  obtain ⟨m, p', len', cap', h1, h2, h3, _, h4⟩ := reads_slice ht H
  simp only [List.cons.injEq, Value.slice.injEq, and_true] at h1
  obtain ⟨rfl, rfl, rfl⟩ := h1
  obtain ⟨l, hl, hp⟩ := choose_list (p := fun i (x : Int) => (∃ a, p = some a ∧ cellH h (a.add i) = some (.int k x)) ∧ (Lit.int k x).wf = true) len (fun i hi => by
    obtain ⟨cs', g1, g2, g3⟩ := h4 i hi
    obtain ⟨x, rfl, hx⟩ := reads_int he g3
    obtain ⟨a, ha, hcell⟩ := g2 0 _ rfl
    exact ⟨x, ⟨a, ha, by simpa [hc] using hcell⟩, hx⟩)
  refine ⟨h2, h3, l, hl, fun i v hv => ?_, fun x hx => ?_⟩
  · rw [List.getElem?_map, Option.map_eq_some_iff] at hv
    obtain ⟨s, hs, rfl⟩ := hv
    exact (hp i s hs).1
  · obtain ⟨i, hi⟩ := List.getElem?_of_mem hx
    exact (hp i x hi).2
end
end Go.Eng
