/-
  THE ENGINE, PART Q: what a row's reading gives, as plain things; from D to the row's walk.
  Conditions: none; it speaks of any program.
-/
import Derived.Test.YtkhfdckieocciaaDoorEngR
import Derived.Test.YtkhfdckieocciaaDoorEngX
namespace Go.Eng
open Go

/-- All that is read of a type stands for a thing. -/
def ReadsTo {α : Type} (P : Program) (h : Heap) (t : TypeId) (r : Ro α) (G : α → Prop) : Prop := ∀ n cs, Reads P h n t cs → ∃ x, r.is (snap h) cs x ∧ G x
theorem readsTo_int {P : Program} {h : Heap} {t : TypeId} {k : IntKind} (ht : P.underlying t = some (.int k)) : ReadsTo P h t (Ro.int k) fun x => (Lit.int k x).wf = true := fun n cs H => by
  obtain ⟨x, rfl, hx⟩ := reads_int ht H
  exact ⟨x, rfl, hx⟩
theorem readsTo_string {P : Program} {h : Heap} {t : TypeId} (ht : P.underlying t = some .string) : ReadsTo P h t Ro.str fun s => s.size ≤ maxLen := fun n cs H => by
  obtain ⟨x, rfl, hx⟩ := reads_string ht H
  exact ⟨x, rfl, hx⟩
theorem readsTo_bool {P : Program} {h : Heap} {t : TypeId} (ht : P.underlying t = some .bool) : ReadsTo P h t Ro.bool fun _ => True := fun n cs H => by
  cases n with
  | zero => exact H.elim
  | succ n =>
    unfold Reads at H
    rw [ht] at H
    obtain ⟨b, rfl⟩ := H
    exact ⟨b, rfl, trivial⟩
theorem readsTo_slice {α : Type} {P : Program} {h : Heap} {t e : TypeId} {r : Ro α} {G : α → Prop} (ht : P.underlying t = some (.slice e)) (hc : P.cellsOf e = r.sz) (he : ReadsTo P h e r G) :
    ReadsTo P h t (Ro.list r) fun l => l.length ≤ maxLen ∧ ∀ x ∈ l, G x := fun n cs H => by
  obtain ⟨m, p, len, cap, rfl, h1, h2, h3, h4⟩ := reads_slice ht H
  obtain ⟨l, hl, hp⟩ := choose_list (p := fun i (x : List Value × α) => r.is (snap h) x.1 x.2 ∧ G x.2 ∧ ∀ j v, x.1[j]? = some v → ∃ a, p = some a ∧ cellH h (a.add (i * r.sz + j)) = some v) len (fun i hi => by
    obtain ⟨cs', g1, g2, g3⟩ := h4 i hi
    obtain ⟨x, hx, hG⟩ := he m cs' g3
    exact ⟨(cs', x), hx, hG, fun j v hv => by have := g2 j v hv; rw [hc] at this; exact this⟩)
  have key : ∀ k, k ≤ len → ∃ vs, r.All (snap h) vs ((l.take k).map (·.2)) ∧ vs.length = k * r.sz ∧ CellsS (snap h) p vs := fun k => by
    induction k with
    | zero => intro _; exact ⟨[], .nil, by simp, fun i v hv => by simp at hv⟩
    | succ k ih =>
      intro hk
      obtain ⟨vs, a1, a2, a3⟩ := ih (by omega)
      have hkl : k < l.length := by omega
      obtain ⟨b1, b2, b3⟩ := hp k l[k] (List.getElem?_eq_getElem hkl)
      refine ⟨vs ++ l[k].1, ?_, by rw [List.length_append, a2, r.len b1, Nat.add_mul, Nat.one_mul], fun i v hv => ?_⟩
      · rw [List.take_add_one, List.getElem?_eq_getElem hkl, List.map_append]
        exact a1.append (.one b1)
      · rcases Nat.lt_or_ge i vs.length with g | g
        · rw [List.getElem?_append_left g] at hv; exact a3 i v hv
        · rw [List.getElem?_append_right g] at hv
          obtain ⟨a, ha, hcell⟩ := b3 _ v hv
          refine ⟨a, ha, ?_⟩
          rw [cellS_snap, show i = k * r.sz + (i - vs.length) by omega]
          exact hcell
  obtain ⟨vs, a1, a2, a3⟩ := key len (Nat.le_refl _)
  rw [List.take_of_length_le (by omega)] at a1
  refine ⟨l.map (·.2), ⟨(p, len, cap), rfl, by simp [hl], h1, h2, fun hp0 => ?_, vs, a1, a3⟩, by simp; omega, fun x hx => ?_⟩
  · have := (h3 hp0).1
    have : l = [] := List.eq_nil_of_length_eq_zero (by omega)
    rw [this]; rfl
  · obtain ⟨y, hy, rfl⟩ := List.mem_map.1 hx
    obtain ⟨i, hi⟩ := List.getElem?_of_mem hy
    exact (hp i y hi).2.1
theorem readsTo_mono {α : Type} {P : Program} {h : Heap} {t : TypeId} {r : Ro α} {G G' : α → Prop} (H : ReadsTo P h t r G) (hG : ∀ x, G x → G' x) : ReadsTo P h t r G' := fun n cs hr => by
  obtain ⟨x, h1, h2⟩ := H n cs hr
  exact ⟨x, h1, hG x h2⟩
/-- A slice that came in. -/
theorem slice_of {α : Type} {P : Program} {h : Heap} {t : TypeId} {r : Ro α} {G : List α → Prop} (H : ReadsTo P h t (Ro.list r) G) {n : Nat} {p : Option Addr} {len cap : Nat} (hr : Reads P h n t [.slice p len cap]) : ∃ l, Ro.SliceIs r (snap h) (p, len, cap) l ∧ G l := by
  obtain ⟨l, ⟨t', e, hs⟩, hG⟩ := H n _ hr
  obtain ⟨p', n', c'⟩ := t'
  simp only [List.cons.injEq, Value.slice.injEq, and_true] at e
  obtain ⟨rfl, rfl, rfl⟩ := e
  exact ⟨l, hs, hG⟩
theorem St.start (h : Heap) : St (snap h) [] h := Sub.refl _
/-- What D tells is true, and nothing that was there has turned. -/
theorem truth_of {P : Program} {f : FuncId} {args : List Value} {h : Heap}
    (H : CallsH P f args h (Back fun v h' => ∃ ψ : Snap, ∃ y : Bool, Sub (snap h) ψ ∧ v = ((.one (.atom .bool)) : Sh).val y ∧ y = true ∧ St ψ [] h')) : CallsH P f args h (Back (Truth h)) := by
  refine H.mono fun e h' he => ?_
  obtain ⟨v, hv, ψ, y, hs, hv2, hy, s1⟩ := he
  subst hy
  refine ⟨v, hv, hv2, ?_⟩
  have hs' := hs.trans s1.sub
  refine ⟨?_, fun i hi _ => ?_⟩
  · rcases Nat.lt_or_ge h'.size h.size with g | g
    · have h1 : snap h h'.size = some h[h'.size] := Array.getElem?_eq_getElem g
      have := lt_of_get (hs' _ _ h1)
      omega
    · exact g
  · have h1 : snap h i = some h[i] := Array.getElem?_eq_getElem hi
    have h2 : h'[i]? = some h[i] := hs' _ _ h1
    rw [h2, Array.getElem?_eq_getElem hi]
end Go.Eng
