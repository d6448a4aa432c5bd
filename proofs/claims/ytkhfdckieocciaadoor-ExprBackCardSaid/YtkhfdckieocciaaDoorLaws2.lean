/-
  EXPR: what an expression that is handed in reads as; the laws over heaps of ExprAgain, ExprOrder, ExprTells and ExprBack.
  Conditions: the arguments' cells are there.
-/
import Derived.Test.YtkhfdckieocciaaDoorE15
import Derived.Test.YtkhfdckieocciaaDoorLaws
namespace Go.Proofs.YtkhfdckieocciaaDoor
open Go Go.Eng
set_option linter.unusedVariables false

theorem slice_level {α : Type} {P : Program} {h : Heap} {n : Nat} {t e : TypeId} {r : Ro α} {G : α → Prop} (ht : P.underlying t = some (.slice e)) (hc : P.cellsOf e = r.sz) (he : ∀ cs, Reads P h n e cs → ∃ x, r.is (snap h) cs x ∧ G x)
    {cs : List Value} (H : Reads P h (n + 1) t cs) : ∃ l, (Ro.list r).is (snap h) cs l ∧ l.length ≤ maxLen ∧ ∀ x ∈ l, G x := by
  unfold Reads at H
  rw [ht] at H
  obtain ⟨p, len, cap, rfl, h1, h2, h3, h4⟩ := H
  obtain ⟨l, hl, hp⟩ := choose_list (p := fun i (x : List Value × α) => r.is (snap h) x.1 x.2 ∧ G x.2 ∧ ∀ j v, x.1[j]? = some v → ∃ a, p = some a ∧ cellH h (a.add (i * r.sz + j)) = some v) len (fun i hi => by
    obtain ⟨cs', g1, g2, g3⟩ := h4 i hi
    obtain ⟨x, hx, hG⟩ := he cs' g3
    exact ⟨(cs', x), hx, hG, fun j v hv => by have := g2 j v hv; rw [hc] at this; exact this⟩)
  have key : ∀ k, k ≤ len → ∃ vs, r.All (snap h) vs ((l.take k).map (·.2)) ∧ vs.length = k * r.sz ∧ CellsS (snap h) p vs := fun k => by
    induction k with
    | zero => intro _; exact ⟨[], .nil, by simp, fun i v hv => by simp at hv⟩
    | succ k ih =>
      intro hk
      obtain ⟨vs, a1, a2, a3⟩ := ih (by omega)
      have hkl : k < l.length := by omega
      obtain ⟨b1, b2, b3⟩ := hp k l[k] (List.getElem?_eq_getElem hkl)
      refine ⟨vs ++ l[k].1, ?_, by rw [List.length_append, a2, r.len b1, Nat.add_mul, Nat.one_mul], fun i v hv => ?_⟩
      · rw [List.take_add_one, List.getElem?_eq_getElem hkl, List.map_append]
        exact a1.append (.one b1)
      · rcases Nat.lt_or_ge i vs.length with g | g
        · rw [List.getElem?_append_left g] at hv; exact a3 i v hv
        · rw [List.getElem?_append_right g] at hv
          obtain ⟨a, ha, hcell⟩ := b3 _ v hv
          refine ⟨a, ha, ?_⟩
          rw [cellS_snap, show i = k * r.sz + (i - vs.length) by omega]
          exact hcell
  obtain ⟨vs, a1, a2, a3⟩ := key len (Nat.le_refl _)
  rw [List.take_of_length_le (by omega)] at a1
  refine ⟨l.map (·.2), ⟨(p, len, cap), rfl, by simp [hl], h1, h2, fun hp0 => ?_, vs, a1, a3⟩, by simp; omega, fun x hx => ?_⟩
  · have := (h3 hp0).1
    have : l = [] := List.eq_nil_of_length_eq_zero (by omega)
    rw [this]; rfl
  · obtain ⟨y, hy, rfl⟩ := List.mem_map.1 hx
    obtain ⟨i, hi⟩ := List.getElem?_of_mem hy
    exact (hp i y hi).2.1
theorem all_okE {l : List Ex} (h : ∀ x ∈ l, ∃ m, okE m x) : ∃ m, ∀ x ∈ l, okE m x := by
  induction l with
  | nil => exact ⟨0, fun x hx => by cases hx⟩
  | cons x l ih =>
    obtain ⟨m, hm⟩ := ih fun y hy => h y (by simp [hy])
    obtain ⟨k, hk⟩ := h x (by simp)
    refine ⟨max m k, fun y hy => ?_⟩
    rcases List.mem_cons.1 hy with rfl | hy
    · exact okE_le (Nat.le_max_right _ _) hk
    · exact okE_le (Nat.le_max_left _ _) (hm y hy)
theorem cut3 {α : Type} {cs : List α} (h : cs.length = 3) : ∃ a b c, cs = [a, b, c] := by
  match cs, h with
  | [a, b, c], _ => exact ⟨a, b, c, rfl⟩
section
variable {h : Heap}
theorem reads_ex : ∀ n cs, Reads Tryd.prog h n 25 cs → ∃ x, exRo.is (snap h) cs x ∧ ∃ m, okE m x := by
  intro n
  induction n using Nat.strongRecOn with
  | ind n ih =>
    intro cs H
    cases n with
    | zero => exact H.elim
    | succ n =>
      have H' := H
      unfold Reads at H
      rw [Tryd.underlying25] at H
      obtain ⟨hlen, hf⟩ := H
      have hlen : cs.length = 3 := hlen.trans (by kernel_rfl)
      obtain ⟨a, b, c, rfl⟩ := cut3 hlen
      have e3 : Tryd.prog.cellsOf 3 = 1 := by kernel_rfl
      have e4 : Tryd.prog.cellsOf 23 = 1 := by kernel_rfl
      have f0 := hf _ (.head _)
      have f1 := hf _ (.tail _ (.head _))
      have f2 := hf _ (.tail _ (.tail _ (.head _)))
      dsimp only at f0 f1 f2
      rw [e3] at f0 f1
      rw [e4] at f2
      obtain ⟨k, h0, w0⟩ := reads_int Tryd.underlying3 f0
      obtain ⟨m, h1, w1⟩ := reads_int Tryd.underlying3 f1
      cases n with
      | zero => exact f0.elim
      | succ n =>
        obtain ⟨l, h2, w2, w3⟩ := slice_level (r := exRo) (G := fun x => ∃ m, okE m x) Tryd.underlying23 (by kernel_rfl) (fun cs hcs => ih n (by omega) cs hcs) f2
        obtain ⟨q, hq⟩ := all_okE w3
        have hmax : maxLen = 9223372036854775807 := by decide
        refine ⟨Ex.mk k m l, exRo_mk ⟨[a], [b, c], rfl, h0, [b], [c], rfl, h1, h2⟩, q + 1, ?_⟩
        exact ⟨by show l.length ≤ _; omega, wf64 w1, hq⟩
theorem bytes_in {n : Nat} {p : Option Addr} {len cap : Nat} (hr : Reads Tryd.prog h n 32 [.slice p len cap]) : ∃ l, Ro.SliceIs (Ro.int .u8) (snap h) (p, len, cap) l ∧ ∀ x ∈ l, 0 ≤ x ∧ x ≤ 255 := by
  obtain ⟨l, h1, _, h2⟩ := slice_of (readsTo_slice Tryd.underlying32 (by kernel_rfl) (readsTo_int Tryd.underlying5)) hr
  exact ⟨l, h1, fun x hx => wf8 (h2 x hx)⟩
theorem again {s : ByteArray} (gk : Glob (snap h)) : CallsH Tryd.prog 9 [.string s] h (Back (Truth h)) :=
  truth_of (tronagelaw20_ExprAgain_sim 300 gk (St.start h) (again_law s))
theorem order {n m : Nat} {p q : Option Addr} {len cap len' cap' : Nat} (gk : Glob (snap h)) (hr : Reads Tryd.prog h n 32 [.slice p len cap]) (hm : Reads Tryd.prog h m 32 [.slice q len' cap']) :
    CallsH Tryd.prog 5 [.slice p len cap, .slice q len' cap'] h (Back (Truth h)) := by
  obtain ⟨l, h1, h2⟩ := bytes_in hr
  obtain ⟨l', h1', h2'⟩ := bytes_in hm
  exact truth_of (tronagelaw20_ExprOrder_sim 300 gk h1 h1' (St.start h) (order_law l l' h2 h2'))
/-- The cells of one that was handed in. -/
theorem ex_cells {n : Nat} {cs : List Value} (hr : Reads Tryd.prog h n 25 cs) : ∃ (x : Int × Int × Slc × Unit) (l : List Ex), cs = [.int .i64 x.1, .int .i64 x.2.1, .slice x.2.2.1.1 x.2.2.1.2.1 x.2.2.1.2.2] ∧ Ro.SliceIs exRo (snap h) x.2.2.1 l ∧ ∃ m, okE m (Ex.mk x.1 x.2.1 l) := by
  obtain ⟨x, h1, h2⟩ := reads_ex n cs hr
  obtain ⟨a, b, rfl, ha, c, d, rfl, hc, t, hd, hs⟩ := exRo_open h1
  refine ⟨(x.kind, x.n, t, ()), x.kids, ?_, hs, by rw [Ex.eta]; exact h2⟩
  have ha : a = [.int .i64 x.kind] := ha
  have hc : c = [.int .i64 x.n] := hc
  rw [ha, hc, hd]
  rfl
theorem tells {n : Nat} {cs : List Value} (gk : Glob (snap h)) (hr : Reads Tryd.prog h n 25 cs) : CallsH Tryd.prog 7 [.agg cs.toArray] h (Back (Truth h)) := by
  obtain ⟨x, l, rfl, h1, h2⟩ := ex_cells hr
  exact truth_of (tronagelaw20_ExprTells_sim 300 (x_0 := x) gk h1 (St.start h) (tells_law _ h2))
theorem back {n : Nat} {cs : List Value} (gk : Glob (snap h)) (hr : Reads Tryd.prog h n 25 cs) : CallsH Tryd.prog 8 [.agg cs.toArray] h (Back (Truth h)) := by
  obtain ⟨x, l, rfl, h1, h2⟩ := ex_cells hr
  exact truth_of (tronagelaw20_ExprBack_sim 300 (x_0 := x) gk h1 (St.start h) (back_law _ h2))
end
end Go.Proofs.YtkhfdckieocciaaDoor
