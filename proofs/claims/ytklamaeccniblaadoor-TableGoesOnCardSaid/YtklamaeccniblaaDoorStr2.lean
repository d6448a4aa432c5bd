/-
  strconv.AppendInt at base 10: the shelf's contract in the words of pieces.
  Conditions: the table of powers reads as its initialiser lays it.
-/
import Derived.Test.YtklamaeccniblaaDoorLays
import Derived.Test.YtklamaeccniblaaDoorEngM
import Derived.Lib.ItoaLen
namespace Go.Proofs.YtklamaeccniblaaDoor
open Go Go.Eng Go.RowKit
set_option linter.unusedVariables false

theorem mixed : Tryd.prog.follows .mixedOrders = true := by kernel_rfl
/-- The table of powers stays. -/
def Glob (φ : Snap) : Prop := ∃ g t f, Tryd.prog.globalNamed "internal/strconv.uint64pow10" = some g ∧ φ g = some (.cells (Lib.pow10Tab.map fun z => Value.int .u64 z).toArray t f)
theorem Glob.mono {φ ψ : Snap} (H : Glob φ) (hs : Sub φ ψ) : Glob ψ := by
  obtain ⟨g, t, f, h1, h2⟩ := H
  exact ⟨g, t, f, h1, hs _ _ h2⟩
def digits (i : Int) : List Int := (Lib.itoa i).map fun b => (b.toNat : Int)
def appendIntD (l : List Int) (i b : Int) : Option (List Int) := if b = 10 ∧ -9223372036854775808 ≤ i ∧ i ≤ 9223372036854775807 ∧ l.length ≤ 1000000 then some (l ++ digits i) else none
theorem digits_cells (i : Int) : Lib.byteCells (Lib.itoa i) = (digits i).map (Atom.int .u8).val := by
  unfold Lib.byteCells digits
  rw [List.map_map]
  rfl
/-- All that was there stays. -/
theorem appendInt_sim {h0 h : Heap} {t : Slc} {l : List Int} {i b : Int} (gk : Glob (snap h0)) (s0 : St (snap h0) (⟨Rep.row 5 (Ro.int .u8), [.slice t.1 t.2.1 t.2.2], l⟩ :: []) h) {r : List Int} (hd : appendIntD l i b = some r) :
    CallsH Tryd.prog 25 [(.slice t.1 t.2.1 t.2.2), (.int .i64 i), (.int .i64 b)] h (Back fun v h' => ∃ ψ : Snap, ∃ y : Option Addr × Nat × Nat, ∃ l' : List Int, Sub (snap h0) ψ ∧ ψ = snap h0 ∧ v = ((.one (.atom .slice)) : Sh).val y ∧ l' = r ∧ St ψ (⟨Rep.row 5 (Ro.int .u8), [.slice y.1 y.2.1 y.2.2], l'⟩ :: []) h') := by
  unfold appendIntD at hd
  split at hd
  · rename_i hg
    obtain ⟨rfl, h1, h2, hlen⟩ := hg
    cases hd
    obtain ⟨F, ⟨p, n, c, vs, e, hn, hc, hf, ho, ha, hF⟩, hX, H⟩ := s0
    have hn : l.length = n := hn
    have ha' : vs = l.map (Atom.int .u8).val := all_atom ha
    simp only [List.cons.injEq, Value.slice.injEq, and_true] at e
    obtain ⟨e1, e2, e3⟩ := e
    rw [e1, e2, e3]
    have hs : Sub (snap h0) (snap h) := H
    have hB : h0.size ≤ h.size := by
      rcases Nat.lt_or_ge h.size h0.size with g | g
      · have h1 : snap h0 h.size = some h0[h.size] := Array.getElem?_eq_getElem g
        have := lt_of_get (hs _ _ h1)
        omega
      · exact g
    have hold : ∀ k, k < h0.size → (snap h0) k ≠ none := fun k hk g => by
      have h1 : snap h0 k = some h0[k] := Array.getElem?_eq_getElem hk
      rw [h1] at g; cases g
    have own : World.ownsRow (ofHeap h) h0.size 5 1 (.slice p n c) n vs := by
      refine ⟨by rw [ha', List.length_map, hn, Nat.mul_one], ?_⟩
      rcases ho with ⟨rfl, rfl, rfl, rfl⟩ | ⟨b, off, arr, rfl, hb, g1, g2, g3, g4⟩
      · exact .inl ⟨rfl, rfl⟩
      · obtain ⟨q1, q2⟩ := hf _ _ _ rfl
        subst q1
        have hsz := q2 _ _ _ hb
        have hsz : arr.size = c * 1 := hsz
        have g1 : vs.length = n * 1 := g1
        refine .inr ⟨b, c, arr, rfl, ?_, hb, g2, hc, hsz, ?_⟩
        · rcases Nat.lt_or_ge b h0.size with g | g
          · exact absurd (hX b ((hF b).2 (by simp [blk]))).1 (hold b g)
          · exact g
        · refine List.ext_getElem? fun i => ?_
          rw [List.getElem?_take]
          split
          · rename_i hi
            have hi' : i < vs.length := by omega
            have := g4 i vs[i] (List.getElem?_eq_getElem hi')
            rw [List.getElem?_eq_getElem hi']
            simpa using this
          · rw [List.getElem?_eq_none (by omega)]
    intro w hw
    subst hw
    refine (Any.strconv_AppendInt_10 laysM176 h0.size n i h1 h2 (.slice p n c) vs w own hB (by omega) (fun w' hb => ?_)).mono ?_
    · obtain ⟨g, t', f, g1, g2⟩ := gk
      have hg : w.heap[g]? = some (.cells (Lib.pow10Tab.map fun z => Value.int .u64 z).toArray t' f) := hs _ _ g2
      have hlt := lt_of_get (h := h0) g2
      show (Tryd.prog.globalNamed _).bind _ = _
      rw [g1]
      show (match w'.heap[g]? with | some (.cells cs _ _) => some cs | _ => none) = _
      rw [hb.block g hlt, hg]
    · rintro e w' ⟨v', rfl, hown, hb, _⟩
      refine ⟨⟨hb.os, hb.tape, hb.output⟩, v', rfl, snap h0, ?_⟩
      obtain ⟨k1, k2⟩ := hown
      have hsub : Sub (snap h0) (snap w'.heap) := fun i o ho => by
        have hlt := lt_of_get (h := h0) ho
        show w'.heap[i]? = some o
        rw [hb.block i hlt]
        exact hs i o ho
      have hvs : vs ++ Lib.byteCells (Lib.itoa i) = (l ++ digits i).map (Atom.int .u8).val := by rw [List.map_append, ha', digits_cells]
      have hdl : (digits i).length = (Lib.itoa i).length := by unfold digits; simp
      have hall : ∀ (l : List Int), (Ro.int .u8).All (snap h0) (l.map (Atom.int .u8).val) l := fun l => by
        induction l with
        | nil => exact .nil
        | cons x l ih => exact .cons (a := [_]) rfl ih
      rcases k2 with ⟨rfl, hz⟩ | ⟨g, cap, cur, rfl, hBg, hg, hle, hm, hcs, hcur⟩
      · refine ⟨(none, 0, 0), l ++ digits i, Sub.refl _, rfl, rfl, rfl, fun _ => False, ⟨none, 0, 0, [], rfl, (by rw [List.length_append, hdl, hn]; exact hz), Nat.zero_le _, (fun _ _ _ h => by cases h), .inl ⟨rfl, rfl, rfl, rfl⟩, ?_, fun i => by simp [blk]⟩, fun _ hk => hk.elim, hsub⟩
        have : l ++ digits i = [] := List.eq_nil_of_length_eq_zero (by rw [List.length_append, hdl, hn]; exact hz)
        show (Ro.int .u8).All (snap h0) [] (l ++ digits i)
        rw [this]; exact .nil
      · refine ⟨(some ⟨g, 0, none⟩, n + (Lib.itoa i).length, cap), l ++ digits i, Sub.refl _, rfl, rfl, rfl, fun k => k = g, ⟨_, _, cap, (l ++ digits i).map (Atom.int .u8).val, rfl, by simp; omega, hm, (fun b' off s e => by cases e; exact ⟨rfl, fun arr ty f harr => by
            rw [hg] at harr; cases harr; exact hcs⟩), .inr ⟨g, 0, cur, rfl, hg, by show _ = _ * 1; simp; omega, hle, by show 0 + cap * 1 ≤ _; omega, fun j v hv => ?_⟩, hall _, fun k => by simp [blk]⟩, fun k hk => ⟨?_, fun g => g⟩, hsub⟩
        · rw [← hvs, ← hcur, List.getElem?_take] at hv
          split at hv
          · simpa using hv
          · cases hv
        · subst hk
          exact Array.getElem?_eq_none hBg
  · cases hd
end Go.Proofs.YtklamaeccniblaaDoor
