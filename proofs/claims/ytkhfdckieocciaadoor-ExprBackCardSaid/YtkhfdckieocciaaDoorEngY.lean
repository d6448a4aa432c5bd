/-
  THE ENGINE, PART Y: a row of bytes seen as one of its own type: it stays from then on.
  Conditions: none; it speaks of any program.
-/
import Derived.Test.YtkhfdckieocciaaDoorEngM
namespace Go.Eng
open Go

section
variable {P : Program} {Q : Leaf → Heap → Prop} {φ : Snap} {h : Heap} {Γ : List Chk}
/-- A block of one's own becomes another, and stays. -/
theorem St.become {ty : TypeId} {b : Nat} {vs : List Value} {h' : Heap} {arr : Array Value} {f : Nat × Nat} (H : St φ (⟨Rep.raw ty, [.pointer (some ⟨b, 0, none⟩)], vs⟩ :: Γ) h)
    (hb : h'[b]? = some (.cells arr ty f)) (ho : ∀ k, k < h.size → k ≠ b → h'[k]? = h[k]?) : ∃ ψ, Sub φ ψ ∧ ψ b = some (.cells arr ty f) ∧ St ψ Γ h' := by
  classical
  obtain ⟨F, ⟨b', e, hcell, hF⟩, h2, H⟩ := H
  cases e
  have hφ : φ b = none := (h2 b ((hF b).2 rfl)).1
  have hs := StX.sub H
  have hs' : Sub φ (snap h') := fun i o hi => by
    have hne : i ≠ b := fun e => by rw [e, hφ] at hi; cases hi
    have := hs i o hi
    show h'[i]? = some o
    rw [ho i (lt_of_get this) hne]; exact this
  have H1 : StX φ h' Γ (fun k => False ∨ F k) := StX.heap H (fun k hk hn => ho k hk fun e => hn (.inr ((hF k).2 e))) hs'
  refine ⟨fun i => if i = b then h'[b]? else φ i, fun i o hi => ?_, by simp [hb], ?_⟩
  · show (if i = b then h'[b]? else φ i) = some o
    rw [if_neg]
    · exact hi
    · intro e; rw [e, hφ] at hi; cases hi
  · refine StX.less (StX.grow H1 (fun i o hi => ?_) (fun i o hi => ?_) fun k hk hn => ?_) fun k hk => hk.elim
    · show (if i = b then h'[b]? else φ i) = some o
      rw [if_neg]
      · exact hi
      · intro e; rw [e, hφ] at hi; cases hi
    · split at hi
      · rename_i e; rw [e]; exact hi
      · exact hs' i o hi
    · split at hk
      · rename_i e; exact .inr ((hF k).2 e)
      · exact absurd hn hk
theorem s_view {t e : TypeId} {b n : Nat} {α : Type} {r : Ro α} {vs : List Value} {l : List α} {k : Slc → T} (ht : P.underlying t = some (.slice e)) (he : P.underlying e = some (.int .u8))
    (H : St φ (⟨Rep.raw e, [.pointer (some ⟨b, 0, none⟩)], vs⟩ :: Γ) h) (ha : r.All φ vs l) (hn : l.length = n) (hm : n ≤ maxLen)
    (hk : ∀ ψ h', Sub φ ψ → Ro.SliceIs r ψ (some ⟨b, 0, none⟩, n, n) l → St ψ Γ h' → (k (some ⟨b, 0, none⟩, n, n)).wp P Q h') :
    (T.sem (convert t t (.slice (some ⟨b, 0, none⟩) n n)) (.one (.atom .slice)) k).wp P Q h := by
  refine t_sem ?_
  unfold convert
  refine underlying_run ht ?_
  refine underlying_run ht ?_
  dsimp only
  refine underlying_run he ?_
  rw [beq_self_eq_true]
  have hb : h[b]? = some (.cells vs.toArray e (0, 0)) := by
    obtain ⟨F, ⟨b', e', hcell, hF⟩, h2, H⟩ := H
    cases e'
    exact hcell
  have hsh : shapeH h b = some (e, vs.toArray.size) := by
    show World.shape? (ofHeap h) b = _
    unfold World.shape?
    show (match h[b]? with | some (.cells c e _) => some (e, c.size) | _ => none) = _
    rw [hb]
  show semWp P (Sem.bind (markStringish _) _) _ _ h
  unfold markStringish
  show semWp P (Sem.bind (Sem.bind (shape b) _) _) _ _ h
  show semWp P _ _ _ h
  simp only [shape, Sem.bind, semWp, hsh, freeze, pure]
  have hw : freezeH h ⟨b, vs.toArray.size, none⟩ 1 = h.modify b fun
      | .cells c elem (lo, hi) => .cells c elem (if lo == hi then (vs.toArray.size, vs.toArray.size + 1) else (min lo vs.toArray.size, max hi (vs.toArray.size + 1)))
      | o => o := by
    unfold freezeH World.freeze
    rfl
  obtain ⟨ψ, h1, h2, h3⟩ := H.become (h' := freezeH h ⟨b, vs.toArray.size, none⟩ 1) (arr := vs.toArray) (f := (vs.toArray.size, vs.toArray.size + 1)) (by
    rw [hw, Array.getElem?_modify, if_pos rfl, hb]; rfl) (fun k hk hne => by
    rw [hw, Array.getElem?_modify, if_neg (fun e => hne e.symm)])
  refine ⟨(some ⟨b, 0, none⟩, n, n), rfl, hk ψ _ h1 ⟨hn, Nat.le_refl _, hm, fun e => (by cases e), vs, ha.mono h1, fun i v hv => ⟨_, rfl, ?_⟩⟩ h3⟩
  rw [add_mk, Nat.zero_add]
  unfold cellS
  dsimp only
  rw [h2]
  simpa using hv
end
end Go.Eng
