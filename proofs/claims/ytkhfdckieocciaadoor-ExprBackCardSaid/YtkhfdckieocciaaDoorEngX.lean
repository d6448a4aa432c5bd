/-
  THE ENGINE, PART X: rules over pieces: what a tree's nodes do to them; loops as functions.
  Conditions: none; it speaks of any program.
-/
import Derived.Test.YtkhfdckieocciaaDoorEngS
namespace Go.Eng
open Go

/-! ## plain things -/
def idx {α : Type} (l : List α) (i : Int) : Option α := if 0 ≤ i then l[i.toNat]? else none
def setI {α : Type} (l : List α) (i : Int) (x : α) : Option (List α) := if 0 ≤ i ∧ i < (l.length : Int) then some (l.set i.toNat x) else none
def app {α : Type} (l m : List α) : Option (List α) := if l.length + m.length ≤ 1073741824 then some (l ++ m) else none
def cut {α : Type} (l : List α) (a b : Int) : Option (List α) := if 0 ≤ a ∧ a ≤ b ∧ b ≤ (l.length : Int) then some ((l.take b.toNat).drop a.toNat) else none
inductive Step (σ β : Type) where
  | next (s : σ)
  | done (b : β)
def iter {σ β : Type} (f : σ → Option (Step σ β)) : Nat → σ → Option β
  | 0, _ => none
  | n + 1, s => match f s with
    | none => none
    | some (.done b) => some b
    | some (.next s') => iter f n s'
theorem iter_mono {σ β : Type} {f : σ → Option (Step σ β)} {b : β} : ∀ {n m : Nat} {s : σ}, iter f n s = some b → n ≤ m → iter f m s = some b := by
  intro n
  induction n with
  | zero => intro m s h; cases h
  | succ n ih =>
    intro m s h hm
    obtain ⟨m, rfl⟩ : ∃ k, m = k + 1 := ⟨m - 1, by omega⟩
    simp only [iter] at h ⊢
    cases hf : f s with
    | none => rw [hf] at h; cases h
    | some e =>
      rw [hf] at h
      cases e with
      | done b' => exact h
      | next s' => exact ih h (by omega)
open Classical in
/-- A loop, as long as it ends. -/
noncomputable def loop {σ β : Type} (s : σ) (f : σ → Option (Step σ β)) : Option β := if h : ∃ n b, iter f n s = some b then iter f h.choose s else none
theorem loop_iff {σ β : Type} {f : σ → Option (Step σ β)} {s : σ} {b : β} : loop s f = some b ↔ ∃ n, iter f n s = some b := by
  unfold loop
  constructor
  · intro h
    split at h
    · exact ⟨_, h⟩
    · cases h
  · rintro ⟨n, h⟩
    have hx : ∃ n b, iter f n s = some b := ⟨n, b, h⟩
    rw [dif_pos hx]
    obtain ⟨b', hb'⟩ := hx.choose_spec
    rw [hb']
    rcases Nat.le_total n hx.choose with g | g
    · rw [← iter_mono h g, hb']
    · rw [← h, iter_mono hb' g]
theorem loop_eq {σ β : Type} (s : σ) (f : σ → Option (Step σ β)) : loop s f = (f s).bind fun e => match e with
    | .done b => some b
    | .next s' => loop s' f := by
  apply Option.ext
  intro b
  constructor
  · intro h
    obtain ⟨n, hn⟩ := loop_iff.1 h
    cases n with
    | zero => cases hn
    | succ n =>
      simp only [iter] at hn
      cases hf : f s with
      | none => rw [hf] at hn; cases hn
      | some e =>
        rw [hf] at hn
        cases e with
        | done b' => exact hn
        | next s' => exact loop_iff.2 ⟨n, hn⟩
  · intro h
    cases hf : f s with
    | none => rw [hf] at h; cases h
    | some e =>
      rw [hf] at h
      cases e with
      | done b' => exact loop_iff.2 ⟨1, by simp only [iter, hf]; exact h⟩
      | next s' =>
        obtain ⟨n, hn⟩ := loop_iff.1 h
        exact loop_iff.2 ⟨n + 1, by simp only [iter, hf]; exact hn⟩
/-- From i on, so often. -/
def forGo {σ β : Type} (f : Int → σ → Option (Step σ β)) : Nat → Int → σ → Option (Step σ β)
  | 0, _, s => some (.next s)
  | n + 1, i, s => (f i s).bind fun e => match e with
    | .next s' => forGo f n (i + 1) s'
    | .done b => some (.done b)
/-- From i on, ahead of e. -/
def forN {σ β : Type} (i e : Int) (s : σ) (f : Int → σ → Option (Step σ β)) : Option (Step σ β) := if 0 ≤ i ∧ e ≤ 9223372036854775807 then forGo f (e - i).toNat i s else none
def forGoS {σ : Type} (f : Int → σ → Option σ) : Nat → Int → σ → Option σ
  | 0, _, s => some s
  | n + 1, i, s => (f i s).bind fun s' => forGoS f n (i + 1) s'
/-- The same without a way out. -/
def forS {σ : Type} (i e : Int) (s : σ) (f : Int → σ → Option σ) : Option σ := if 0 ≤ i ∧ e ≤ 9223372036854775807 then forGoS f (e - i).toNat i s else none

theorem idx_some {α : Type} {l : List α} {i : Int} {x : α} (h : idx l i = some x) : 0 ≤ i ∧ i < (l.length : Int) ∧ l[i.toNat]? = some x := by
  unfold idx at h
  split at h
  · rename_i h0
    have : i.toNat < l.length := by
      rcases Nat.lt_or_ge i.toNat l.length with g | g
      · exact g
      · rw [List.getElem?_eq_none g] at h; cases h
    exact ⟨h0, by omega, h⟩
  · cases h
theorem app_some {α : Type} {l m k : List α} (h : app l m = some k) : l.length + m.length ≤ 1073741824 ∧ k = l ++ m := by
  unfold app at h
  split at h
  · rename_i g; exact ⟨g, (Option.some.inj h).symm⟩
  · cases h
theorem setI_some {α : Type} {l m : List α} {i : Int} {x : α} (h : setI l i x = some m) : 0 ≤ i ∧ i < (l.length : Int) ∧ m = l.set i.toNat x := by
  unfold setI at h
  split at h
  · rename_i g; exact ⟨g.1, g.2, (Option.some.inj h).symm⟩
  · cases h
theorem cut_some {α : Type} {l m : List α} {a b : Int} (h : cut l a b = some m) : 0 ≤ a ∧ a ≤ b ∧ b ≤ (l.length : Int) ∧ m = (l.take b.toNat).drop a.toNat := by
  unfold cut at h
  split at h
  · rename_i g; exact ⟨g.1, g.2.1, g.2.2, (Option.some.inj h).symm⟩
  · cases h

/-! ## what stays -/
theorem Ro.SliceIs.get {α : Type} {r : Ro α} {φ : Snap} {t : Slc} {l : List α} {i : Int} {x : α} (H : Ro.SliceIs r φ t l) (hx : idx l i = some x) :
    ∃ a cs, t.1 = some a ∧ (0 ≤ i ∧ i < (t.2.1 : Nat)) ∧ r.is φ cs x ∧ ∀ j v, cs[j]? = some v → cellS φ (a.add (i.toNat * r.sz + j)) = some v := by
  obtain ⟨h0, h1, hx⟩ := idx_some hx
  obtain ⟨e, _, _, hn, vs, ha, hc⟩ := H
  obtain ⟨cs, hr, hcs⟩ := ha.at hx
  cases hp : t.1 with
  | none => rw [hn hp] at hx; simp at hx
  | some a =>
    refine ⟨a, cs, rfl, ⟨h0, by omega⟩, hr, fun j v hv => ?_⟩
    obtain ⟨a', ha', hcell⟩ := hc _ v (hcs j v hv)
    rw [hp] at ha'; cases ha'
    exact hcell
theorem Ro.SliceIs.nil {α : Type} (r : Ro α) (φ : Snap) : Ro.SliceIs r φ (none, 0, 0) [] := ⟨rfl, Nat.le_refl _, Nat.zero_le _, fun _ => rfl, [], .nil, fun i v hv => by simp at hv⟩
theorem Ro.SliceIs.length {α : Type} {r : Ro α} {φ : Snap} {t : Slc} {l : List α} (H : Ro.SliceIs r φ t l) : t.2.1 = l.length := H.1.symm
theorem Ro.SliceIs.lt {α : Type} {r : Ro α} {φ : Snap} {t : Slc} {l : List α} (H : Ro.SliceIs r φ t l) : l.length ≤ maxLen := by have := H.1; have := H.2.1; have := H.2.2.1; omega
/-- A part of a slice. -/
theorem Ro.SliceIs.cut {α : Type} {r : Ro α} {φ : Snap} {t : Slc} {l m : List α} {a b : Int} {sz : Nat} (H : Ro.SliceIs r φ t l) (hm : cut l a b = some m) (hsz : r.sz = sz) :
    (0 ≤ a ∧ a ≤ b ∧ b ≤ (t.2.2 : Nat)) ∧ Ro.SliceIs r φ ((if t.2.2 = a.toNat then t.1 else Option.map (fun x => Addr.add x (a.toNat * sz)) t.1), b.toNat - a.toNat, t.2.2 - a.toNat) m := by
  obtain ⟨h0, h1, h2, rfl⟩ := cut_some hm
  obtain ⟨e, hc, hm, hn, vs, ha, hcs⟩ := H
  subst hsz
  refine ⟨⟨h0, h1, by omega⟩, ?_, ?_, ?_, ?_, (vs.take (b.toNat * r.sz)).drop (a.toNat * r.sz), (ha.take _).drop _, ?_⟩
  · simp only [List.length_drop, List.length_take]; omega
  · dsimp only; omega
  · dsimp only; omega
  · intro h
    dsimp only at h
    cases hp : t.1 with
    | none => rw [hn hp]; simp
    | some x =>
      rw [hp] at h
      split at h <;> cases h
  · intro i v hv
    rw [List.getElem?_drop, List.getElem?_take] at hv
    split at hv
    · rename_i hlt
      obtain ⟨x, hx, hcell⟩ := hcs _ v hv
      rw [hx]
      dsimp only
      split
      · rename_i hca
        have hl := ha.length
        have : vs[a.toNat * r.sz + i]? = none := by
          rw [List.getElem?_eq_none]
          rw [hl]
          have : l.length * r.sz ≤ a.toNat * r.sz := Nat.mul_le_mul_right _ (by omega)
          omega
        rw [this] at hv; cases hv
      · exact ⟨_, rfl, by rw [add_add]; exact hcell⟩
    · cases hv

/-! ## pieces -/
section
variable {φ : Snap} {h : Heap} {Γ : List Chk} {X : Foot}
theorem StX.ro {α : Type} {r : Ro α} {cs : List Value} {x : α} (H : StX φ h (⟨Rep.ro r, cs, x⟩ :: Γ) X) : r.is φ cs x ∧ StX φ h Γ X := by
  obtain ⟨F, h1, _, H⟩ := H
  exact ⟨h1.2, H.less fun k hk => .inl hk⟩
theorem St.ro {α : Type} {r : Ro α} {cs : List Value} {x : α} (H : St φ (⟨Rep.ro r, cs, x⟩ :: Γ) h) : r.is φ cs x ∧ St φ Γ h := StX.ro H
theorem St.unro {α : Type} {r : Ro α} {cs : List Value} {x : α} (H : St φ Γ h) (hr : r.is φ cs x) : St φ (⟨Rep.ro r, cs, x⟩ :: Γ) h :=
  ⟨fun _ => False, ⟨fun _ h => h, hr⟩, fun _ hk => hk.elim, H.less fun _ hk => hk.elim id id⟩
theorem St.pair {α β : Type} {R : Rep α} {S : Rep β} {cs : List Value} {x : α × β} (H : St φ (⟨Rep.prod R S, cs, x⟩ :: Γ) h) : ∃ a b, cs = a ++ b ∧ a.length = R.sz ∧ St φ (⟨R, a, x.1⟩ :: ⟨S, b, x.2⟩ :: Γ) h := by
  obtain ⟨F, ⟨a, b, A, B, rfl, ha, hb, hd, hF⟩, h2, H⟩ := H
  refine ⟨a, b, rfl, R.len ha, A, ha, fun k hk => h2 k ((hF k).2 (.inl hk)), B, hb, fun k hk => ⟨(h2 k ((hF k).2 (.inr hk))).1, fun g => ?_⟩, H.less fun k hk => ?_⟩
  · rcases g with g | g
    · exact g
    · exact hd k g hk
  · rcases hk with (hk | hk) | hk
    · exact hk.elim
    · exact .inr ((hF k).2 (.inl hk))
    · exact .inr ((hF k).2 (.inr hk))
theorem St.unpair {α β : Type} {R : Rep α} {S : Rep β} {a b : List Value} {x : α} {y : β} (H : St φ (⟨R, a, x⟩ :: ⟨S, b, y⟩ :: Γ) h) : St φ (⟨Rep.prod R S, a ++ b, (x, y)⟩ :: Γ) h := by
  obtain ⟨A, ha, hA, B, hb, hB, H⟩ := H
  refine ⟨fun k => A k ∨ B k, ⟨a, b, A, B, rfl, ha, hb, fun i hi hj => (hB i hj).2 (.inr hi), fun _ => Iff.rfl⟩, fun k hk => ?_, H.less fun k hk => ?_⟩
  · rcases hk with hk | hk
    · exact hA k hk
    · exact ⟨(hB k hk).1, fun g => g⟩
  · rcases hk with hk | hk | hk
    · exact hk.elim
    · exact .inl (.inr hk)
    · exact .inr hk
theorem St.open {α : Type} {ty : TypeId} {R : Rep α} {cs : List Value} {x : α} (H : St φ (⟨Rep.obj ty R, cs, x⟩ :: Γ) h) :
    ∃ b vs, cs = [.pointer (some ⟨b, 0, none⟩)] ∧ vs.length = R.sz ∧ St φ (⟨Rep.raw ty, [.pointer (some ⟨b, 0, none⟩)], vs⟩ :: ⟨R, vs, x⟩ :: Γ) h := by
  obtain ⟨F, ⟨b, vs, G, rfl, hb, hR, hG, hF⟩, h2, H⟩ := H
  refine ⟨b, vs, rfl, R.len hR, fun i => i = b, ⟨b, rfl, hb, fun _ => Iff.rfl⟩, fun k hk => h2 k ((hF k).2 (.inl hk)), G, hR, fun k hk => ⟨(h2 k ((hF k).2 (.inr hk))).1, fun g => ?_⟩, H.less fun k hk => ?_⟩
  · rcases g with g | g
    · exact g
    · subst g; exact hG hk
  · rcases hk with (hk | hk) | hk
    · exact hk.elim
    · exact .inr ((hF k).2 (.inl hk))
    · exact .inr ((hF k).2 (.inr hk))
theorem St.shut {α : Type} {ty : TypeId} {R : Rep α} {cs vs : List Value} {x : α} (H : St φ (⟨Rep.raw ty, cs, vs⟩ :: ⟨R, vs, x⟩ :: Γ) h) : St φ (⟨Rep.obj ty R, cs, x⟩ :: Γ) h := by
  obtain ⟨A, ⟨b, rfl, hb, hA'⟩, hA, B, hR, hB, H⟩ := H
  refine ⟨fun k => k = b ∨ B k, ⟨b, vs, B, rfl, hb, hR, fun hk => (hB b hk).2 (.inr ((hA' b).2 rfl)), fun _ => Iff.rfl⟩, fun k hk => ?_, H.less fun k hk => ?_⟩
  · rcases hk with hk | hk
    · exact hA k ((hA' k).2 hk)
    · exact ⟨(hB k hk).1, fun g => g⟩
  · rcases hk with hk | hk | hk
    · exact hk.elim
    · exact .inl (.inr ((hA' k).2 hk))
    · exact .inr hk
/-- What is new. -/
theorem St.new {ty : TypeId} (vs : List Value) (H : St φ Γ h) : St φ (⟨Rep.raw ty, [.pointer (some ⟨h.size, 0, none⟩)], vs⟩ :: Γ) (h.push (.cells vs.toArray ty (0, 0))) := by
  have hs := H.sub
  refine ⟨fun i => i = h.size, ⟨h.size, rfl, by rw [Array.getElem?_push, if_pos rfl], fun _ => Iff.rfl⟩, fun k hk => ⟨?_, fun g => g⟩, ?_⟩
  · subst hk
    cases hφ : φ h.size with
    | none => rfl
    | some o => have := lt_of_get (hs _ _ hφ); omega
  · refine StX.heap (StX.more H fun k hk => ?_) (fun k hk _ => by rw [Array.getElem?_push]; simp; omega) fun i o ho => ?_
    · rcases hk with hk | hk
      · exact hk.elim
      · left; omega
    · have hlt := lt_of_get (hs i o ho)
      show (h.push _)[i]? = some o
      rw [Array.getElem?_push, if_neg (by omega)]
      exact hs i o ho
theorem St.nil {α : Type} (ty : TypeId) (r : Ro α) (H : St φ Γ h) : St φ (⟨Rep.row ty r, [.slice none 0 0], []⟩ :: Γ) h :=
  ⟨fun _ => False, ⟨none, 0, 0, [], rfl, rfl, Nat.zero_le _, (fun _ _ _ h => by cases h), .inl ⟨rfl, rfl, rfl, rfl⟩, .nil, fun i => by simp [blk]⟩, fun _ hk => hk.elim, H.less fun _ hk => hk.elim id id⟩
theorem St.lit {α : Type} {ty : TypeId} {r : Ro α} {b n : Nat} {vs : List Value} {l : List α} (H : St φ (⟨Rep.raw ty, [.pointer (some ⟨b, 0, none⟩)], vs⟩ :: Γ) h) (ha : r.All φ vs l) (hn : l.length = n) (hb : n ≤ maxLen) :
    St φ (⟨Rep.row ty r, [.slice (some ⟨b, 0, none⟩) n n], l⟩ :: Γ) h := by
  obtain ⟨F, ⟨b', e, hcell, hF⟩, h2, H⟩ := H
  cases e
  refine ⟨F, ⟨_, n, n, vs, rfl, hn, hb, (fun b' off s e => by cases e; exact ⟨rfl, fun arr ty f harr => by rw [hcell] at harr; cases harr; simp [ha.length, hn]⟩), .inr ⟨b, 0, vs.toArray, rfl, hcell, by rw [ha.length, hn], Nat.le_refl _, by simp [ha.length, hn], fun i v hv => by simpa using hv⟩, ha, fun i => by rw [hF]; simp [blk]⟩, h2, H⟩
/-- For good. -/
def Frz {α : Type} (R : Rep α) (r : Ro α) : Prop := ∀ {φ ψ : Snap} {h : Heap} {F : Foot} {cs : List Value} {x : α}, R.is φ h F cs x → Sub φ ψ → (∀ i, F i → ψ i = h[i]?) → r.is ψ cs x
theorem St.freeze {α : Type} {R : Rep α} {r : Ro α} {cs : List Value} {x : α} (hz : Frz R r) (H : St φ (⟨R, cs, x⟩ :: Γ) h) : ∃ ψ, Sub φ ψ ∧ r.is ψ cs x ∧ St ψ Γ h := by
  classical
  obtain ⟨F, h1, h2, H⟩ := H
  have hs := H.sub
  have le : Sub φ (fun i => if F i then h[i]? else φ i) := fun i o ho => by
    show (if F i then h[i]? else φ i) = some o
    rw [if_neg]
    · exact ho
    · intro hF; have e := (h2 i hF).1; rw [e] at ho; cases ho
  refine ⟨fun i => if F i then h[i]? else φ i, le, hz h1 le fun i hi => if_pos hi, ?_⟩
  refine StX.less (StX.grow H le (fun i o ho => ?_) fun k hk hn => ?_) fun k hk => hk.elim
  · split at ho
    · exact ho
    · exact hs i o ho
  · split at hk
    · exact .inr (by assumption)
    · exact absurd hn hk
theorem frz_ro {α : Type} (r : Ro α) : Frz (Rep.ro r) r := fun h hs _ => r.mono hs h.2
theorem frz_prod {α β : Type} {R : Rep α} {S : Rep β} {r : Ro α} {s : Ro β} (hr : Frz R r) (hs : Frz S s) : Frz (Rep.prod R S) (Ro.prod r s) := by
  rintro φ ψ h F cs x ⟨a, b, A, B, rfl, ha, hb, _, hF⟩ hsub hψ
  exact ⟨a, b, rfl, hr ha hsub fun i hi => hψ i ((hF i).2 (.inl hi)), hs hb hsub fun i hi => hψ i ((hF i).2 (.inr hi))⟩
theorem frz_via {α β : Type} {R : Rep α} {r : Ro α} (f : β → α) (hr : Frz R r) : Frz (Rep.via R f) (Ro.via r f) := fun h hs hψ => hr h hs hψ
theorem cells_freeze {ψ : Snap} {p : Option Addr} {vs : List Value} (hc : CellsAt h p vs) (hψ : ∀ i, i ∈ blk p → ψ i = h[i]?) : CellsS ψ p vs := fun i v hv => by
  obtain ⟨a, rfl, hcell⟩ := hc i v hv
  refine ⟨a, rfl, ?_⟩
  have e := hψ a.block (by simp [blk])
  unfold cellS
  rw [add_block, e]
  have : cellS (snap h) (a.add i) = some v := hcell
  unfold cellS at this
  rw [add_block] at this
  exact this
theorem frz_row {α : Type} (ty : TypeId) (r : Ro α) : Frz (Rep.row ty r) (Ro.list r) := by
  rintro φ ψ h F cs l ⟨p, n, c, vs, rfl, hn, hc, hfu, ho, ha, hF⟩ hsub hψ
  refine ⟨(p, n, c), rfl, hn, ho.cap, hc, fun hp => ?_, vs, ha.mono hsub, cells_freeze ho.cells fun i hi => hψ i ((hF i).2 hi)⟩
  rcases ho with ⟨_, h0, _, _⟩ | ⟨b, off, arr, rfl, _⟩
  · exact List.eq_nil_of_length_eq_zero (by omega)
  · cases hp
/-- What stays may be told from a piece that was put away. -/
theorem frz_obj {α : Type} {ty : TypeId} {R : Rep α} {r : Ro α} (hr : Frz R r) : Frz (Rep.obj ty R) (Ro.via (Ro.ptr r) some) := by
  rintro φ ψ h F cs x ⟨b, vs, G, rfl, hb, hR, hG, hF⟩ hsub hψ
  have hc : CellsAt h (some ⟨b, 0, none⟩) vs := fun i v hv => by
    refine ⟨⟨b, 0, none⟩, rfl, ?_⟩
    rw [add_mk, cellH_of (c := vs.toArray) (t := ty) (f := (0, 0)) hb rfl]
    simpa using hv
  have hk : ∀ i, i ∈ blk (some (⟨b, 0, none⟩ : Addr)) → ψ i = h[i]? := fun i hi => by
    simp [blk] at hi
    rw [hi]
    exact hψ b ((hF b).2 (.inl rfl))
  exact ⟨⟨b, 0, none⟩, vs, rfl, hr hR hsub fun i hi => hψ i ((hF i).2 (.inr hi)), cells_freeze hc hk⟩

/-! ## cells -/
theorem St.cell {ty : TypeId} {b j : Nat} {vs : List Value} {v : Value} (H : St φ (⟨Rep.raw ty, [.pointer (some ⟨b, 0, none⟩)], vs⟩ :: Γ) h) (hv : vs[j]? = some v) : cellH h ⟨b, j, none⟩ = some v := by
  obtain ⟨F, ⟨b', e, hb, hF⟩, h2, H⟩ := H
  cases e
  rw [cellH_of (c := vs.toArray) (t := ty) (f := (0, 0)) hb rfl]
  simpa using hv
theorem St.cells {ty : TypeId} {b : Nat} {vs : List Value} (H : St φ (⟨Rep.raw ty, [.pointer (some ⟨b, 0, none⟩)], vs⟩ :: Γ) h) : CellsAt h (some ⟨b, 0, none⟩) vs := fun i v hv => ⟨_, rfl, by rw [add_mk, Nat.zero_add]; exact H.cell hv⟩
/-- A cell is written. -/
theorem St.put {ty : TypeId} {b j : Nat} {vs : List Value} (v : Value) (H : St φ (⟨Rep.raw ty, [.pointer (some ⟨b, 0, none⟩)], vs⟩ :: Γ) h) (hj : j < vs.length) :
    (cellH h ⟨b, j, none⟩).isSome = true ∧ frozenH h ⟨b, j, none⟩ = false ∧ St φ (⟨Rep.raw ty, [.pointer (some ⟨b, 0, none⟩)], vs.set j v⟩ :: Γ) (setCellH h ⟨b, j, none⟩ v) := by
  obtain ⟨F, ⟨b', e, hb, hF⟩, h2, H⟩ := H
  cases e
  refine ⟨?_, ?_, F, ⟨b, rfl, ?_, hF⟩, h2, ?_⟩
  · rw [cellH_of (c := vs.toArray) (t := ty) (f := (0, 0)) hb rfl]; simp; omega
  · unfold frozenH ofHeap World.frozen?; simp [hb]
  · rw [setCellH_at hb]; simp
  · have hs := H.sub
    have hne : ∀ k, ¬ F k → (setCellH h ⟨b, j, none⟩ v)[k]? = h[k]? := fun k hk => setCellH_ne fun e => hk ((hF k).2 e)
    refine StX.heap H (fun k _ hX => hne k fun g => hX (.inr g)) fun i o ho => ?_
    show (setCellH h _ v)[i]? = some o
    rw [hne i fun g => by rw [(h2 i g).1] at ho; cases ho]
    exact hs i o ho
/-- A row's thing. -/
theorem St.get {α : Type} {ty : TypeId} {r : Ro α} {t : Slc} {l : List α} {i : Int} {x : α} (H : St φ (⟨Rep.row ty r, [.slice t.1 t.2.1 t.2.2], l⟩ :: Γ) h) (hx : idx l i = some x) :
    ∃ a cs, t.1 = some a ∧ (0 ≤ i ∧ i < (t.2.1 : Nat)) ∧ r.is φ cs x ∧ ∀ j v, cs[j]? = some v → cellH h (a.add (i.toNat * r.sz + j)) = some v := by
  obtain ⟨F, ⟨p, n, c, vs, e, hn, hc, hfu, ho, ha, hF⟩, h2, H⟩ := H
  have hn : l.length = n := hn
  simp only [List.cons.injEq, Value.slice.injEq, and_true] at e
  obtain ⟨e1, e2, e3⟩ := e
  obtain ⟨h0, h1, hx⟩ := idx_some hx
  obtain ⟨cs, hr, hcs⟩ := ha.at hx
  have hcells := ho.cells
  rw [e1]
  cases p with
  | none =>
    rcases ho with ⟨_, hn0, _, _⟩ | ⟨b, off, arr, hp, _⟩
    · omega
    · cases hp
  | some a =>
    refine ⟨a, cs, rfl, ⟨h0, by rw [e2]; omega⟩, hr, fun j v hv => ?_⟩
    obtain ⟨a', ha', hcell⟩ := hcells _ v (hcs j v hv)
    cases ha'
    exact hcell
theorem St.rowLen {α : Type} {ty : TypeId} {r : Ro α} {t : Slc} {l : List α} (H : St φ (⟨Rep.row ty r, [.slice t.1 t.2.1 t.2.2], l⟩ :: Γ) h) : t.2.1 = l.length := by
  obtain ⟨F, ⟨p, n, c, vs, e, hn, hc, hfu, ho, ha, hF⟩, h2, H⟩ := H
  have hn : l.length = n := hn
  simp only [List.cons.injEq, Value.slice.injEq, and_true] at e
  omega
theorem St.rowMax {α : Type} {ty : TypeId} {r : Ro α} {t : Slc} {l : List α} (H : St φ (⟨Rep.row ty r, [.slice t.1 t.2.1 t.2.2], l⟩ :: Γ) h) : l.length ≤ maxLen := by
  obtain ⟨F, ⟨p, n, c, vs, e, hn, hc, hfu, ho, ha, hF⟩, h2, H⟩ := H
  have := ho.cap
  have hn : l.length = n := hn
  omega
/-- The cells of all things of a row. -/
theorem St.all {α : Type} {ty : TypeId} {r : Ro α} {t : Slc} {l : List α} (H : St φ (⟨Rep.row ty r, [.slice t.1 t.2.1 t.2.2], l⟩ :: Γ) h) : ∃ vs, r.All φ vs l ∧ CellsAt h t.1 vs := by
  obtain ⟨F, ⟨p, n, c, vs, e, hn, hc, hfu, ho, ha, hF⟩, h2, H⟩ := H
  have hn : l.length = n := hn
  simp only [List.cons.injEq, Value.slice.injEq, and_true] at e
  rw [e.1]
  exact ⟨vs, ha, ho.cells⟩
end

/-! ## nodes over pieces -/
section
variable {P : Program} {Q : Leaf → Heap → Prop} {φ : Snap} {h : Heap} {Γ : List Chk}
theorem s_new {ty : TypeId} {vs : List Value} {k : Nat → T} (H : St φ Γ h) (hk : ∀ r h', St φ (⟨Rep.raw ty, [.pointer (some ⟨r, 0, none⟩)], vs⟩ :: Γ) h' → (k r).wp P Q h') : (T.new (.cells vs.toArray ty (0, 0)) k).wp P Q h :=
  t_new (hk _ _ (H.new vs))
theorem s_load {s : Atom} {a : Addr} {k : s.Ty → T} {x : s.Ty} {v : Value} (hc : cellH h a = some v) (hv : v = s.val x) (H : (k x).wp P Q h) : (T.load s a k).wp P Q h := t_load x (by rw [hc, hv]) H
theorem s_loadR {s : Atom} {ty : TypeId} {b j : Nat} {vs : List Value} {k : s.Ty → T} {x : s.Ty} (H : St φ (⟨Rep.raw ty, [.pointer (some ⟨b, 0, none⟩)], vs⟩ :: Γ) h) (hv : vs[j]? = some (s.val x)) (hk : (k x).wp P Q h) : (T.load s ⟨b, j, none⟩ k).wp P Q h :=
  t_load x (H.cell hv) hk
theorem s_put {ty : TypeId} {b j : Nat} {vs : List Value} {v : Value} {k : T} (H : St φ (⟨Rep.raw ty, [.pointer (some ⟨b, 0, none⟩)], vs⟩ :: Γ) h) (hp : Value.plain v = true) (hj : j < vs.length)
    (hk : ∀ h', St φ (⟨Rep.raw ty, [.pointer (some ⟨b, 0, none⟩)], vs.set j v⟩ :: Γ) h' → k.wp P Q h') : (T.store ⟨b, j, none⟩ v k).wp P Q h := by
  obtain ⟨h1, h2, h3⟩ := H.put v hj
  exact t_store hp h1 h2 (hk _ h3)
/-- A thing of one cell is put in another's place. -/
theorem s_set {α : Type} {ty : TypeId} {r : Ro α} {t : Slc} {l m : List α} {i : Int} {x : α} {v : Value} {k : T} {a : Addr} (H : St φ (⟨Rep.row ty r, [.slice t.1 t.2.1 t.2.2], l⟩ :: Γ) h) (hm : setI l i x = some m) (hr : r.is φ [v] x) (ha : t.1 = some a)
    (hk : ∀ h', St φ (⟨Rep.row ty r, [.slice t.1 t.2.1 t.2.2], m⟩ :: Γ) h' → k.wp P Q h') : (T.store (a.add (i.toNat * 1)) v k).wp P Q h := by
  obtain ⟨F, ⟨p, n, c, vs, e, hn, hc, hfu, ho, hall, hF⟩, h2, H⟩ := H
  have hn : l.length = n := hn
  simp only [List.cons.injEq, Value.slice.injEq, and_true] at e
  obtain ⟨e1, e2, e3⟩ := e
  obtain ⟨h0, h1, rfl⟩ := setI_some hm
  have hsz : r.sz = 1 := (r.len hr).symm
  rw [e1] at ha
  subst ha
  rcases ho with ⟨hp, _⟩ | ⟨b, off, arr, hp, hb, g1, g2, g3, g4⟩
  · cases hp
  · cases hp
    rw [hsz] at g1 g3
    have hlt : off + i.toNat < arr.size := by omega
    have hcell : (Addr.add ⟨b, off, none⟩ (i.toNat * 1)) = ⟨b, off + i.toNat, none⟩ := by rw [add_mk, Nat.mul_one]
    rw [hcell]
    have hb1 := setCellH_at (off := off + i.toNat) (v := v) hb
    refine t_store (r.plain hr v (by simp)) ?_ ?_ (hk _ ?_)
    · rw [cellH_of (c := arr) (t := ty) (f := (0, 0)) hb rfl]; simp; omega
    · unfold frozenH ofHeap World.frozen?; simp [hb]
    · have hs := H.sub
      have hne : ∀ k, ¬ F k → (setCellH h ⟨b, off + i.toNat, none⟩ v)[k]? = h[k]? := fun k hk => setCellH_ne fun e => hk ((hF k).2 (by simp [blk]; exact e))
      refine ⟨F, ⟨some ⟨b, off, none⟩, n, c, vs.set i.toNat v, by rw [e1, e2, e3], by simp; exact hn, hc, (fun b' off' s' e => by cases e; obtain ⟨q1, q2⟩ := hfu _ _ _ rfl; exact ⟨q1, fun arr' ty' f' harr => by rw [hb1] at harr; cases harr; rw [Array.size_setIfInBounds]; exact q2 _ _ _ hb⟩), .inr ⟨b, off, _, rfl, hb1, by simp [hsz]; omega, g2, by simp [hsz]; omega, fun j u hu => ?_⟩, ?_, hF⟩, h2, StX.heap H (fun k _ hX => hne k fun g => hX (.inr g)) fun j o ho => ?_⟩
      · rw [List.getElem?_set] at hu
        split at hu
        · rename_i hj
          subst hj
          split at hu
          · cases hu; rw [Array.getElem?_setIfInBounds]; simp; omega
          · cases hu
        · rw [Array.getElem?_setIfInBounds_ne (by omega)]; exact g4 j u hu
      · clear hk hb1 hne hm
        have : ∀ {vs : List Value} {l : List α}, r.All φ vs l → ∀ i : Nat, r.All φ (vs.set i v) (l.set i x) := by
          intro vs l hall
          induction hall with
          | nil => intro i; simp; exact .nil
          | @cons a b y l hy hb ih =>
            intro i
            have hl : a.length = 1 := by rw [r.len hy, hsz]
            match a, hl with
            | [w], _ =>
              cases i with
              | zero => exact .cons (a := [v]) hr hb
              | succ i => exact .cons (a := [w]) hy (ih i)
        exact this hall i.toNat
      · show (setCellH h _ v)[j]? = some o
        rw [hne j fun g => by rw [(h2 j g).1] at ho; cases ho]
        exact hs j o ho
/-- append -/
theorem s_append {α : Type} {st xt rt elem : TypeId} {sz : Nat} {r : Ro α} {p xp : Option Addr} {n c m xc : Nat} {l l' : List α} {ms : List α} {ws : List Value} {k : Slc → T} (A : AppT P st xt elem sz)
    (H : St φ (⟨Rep.row elem r, [.slice p n c], l⟩ :: Γ) h) (hsz : r.sz = sz) (hw : CellsAt h xp ws) (ha : r.All φ ws ms) (hm : ms.length = m) (hD : app l ms = some l')
    (hk : ∀ (t : Slc) h', St φ (⟨Rep.row elem r, [.slice t.1 t.2.1 t.2.2], l'⟩ :: Γ) h' → (k t).wp P Q h') :
    (T.sem (Builtin.append_ #[st, xt] rt #[.slice p n c, .slice xp m xc]) (.one (.atom .slice)) k).wp P Q h := by
  obtain ⟨F, ⟨p', n', c', vs, e, hn, hc, hfu, ho, hall, hF⟩, h2, H⟩ := H
  have hn : l.length = n' := hn
  simp only [List.cons.injEq, Value.slice.injEq, and_true] at e
  obtain ⟨rfl, rfl, rfl⟩ := e
  obtain ⟨hle, rfl⟩ := app_some hD
  subst hsz
  have hs := H.sub
  refine t_sem (append_wpX A ho hw (by rw [ha.length, hm]) ha.plain (by omega) fun p' c' h' o' k' n' g' => ⟨(p', n + m, c'), rfl, hk _ _ ?_⟩)
  have hFk : ∀ k, k < h.size → ¬ F k → h'[k]? = h[k]? := fun k hk hF' => k'.2 k hk fun hb => hF' ((hF k).2 hb)
  refine ⟨fun i => i ∈ blk p', ⟨p', n + m, c', vs ++ ws, rfl, by simp; omega, ?_, ?_, o', hall.append ha, fun i => Iff.rfl⟩, fun k hk => ⟨?_, fun g => g⟩, ?_⟩
  · rcases g' with ⟨_, rfl, _⟩ | ⟨_, g, _⟩
    · exact hc
    · exact g
  · intro b off s e
    rcases g' with ⟨rfl, rfl, g⟩ | ⟨rfl, _, arr, g1, g2⟩
    · subst e
      obtain ⟨q1, q2⟩ := hfu _ _ _ rfl
      refine ⟨q1, fun arr ty f harr => ?_⟩
      rcases ho with ⟨hp, _⟩ | ⟨b', off', arr', hp, hb', _⟩
      · cases hp
      · cases hp
        obtain ⟨arr2, e1, e2⟩ := g _ _ rfl _ _ hb'
        rw [e1] at harr; cases harr
        rw [e2]; exact q2 _ _ _ hb'
    · cases e
      refine ⟨rfl, fun arr' ty f harr => ?_⟩
      rw [g1] at harr; cases harr
      exact g2
  · rcases n' k hk with g | g
    · exact (h2 k ((hF k).2 g)).1
    · cases hφ : φ k with
      | none => rfl
      | some o => have := lt_of_get (hs _ _ hφ); omega
  · have H1 : StX φ h Γ (fun k => F k ∨ h.size ≤ k) := StX.more H fun k hk => by
      rcases hk with hk | hk
      · exact .inr (.inl (.inr hk))
      · exact .inl hk
    have H2 : StX φ h' Γ (fun k => F k ∨ h.size ≤ k) := StX.heap H1 (fun k hk hX => hFk k hk fun g => hX (.inl g)) fun i o ho => by
      show h'[i]? = some o
      rw [hFk i (lt_of_get (hs i o ho)) fun g => by rw [(h2 i g).1] at ho; cases ho]
      exact hs i o ho
    refine H2.less fun k hk => ?_
    rcases hk with hk | hk
    · exact hk.elim
    · exact (n' k hk).imp (fun g => (hF k).2 g) id

/-! ## calls -/
/-- What a state becomes, where nothing that was there changed but what is told. -/
theorem s_call {f : FuncId} {args : List Value} {sh : Sh} {k : sh.Ty → T} {S : Value → Heap → Prop} (hc : CallsH P f args h (Back S)) (hk : ∀ v h', S v h' → ∃ x, v = sh.val x ∧ (k x).wp P Q h') : (T.call f args sh k).wp P Q h :=
  t_callB hc hk

theorem least {p : Nat → Prop} (h : ∃ n, p n) : ∃ n, p n ∧ ∀ m, p m → n ≤ m := by
  obtain ⟨n, hn⟩ := h
  induction n using Nat.strongRecOn with
  | ind n ih =>
    by_cases hx : ∃ m, m < n ∧ p m
    · obtain ⟨m, hm, hp⟩ := hx
      exact ih m hm hp
    · refine ⟨n, hn, fun m hm => ?_⟩
      rcases Nat.lt_or_ge m n with g | g
      · exact absurd ⟨m, g, hm⟩ hx
      · exact g

/-! ## joins and loops -/
/-- Where both ways of a test come together, D tells what comes of it. -/
def meet {γ : Type} (ss : List Sh1) (M : Shs.Ty ss → Heap → γ → Prop) (g : γ) (Q : Leaf → Heap → Prop) (lf : Leaf) (h' : Heap) : Prop := match lf with
  | .out vs => ∃ y, Shs.of ss vs = some y ∧ M y h' g
  | lf => Q lf h'
theorem s_join {γ : Type} {ss : List Sh1} {x : T} {k : Shs.Ty ss → T} (M : Shs.Ty ss → Heap → γ → Prop) {g : γ} (H : x.wp P (meet ss M g Q) h) (hk : ∀ y h', M y h' g → (k y).wp P Q h') : (T.join ss x k).wp P Q h :=
  t_join' (fun y h' => M y h' g) (T.wp_mono x (fun lf h' hl => by cases lf <;> exact hl) H) hk
theorem s_out {γ : Type} {ss : List Sh1} {M : Shs.Ty ss → Heap → γ → Prop} {g : γ} {vs : List Value} (y : Shs.Ty ss) (hy : Shs.of ss vs = some y) (hM : M y h g) : (T.out vs).wp P (meet ss M g Q) h := ⟨y, hy, hM⟩
theorem meet_ret {γ : Type} {ss : List Sh1} {M : Shs.Ty ss → Heap → γ → Prop} {g : γ} {v : Value} (H : Q (.ret v) h) : meet ss M g Q (.ret v) h := H
theorem meet_brk {γ : Type} {ss : List Sh1} {M : Shs.Ty ss → Heap → γ → Prop} {g : γ} {id : Nat} {vs : List Value} (H : Q (.brk id vs) h) : meet ss M g Q (.brk id vs) h := H
/-- A block that is left. -/
def meetB {γ : Type} (id : Nat) (ss : List Sh1) (M : Shs.Ty ss → Heap → γ → Prop) (g : γ) (Q : Leaf → Heap → Prop) (lf : Leaf) (h' : Heap) : Prop := match lf with
  | .out vs => ∃ y, Shs.of ss vs = some y ∧ M y h' g
  | .brk id' vs => bif Nat.beq id' id then (∃ y, Shs.of ss vs = some y ∧ M y h' g) else Q (.brk id' vs) h'
  | lf => Q lf h'
theorem s_block {γ : Type} {id : Nat} {ss : List Sh1} {x : T} {k : Shs.Ty ss → T} (M : Shs.Ty ss → Heap → γ → Prop) {g : γ} (H : x.wp P (meetB id ss M g Q) h) (hk : ∀ y h', M y h' g → (k y).wp P Q h') : (T.block id ss x k).wp P Q h :=
  t_block' (fun y h' => M y h' g) (T.wp_mono x (fun lf h' hl => by cases lf <;> exact hl) H) hk
section
variable {γ : Type} {id : Nat} {ss : List Sh1} {M : Shs.Ty ss → Heap → γ → Prop} {g : γ}
theorem s_bout {vs : List Value} (y : Shs.Ty ss) (hy : Shs.of ss vs = some y) (hM : M y h g) : (T.out vs).wp P (meetB id ss M g Q) h := ⟨y, hy, hM⟩
theorem s_bbrk {vs : List Value} (y : Shs.Ty ss) (hy : Shs.of ss vs = some y) (hM : M y h g) : (T.brk id vs).wp P (meetB id ss M g Q) h := by
  show meetB id ss M g Q (.brk id vs) h
  unfold meetB
  have : Nat.beq id id = true := by simp
  simp only [this, cond_true]
  exact ⟨y, hy, hM⟩
theorem meetB_brk {vs : List Value} (y : Shs.Ty ss) (hy : Shs.of ss vs = some y) (hM : M y h g) : meetB id ss M g Q (.brk id vs) h := by
  unfold meetB
  have : Nat.beq id id = true := by simp
  simp only [this, cond_true]
  exact ⟨y, hy, hM⟩
theorem meetB_ret {v : Value} (H : Q (.ret v) h) : meetB id ss M g Q (.ret v) h := H
theorem meetB_other {id' : Nat} {vs : List Value} (hn : Nat.beq id' id = false) (H : Q (.brk id' vs) h) : meetB id ss M g Q (.brk id' vs) h := by
  unfold meetB
  simp only [hn, cond_false]
  exact H
end
/-- A round's end. -/
def around {σ : Type} (ss : List Sh1) (I : Shs.Ty ss → Heap → σ → Prop) (e : Option σ) (Q : Leaf → Heap → Prop) (lf : Leaf) (h' : Heap) : Prop := match lf with
  | .out vs => ∃ y s, Shs.of ss vs = some y ∧ e = some s ∧ I y h' s
  | lf => Q lf h'
def Step.go {σ β : Type} : Step σ β → Option σ
  | .next s => some s
  | .done _ => none
/-- A loop that D goes along: the state I; what holds where the loop is left is for the body's other leaves. -/
theorem s_loop {σ β : Type} {ss : List Sh1} {init : List Value} {body : Shs.Ty ss → T} {d : σ → Option (Step σ β)} {s0 : σ} {b : β} (hD : loop s0 d = some b) (I : Shs.Ty ss → Heap → σ → Prop) (y0 : Shs.Ty ss) (h0 : Shs.of ss init = some y0) (hi : I y0 h s0)
    (hr : ∀ y h s e, I y h s → d s = some e → (∀ b', e = .done b' → b' = b) → (body y).wp P (around ss I e.go Q) h) : (T.loop ss init body).wp P Q h := by
  obtain ⟨n0, hn0⟩ := loop_iff.1 hD
  classical
  let μ : Shs.Ty ss → Heap → Nat := fun y h => if hx : ∃ n s, I y h s ∧ iter d n s = some b then (least hx).choose else 0
  refine t_loop (fun y h => ∃ n s, I y h s ∧ iter d n s = some b) μ y0 h0 ⟨n0, s0, hi, hn0⟩ fun y g hx => ?_
  obtain ⟨⟨s, hI, hn⟩, hmin⟩ := (least hx).choose_spec
  have hμ : μ y g = (least hx).choose := dif_pos hx
  rw [hμ]
  generalize (least hx).choose = n at hn hmin
  cases n with
  | zero => cases hn
  | succ n =>
    simp only [iter] at hn
    cases hd : d s with
    | none => rw [hd] at hn; cases hn
    | some e =>
      rw [hd] at hn
      refine T.wp_mono _ (fun lf h' hl => ?_) (hr y g s e hI hd fun b' hb => by subst hb; exact Option.some.inj hn)
      cases lf with
      | out vs =>
        obtain ⟨y', s', hy, he, hI'⟩ := hl
        cases e with
        | done b' => cases he
        | next s'' =>
          cases he
          have hx' : ∃ n s, I y' h' s ∧ iter d n s = some b := ⟨n, _, hI', hn⟩
          refine loopQ_out y' hy hx' ?_
          have h1 : μ y' h' = (least hx').choose := dif_pos hx'
          have h2 := (least hx').choose_spec.2 n ⟨_, hI', hn⟩
          omega
      | brk id vs => exact hl
      | ret v => exact hl
      | pan c => exact hl
theorem s_next {σ : Type} {ss : List Sh1} {I : Shs.Ty ss → Heap → σ → Prop} {e : Option σ} {vs : List Value} (y : Shs.Ty ss) (s : σ) (hy : Shs.of ss vs = some y) (he : e = some s) (hI : I y h s) : (T.out vs).wp P (around ss I e Q) h := ⟨y, s, hy, he, hI⟩
theorem s_brk {id : Nat} {vs : List Value} (H : Q (.brk id vs) h) : (T.brk id vs).wp P Q h := H
theorem s_ret {v : Value} (H : Q (.ret v) h) : (T.ret v).wp P Q h := H
theorem around_brk {σ : Type} {ss : List Sh1} {I : Shs.Ty ss → Heap → σ → Prop} {e : Option σ} {id : Nat} {vs : List Value} (H : Q (.brk id vs) h) : around ss I e Q (.brk id vs) h := H
theorem around_ret {σ : Type} {ss : List Sh1} {I : Shs.Ty ss → Heap → σ → Prop} {e : Option σ} {v : Value} (H : Q (.ret v) h) : around ss I e Q (.ret v) h := H

/-- A counted loop: y.1 counts. -/
theorem forGo_loop {σ β : Type} {f : Int → σ → Option (Step σ β)} {e : Int} {r : Step σ β} : ∀ {n : Nat} {i : Int} {s : σ}, (e - i).toNat = n → forGo f n i s = some r →
    loop (i, s) (fun x => if x.1 < e then (f x.1 x.2).bind fun q => match q with | .next s' => some (.next (x.1 + 1, s')) | .done b => some (.done (Step.done b)) else some (.done (.next x.2))) = some r := by
  intro n
  induction n with
  | zero =>
    intro i s hn h
    rw [loop_eq, if_neg (by dsimp only; omega)]
    exact h
  | succ n ih =>
    intro i s hn h
    rw [loop_eq, if_pos (by dsimp only; omega)]
    simp only [forGo] at h
    dsimp only
    cases hf : f i s with
    | none => rw [hf] at h; cases h
    | some q =>
      rw [hf] at h
      cases q with
      | done b => exact h
      | next s' => exact ih (by omega) h
theorem s_forN {σ β : Type} {ss : List Sh1} {init : List Value} {body : Shs.Ty ss → T} {f : Int → σ → Option (Step σ β)} {i0 e0 : Int} {s0 : σ} {r : Step σ β} (hD : forN i0 e0 s0 f = some r) (I : Int → Shs.Ty ss → Heap → σ → Prop) (y0 : Shs.Ty ss) (h0 : Shs.of ss init = some y0) (hi : I i0 y0 h s0)
    (hr : ∀ i y h s e, I i y h s → f i s = some e → i0 ≤ i → i < e0 → IntKind.wrap .i64 (i + 1) = i + 1 → (∀ b', e = .done b' → r = .done b') → (body y).wp P (around ss (I (i + 1)) e.go Q) h)
    (hx : ∀ i y h s, I i y h s → e0 ≤ i → r = .next s → (body y).wp P (around ss (I i) (none : Option σ) Q) h) : (T.loop ss init body).wp P Q h := by
  unfold forN at hD
  split at hD
  · rename_i hg
    have hl := forGo_loop rfl hD
    refine s_loop hl (fun y h x => i0 ≤ x.1 ∧ I x.1 y h x.2) y0 h0 ⟨Int.le_refl _, hi⟩ fun y h x e ⟨hle, hI⟩ he hb => ?_
    by_cases hlt : x.1 < e0
    · rw [if_pos hlt] at he
      cases hf : f x.1 x.2 with
      | none => rw [hf] at he; cases he
      | some q =>
        rw [hf] at he
        refine T.wp_mono _ (fun lf h' hl => ?_) (hr x.1 y h x.2 q hI hf hle hlt (w64 (by omega) (by omega)) fun b' hq => ?_)
        · cases lf with
          | out vs =>
            obtain ⟨y', s', hy, hq, hI'⟩ := hl
            cases q with
            | done b' => cases hq
            | next s'' =>
              cases hq
              cases he
              exact ⟨y', _, hy, rfl, by dsimp only; omega, hI'⟩
          | brk id vs => exact hl
          | ret v => exact hl
          | pan c => exact hl
        · subst hq
          cases he
          exact (hb _ rfl).symm
    · rw [if_neg hlt] at he
      cases he
      refine T.wp_mono _ (fun lf h' hl => ?_) (hx x.1 y h x.2 hI (by omega) (hb _ rfl).symm)
      cases lf with
      | out vs => obtain ⟨y', s', hy, hq, hI'⟩ := hl; cases hq
      | brk id vs => exact hl
      | ret v => exact hl
      | pan c => exact hl
  · cases hD
theorem forGoS_go {σ : Type} {f : Int → σ → Option σ} : ∀ {n : Nat} {i : Int} {s r : σ}, forGoS f n i s = some r → forGo (β := Empty) (fun i s => (f i s).map Step.next) n i s = some (.next r) := by
  intro n
  induction n with
  | zero => intro i s r h; simp only [forGoS] at h; simp only [forGo]; cases h; rfl
  | succ n ih =>
    intro i s r h
    simp only [forGoS] at h
    simp only [forGo]
    cases hf : f i s with
    | none => rw [hf] at h; cases h
    | some s' => rw [hf] at h; exact ih h
theorem s_forS {σ : Type} {ss : List Sh1} {init : List Value} {body : Shs.Ty ss → T} {f : Int → σ → Option σ} {i0 e0 : Int} {s0 r : σ} (hD : forS i0 e0 s0 f = some r) (I : Int → Shs.Ty ss → Heap → σ → Prop) (y0 : Shs.Ty ss) (h0 : Shs.of ss init = some y0) (hi : I i0 y0 h s0)
    (hr : ∀ i y h s e, I i y h s → f i s = some e → i0 ≤ i → i < e0 → IntKind.wrap .i64 (i + 1) = i + 1 → (body y).wp P (around ss (I (i + 1)) (some e) Q) h)
    (hx : ∀ i y h, I i y h r → e0 ≤ i → (body y).wp P (around ss (I i) (none : Option σ) Q) h) : (T.loop ss init body).wp P Q h := by
  unfold forS at hD
  split at hD
  · rename_i hg
    have hD' : forN (β := Empty) i0 e0 s0 (fun i s => (f i s).map Step.next) = some (.next r) := by
      unfold forN
      rw [if_pos hg]
      exact forGoS_go hD
    refine s_forN hD' I y0 h0 hi (fun i y h s e hI he h1 h2 hw hb => ?_) fun i y h s hI he hs => ?_
    · cases hf : f i s with
      | none => rw [hf] at he; cases he
      | some s' =>
        rw [hf] at he
        cases he
        exact hr i y h s s' hI hf h1 h2 hw
    · cases hs
      exact hx i y h hI he
  · cases hD
/-! ## D along a tree -/
def need {α : Type} (p : Prop) [Decidable p] (k : Option α) : Option α := if p then k else none
theorem need_some {α : Type} {p : Prop} [Decidable p] {k : Option α} {x : α} (h : need p k = some x) : p ∧ k = some x := by
  unfold need at h
  split at h
  · exact ⟨by assumption, h⟩
  · cases h
def Step.get {σ : Type} : Step σ σ → σ
  | .next s => s
  | .done s => s
theorem s_cond {γ : Type} {b bD : Bool} {x y : T} {dx dy : Option γ} {g : γ} (hd : cond bD dx dy = some g) (e : b = bD) (hx : bD = true → dx = some g → x.wp P Q h) (hy : bD = false → dy = some g → y.wp P Q h) : (cond b x y).wp P Q h := by
  subst e
  cases b
  · exact hy rfl hd
  · exact hx rfl hd
theorem s_chk {γ : Type} {p pD : Prop} [Decidable p] [Decidable pD] {k : T} {d : Option γ} {g : γ} (hd : need pD d = some g) (e : pD → p) (hk : pD → d = some g → k.wp P Q h) : (chk p k).wp P Q h := by
  obtain ⟨h1, h2⟩ := need_some hd
  exact t_chk (e h1) (hk h1 h2)
theorem St.at1 {a b : Chk} (H : St φ (a :: b :: Γ) h) : St φ (b :: a :: Γ) h := H.perm (List.Perm.swap b a Γ)
theorem St.at2 {a b c : Chk} (H : St φ (a :: b :: c :: Γ) h) : St φ (c :: a :: b :: Γ) h := H.perm (front_perm 2 (a :: b :: c :: Γ))
theorem St.at3 {a b c d : Chk} (H : St φ (a :: b :: c :: d :: Γ) h) : St φ (d :: a :: b :: c :: Γ) h := H.perm (front_perm 3 (a :: b :: c :: d :: Γ))
theorem St.at4 {a b c d e : Chk} (H : St φ (a :: b :: c :: d :: e :: Γ) h) : St φ (e :: a :: b :: c :: d :: Γ) h := H.perm (front_perm 4 (a :: b :: c :: d :: e :: Γ))
theorem St.at5 {a b c d e f : Chk} (H : St φ (a :: b :: c :: d :: e :: f :: Γ) h) : St φ (f :: a :: b :: c :: d :: e :: Γ) h := H.perm (front_perm 5 (a :: b :: c :: d :: e :: f :: Γ))
theorem St.at6 {a b c d e f g : Chk} (H : St φ (a :: b :: c :: d :: e :: f :: g :: Γ) h) : St φ (g :: a :: b :: c :: d :: e :: f :: Γ) h := H.perm (front_perm 6 (a :: b :: c :: d :: e :: f :: g :: Γ))
theorem St.at7 {a b c d e f g i : Chk} (H : St φ (a :: b :: c :: d :: e :: f :: g :: i :: Γ) h) : St φ (i :: a :: b :: c :: d :: e :: f :: g :: Γ) h := H.perm (front_perm 7 (a :: b :: c :: d :: e :: f :: g :: i :: Γ))
theorem St.at8 {a b c d e f g i j : Chk} (H : St φ (a :: b :: c :: d :: e :: f :: g :: i :: j :: Γ) h) : St φ (j :: a :: b :: c :: d :: e :: f :: g :: i :: Γ) h := H.perm (front_perm 8 (a :: b :: c :: d :: e :: f :: g :: i :: j :: Γ))
theorem St.at9 {a b c d e f g i j k : Chk} (H : St φ (a :: b :: c :: d :: e :: f :: g :: i :: j :: k :: Γ) h) : St φ (k :: a :: b :: c :: d :: e :: f :: g :: i :: j :: Γ) h := H.perm (front_perm 9 (a :: b :: c :: d :: e :: f :: g :: i :: j :: k :: Γ))
theorem Ro.SliceIs.heap {α : Type} {r : Ro α} {t : Slc} {l : List α} (H : Ro.SliceIs r φ t l) (hs : Sub φ (snap h)) : ∃ vs, r.All φ vs l ∧ CellsAt h t.1 vs := by
  obtain ⟨_, _, _, _, vs, ha, hc⟩ := H
  exact ⟨vs, ha, hc.heap hs⟩
theorem St.rowCs {α : Type} {ty : TypeId} {r : Ro α} {cs : List Value} {l : List α} (H : St φ (⟨Rep.row ty r, cs, l⟩ :: Γ) h) : ∃ t : Slc, cs = [.slice t.1 t.2.1 t.2.2] := by
  obtain ⟨F, ⟨p, n, c, vs, e, _⟩, _⟩ := H
  exact ⟨(p, n, c), e⟩
theorem St.shape {c d : Chk} (H : St φ (c :: Γ) h) (e : c = d) : St φ (d :: Γ) h := by rw [← e]; exact H
theorem St.freezeRow {α : Type} {ty : TypeId} {r : Ro α} {t : Slc} {l : List α} (H : St φ (⟨Rep.row ty r, [.slice t.1 t.2.1 t.2.2], l⟩ :: Γ) h) : ∃ ψ, Sub φ ψ ∧ Ro.SliceIs r ψ t l ∧ St ψ Γ h := by
  obtain ⟨ψ, h1, ⟨t', e, h2⟩, h3⟩ := H.freeze (frz_row ty r)
  simp only [List.cons.injEq, Value.slice.injEq, and_true] at e
  obtain ⟨e1, e2, e3⟩ := e
  have : t = t' := by
    obtain ⟨a, b, c⟩ := t
    obtain ⟨a', b', c'⟩ := t'
    simp only at e1 e2 e3
    rw [e1, e2, e3]
  subst this
  exact ⟨ψ, h1, h2, h3⟩
theorem St.there {α : Type} {ty : TypeId} {r : Ro α} {t : Slc} {l m : List α} {i : Int} {x : α} (H : St φ (⟨Rep.row ty r, [.slice t.1 t.2.1 t.2.2], l⟩ :: Γ) h) (hm : setI l i x = some m) : ∃ a, t.1 = some a ∧ (0 ≤ i ∧ i < (t.2.1 : Nat)) := by
  obtain ⟨h0, h1, _⟩ := setI_some hm
  have hlt : i.toNat < l.length := by omega
  have : idx l i = some l[i.toNat] := by unfold idx; rw [if_pos h0]; exact List.getElem?_eq_getElem hlt
  obtain ⟨a, _, h1, h2, _⟩ := H.get this
  exact ⟨a, h1, h2⟩
theorem CellsS.at {a : Addr} {vs : List Value} (H : CellsS φ (some a) vs) (j : Nat) {v : Value} (hv : vs[j]? = some v) : cellS φ (a.add j) = some v := by
  obtain ⟨a', e, hc⟩ := H j v hv
  cases e
  exact hc
/-- Where all stays as it was. -/
theorem St.keep {h' : Heap} (H : St φ Γ h) (hs : Sub (snap h) (snap h')) : St φ Γ h' := by
  refine StX.heap H (fun k hk _ => ?_) (H.sub.trans hs)
  have h1 : snap h k = some h[k] := Array.getElem?_eq_getElem hk
  have h2 := hs _ _ h1
  show h'[k]? = h[k]?
  have h3 : h'[k]? = some h[k] := h2
  rw [h3, Array.getElem?_eq_getElem hk]
end
end Go.Eng
