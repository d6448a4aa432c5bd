/-
  THE ENGINE, PART S: what a heap holds, in pieces: snapshots that stay, pieces that a call owns; values as what they stand for.
  Conditions: none; it speaks of any program.
-/
import Derived.Test.YtkhfdckieocciaaDoorEngW
namespace Go.Eng
open Go

abbrev Slc := Option Addr × Nat × Nat
/-! ## snapshots -/
abbrev Snap := Nat → Option Obj
def snap (h : Heap) : Snap := fun i => h[i]?
def Sub (φ ψ : Snap) : Prop := ∀ i o, φ i = some o → ψ i = some o
theorem Sub.refl (φ : Snap) : Sub φ φ := fun _ _ h => h
theorem Sub.trans {a b c : Snap} (h : Sub a b) (k : Sub b c) : Sub a c := fun i o ho => k i o (h i o ho)
def cellS (φ : Snap) (a : Addr) : Option Value := match φ a.block with
  | some (.cells c _ _) => if a.spot.isSome then none else c[a.off]?
  | _ => none
theorem cellS_snap (h : Heap) (a : Addr) : cellS (snap h) a = cellH h a := rfl
theorem cellS_mono {φ ψ : Snap} (hs : Sub φ ψ) {a : Addr} {v : Value} (hc : cellS φ a = some v) : cellS ψ a = some v := by
  unfold cellS at hc ⊢
  cases hb : φ a.block with
  | none => rw [hb] at hc; cases hc
  | some o => rw [hs _ _ hb]; rw [hb] at hc; exact hc
theorem cellS_heap {φ : Snap} {h : Heap} (hs : Sub φ (snap h)) {a : Addr} {v : Value} (hc : cellS φ a = some v) : cellH h a = some v := by
  rw [← cellS_snap]; exact cellS_mono hs hc
/-- A slice's cells read so. -/
def CellsS (φ : Snap) (p : Option Addr) (vs : List Value) : Prop := ∀ i v, vs[i]? = some v → ∃ a, p = some a ∧ cellS φ (a.add i) = some v
theorem CellsS.mono {φ ψ : Snap} (hs : Sub φ ψ) {p : Option Addr} {vs : List Value} (hc : CellsS φ p vs) : CellsS ψ p vs := fun i v hv => by
  obtain ⟨a, ha, h⟩ := hc i v hv
  exact ⟨a, ha, cellS_mono hs h⟩
theorem CellsS.heap {φ : Snap} {h : Heap} (hs : Sub φ (snap h)) {p : Option Addr} {vs : List Value} (hc : CellsS φ p vs) : CellsAt h p vs := fun i v hv => by
  obtain ⟨a, ha, h⟩ := hc i v hv
  exact ⟨a, ha, cellS_heap hs h⟩

/-! ## what stays: values that stand for something, for good -/
structure Ro (α : Type) where
  sz : Nat
  is : Snap → List Value → α → Prop
  len : ∀ {φ cs x}, is φ cs x → cs.length = sz
  mono : ∀ {φ ψ cs x}, Sub φ ψ → is φ cs x → is ψ cs x
  plain : ∀ {φ cs x}, is φ cs x → ∀ v ∈ cs, Value.plain v = true
namespace Ro
def atom (a : Atom) : Ro a.Ty where
  sz := 1
  is _ cs x := cs = [a.val x]
  len h := by rw [h]; rfl
  mono _ h := h
  plain h v hv := by rw [h] at hv; simp at hv; rw [hv]; exact Atom.val_plain _ _
abbrev int (k : IntKind) : Ro Int := atom (.int k)
abbrev bool : Ro Bool := atom .bool
abbrev str : Ro ByteArray := atom .string
abbrev pt : Ro (Option Addr) := atom .pointer
def unit : Ro Unit where
  sz := 0
  is _ cs _ := cs = []
  len h := by rw [h]; rfl
  mono _ h := h
  plain h v hv := by rw [h] at hv; cases hv
def prod {α β : Type} (r : Ro α) (s : Ro β) : Ro (α × β) where
  sz := r.sz + s.sz
  is φ cs x := ∃ a b, cs = a ++ b ∧ r.is φ a x.1 ∧ s.is φ b x.2
  len h := by obtain ⟨a, b, rfl, ha, hb⟩ := h; rw [List.length_append, r.len ha, s.len hb]
  mono hs h := by obtain ⟨a, b, e, ha, hb⟩ := h; exact ⟨a, b, e, r.mono hs ha, s.mono hs hb⟩
  plain h v hv := by
    obtain ⟨a, b, rfl, ha, hb⟩ := h
    rcases List.mem_append.1 hv with h | h
    · exact r.plain ha v h
    · exact s.plain hb v h
/-- The cells of a list, one thing behind the other. -/
inductive All {α : Type} (r : Ro α) (φ : Snap) : List Value → List α → Prop where
  | nil : All r φ [] []
  | cons {a b : List Value} {x : α} {l : List α} : r.is φ a x → All r φ b l → All r φ (a ++ b) (x :: l)
theorem All.mono {α : Type} {r : Ro α} {φ ψ : Snap} (hs : Sub φ ψ) {vs : List Value} {l : List α} (h : All r φ vs l) : All r ψ vs l := by
  induction h with
  | nil => exact .nil
  | cons h _ ih => exact .cons (r.mono hs h) ih
theorem All.length {α : Type} {r : Ro α} {φ : Snap} {vs : List Value} {l : List α} (h : All r φ vs l) : vs.length = l.length * r.sz := by
  induction h with
  | nil => simp
  | cons h _ ih => rw [List.length_append, r.len h, ih, List.length_cons, Nat.add_mul, Nat.one_mul, Nat.add_comm]
theorem All.plain {α : Type} {r : Ro α} {φ : Snap} {vs : List Value} {l : List α} (h : All r φ vs l) : ∀ v ∈ vs, Value.plain v = true := by
  induction h with
  | nil => intro v hv; cases hv
  | cons h _ ih => intro v hv; rcases List.mem_append.1 hv with g | g; exact r.plain h v g; exact ih v g
theorem All.append {α : Type} {r : Ro α} {φ : Snap} {vs ws : List Value} {l m : List α} (h : All r φ vs l) (k : All r φ ws m) : All r φ (vs ++ ws) (l ++ m) := by
  induction h with
  | nil => exact k
  | cons h _ ih => rw [List.append_assoc]; exact .cons h ih
theorem All.one {α : Type} {r : Ro α} {φ : Snap} {vs : List Value} {x : α} (h : r.is φ vs x) : All r φ vs [x] := by
  have := All.cons h (.nil (r := r) (φ := φ))
  rwa [List.append_nil] at this
/-- The thing at a place, and its cells. -/
theorem All.at {α : Type} {r : Ro α} {φ : Snap} {vs : List Value} {l : List α} (h : All r φ vs l) : ∀ {i : Nat} {x : α}, l[i]? = some x → ∃ cs, r.is φ cs x ∧ ∀ j v, cs[j]? = some v → vs[i * r.sz + j]? = some v := by
  induction h with
  | nil => intro i x hx; simp at hx
  | @cons a b y l h hb ih =>
    intro i x hx
    cases i with
    | zero =>
      simp at hx
      subst hx
      refine ⟨a, h, fun j v hv => ?_⟩
      have : j < a.length := by
        rcases Nat.lt_or_ge j a.length with g | g
        · exact g
        · rw [List.getElem?_eq_none g] at hv; cases hv
      rw [Nat.zero_mul, Nat.zero_add, List.getElem?_append_left this]; exact hv
    | succ i =>
      obtain ⟨cs, h1, h2⟩ := ih (by simpa using hx)
      refine ⟨cs, h1, fun j v hv => ?_⟩
      have e : (i + 1) * r.sz + j = a.length + (i * r.sz + j) := by rw [r.len h, Nat.add_mul]; omega
      rw [e, List.getElem?_append_right (by omega), Nat.add_sub_cancel_left]
      exact h2 j v hv
theorem All.take {α : Type} {r : Ro α} {φ : Snap} {vs : List Value} {l : List α} (h : All r φ vs l) : ∀ n, All r φ (vs.take (n * r.sz)) (l.take n) := by
  induction h with
  | nil => intro n; simp; exact .nil
  | @cons a b y l h hb ih =>
    intro n
    cases n with
    | zero => simp; exact .nil
    | succ n =>
      have e : (a ++ b).take ((n + 1) * r.sz) = a ++ b.take (n * r.sz) := by
        rw [Nat.add_mul, Nat.one_mul, Nat.add_comm, ← r.len h, List.take_length_add_append]
      rw [e, List.take_succ_cons]
      exact .cons h (ih n)
theorem All.drop {α : Type} {r : Ro α} {φ : Snap} {vs : List Value} {l : List α} (h : All r φ vs l) : ∀ n, All r φ (vs.drop (n * r.sz)) (l.drop n) := by
  induction h with
  | nil => intro n; simp; exact .nil
  | @cons a b y l h hb ih =>
    intro n
    cases n with
    | zero => simp; exact .cons h hb
    | succ n =>
      have e : (a ++ b).drop ((n + 1) * r.sz) = b.drop (n * r.sz) := by
        rw [Nat.add_mul, Nat.one_mul, Nat.add_comm, ← r.len h, List.drop_append, List.drop_eq_nil_of_le (by omega), List.nil_append]
        congr 1
        omega
      rw [e, List.drop_succ_cons]
      exact ih n
/-- A slice whose cells stay. -/
def SliceIs {α : Type} (r : Ro α) (φ : Snap) (t : Slc) (l : List α) : Prop := l.length = t.2.1 ∧ t.2.1 ≤ t.2.2 ∧ t.2.2 ≤ maxLen ∧ (t.1 = none → l = []) ∧ ∃ vs, All r φ vs l ∧ CellsS φ t.1 vs
theorem SliceIs.mono {α : Type} {r : Ro α} {φ ψ : Snap} {t : Slc} {l : List α} (h : SliceIs r φ t l) (hs : Sub φ ψ) : SliceIs r ψ t l := by
  obtain ⟨h1, h2, h3, h0, vs, h4, h5⟩ := h
  exact ⟨h1, h2, h3, h0, vs, h4.mono hs, h5.mono hs⟩
def list {α : Type} (r : Ro α) : Ro (List α) where
  sz := 1
  is φ cs l := ∃ t : Slc, cs = [.slice t.1 t.2.1 t.2.2] ∧ SliceIs r φ t l
  len h := by obtain ⟨t, rfl, _⟩ := h; rfl
  mono hs h := by obtain ⟨t, e, h⟩ := h; exact ⟨t, e, h.mono hs⟩
  plain h v hv := by obtain ⟨t, rfl, _⟩ := h; simp at hv; subst hv; rfl
/-- Another thing in its place. -/
def via {α β : Type} (r : Ro α) (f : β → α) : Ro β where
  sz := r.sz
  is φ cs x := r.is φ cs (f x)
  len h := r.len h
  mono hs h := r.mono hs h
  plain h := r.plain h
/-- A pointer to what stays; nil. -/
def ptr {α : Type} (r : Ro α) : Ro (Option α) where
  sz := 1
  is φ cs x := match x with
    | none => cs = [.pointer none]
    | some x => ∃ a vs, cs = [.pointer (some a)] ∧ r.is φ vs x ∧ CellsS φ (some a) vs
  len {φ cs x} h := by
    cases x with
    | none => rw [h]; rfl
    | some x => obtain ⟨a, vs, rfl, _⟩ := h; rfl
  mono {φ ψ cs x} hs h := by
    cases x with
    | none => exact h
    | some x => obtain ⟨a, vs, e, h1, h2⟩ := h; exact ⟨a, vs, e, r.mono hs h1, h2.mono hs⟩
  plain {φ cs x} h v hv := by
    cases x with
    | none => rw [h] at hv; simp at hv; subst hv; rfl
    | some x => obtain ⟨a, vs, rfl, _⟩ := h; simp at hv; subst hv; rfl
end Ro

/-! ## what a call owns -/
abbrev Foot := Nat → Prop
structure Rep (α : Type) where
  sz : Nat
  is : Snap → Heap → Foot → List Value → α → Prop
  len : ∀ {φ h F cs x}, is φ h F cs x → cs.length = sz
  mono : ∀ {φ ψ h F cs x}, Sub φ ψ → is φ h F cs x → is ψ h F cs x
  loc : ∀ {φ h h' F cs x}, (∀ i, F i → h'[i]? = h[i]?) → is φ h F cs x → is φ h' F cs x
  lt : ∀ {φ h F cs x}, is φ h F cs x → ∀ i, F i → i < h.size
  plain : ∀ {φ h F cs x}, is φ h F cs x → ∀ v ∈ cs, Value.plain v = true

theorem lt_of_get {h : Heap} {i : Nat} {o : Obj} (ho : h[i]? = some o) : i < h.size := by
  rcases Nat.lt_or_ge i h.size with g | g
  · exact g
  · rw [Array.getElem?_eq_none g] at ho; cases ho

namespace Rep
def ro {α : Type} (r : Ro α) : Rep α where
  sz := r.sz
  is φ _ F cs x := (∀ i, ¬ F i) ∧ r.is φ cs x
  len h := r.len h.2
  mono hs h := ⟨h.1, r.mono hs h.2⟩
  loc _ h := h
  lt h i hi := (h.1 i hi).elim
  plain h := r.plain h.2
def prod {α β : Type} (r : Rep α) (s : Rep β) : Rep (α × β) where
  sz := r.sz + s.sz
  is φ h F cs x := ∃ a b A B, cs = a ++ b ∧ r.is φ h A a x.1 ∧ s.is φ h B b x.2 ∧ (∀ i, A i → B i → False) ∧ (∀ i, F i ↔ A i ∨ B i)
  len h := by obtain ⟨a, b, A, B, rfl, ha, hb, _⟩ := h; rw [List.length_append, r.len ha, s.len hb]
  mono hs h := by obtain ⟨a, b, A, B, e, ha, hb, g⟩ := h; exact ⟨a, b, A, B, e, r.mono hs ha, s.mono hs hb, g⟩
  loc hl h := by
    obtain ⟨a, b, A, B, e, ha, hb, g, gg⟩ := h
    exact ⟨a, b, A, B, e, r.loc (fun i hi => hl i ((gg i).2 (.inl hi))) ha, s.loc (fun i hi => hl i ((gg i).2 (.inr hi))) hb, g, gg⟩
  lt h i hi := by
    obtain ⟨a, b, A, B, e, ha, hb, g, gg⟩ := h
    rcases (gg i).1 hi with g | g
    · exact r.lt ha i g
    · exact s.lt hb i g
  plain h v hv := by
    obtain ⟨a, b, A, B, rfl, ha, hb, _⟩ := h
    rcases List.mem_append.1 hv with g | g
    · exact r.plain ha v g
    · exact s.plain hb v g
def via {α β : Type} (r : Rep α) (f : β → α) : Rep β where
  sz := r.sz
  is φ h F cs x := r.is φ h F cs (f x)
  len h := r.len h
  mono hs h := r.mono hs h
  loc hl h := r.loc hl h
  lt h := r.lt h
  plain h := r.plain h
/-- A row begins where its block does, and fills it. -/
def Full (sz : Nat) (h : Heap) (p : Option Addr) (c : Nat) : Prop := ∀ b off s, p = some ⟨b, off, s⟩ → off = 0 ∧ ∀ arr ty f, h[b]? = some (.cells arr ty f) → arr.size = c * sz
/-- A slice of one's own; its things stay. -/
def row {α : Type} (ty : TypeId) (r : Ro α) : Rep (List α) where
  sz := 1
  is φ h F cs l := ∃ p n c vs, cs = [.slice p n c] ∧ l.length = n ∧ c ≤ maxLen ∧ Full r.sz h p c ∧ Own r.sz ty h p n c vs ∧ r.All φ vs l ∧ (∀ i, F i ↔ i ∈ blk p)
  len h := by obtain ⟨p, n, c, vs, rfl, _⟩ := h; rfl
  mono hs h := by obtain ⟨p, n, c, vs, e, h1, h2, hf, h3, h4, h5⟩ := h; exact ⟨p, n, c, vs, e, h1, h2, hf, h3, h4.mono hs, h5⟩
  loc hl h := by
    obtain ⟨p, n, c, vs, e, h1, h2, hf, h3, h4, h5⟩ := h
    refine ⟨p, n, c, vs, e, h1, h2, ?_, ?_, h4, h5⟩
    · intro b off s hp
      obtain ⟨g1, g2⟩ := hf b off s hp
      refine ⟨g1, fun arr ty f harr => g2 arr ty f ?_⟩
      rw [← hl b ((h5 b).2 (by rw [hp]; simp [blk]))]; exact harr
    · rcases h3 with h3 | ⟨b, off, arr, rfl, hb, g⟩
      · exact .inl h3
      · exact .inr ⟨b, off, arr, rfl, by rw [hl b ((h5 b).2 (by simp [blk]))]; exact hb, g⟩
  lt h i hi := by
    obtain ⟨p, n, c, vs, e, h1, h2, hf, h3, h4, h5⟩ := h
    exact h3.old i ((h5 i).1 hi)
  plain h v hv := by obtain ⟨p, n, c, vs, rfl, _⟩ := h; simp at hv; subst hv; rfl
/-- A block of one's own: its cells. -/
def raw (ty : TypeId) : Rep (List Value) where
  sz := 1
  is _ h F cs vs := ∃ b, cs = [.pointer (some ⟨b, 0, none⟩)] ∧ h[b]? = some (.cells vs.toArray ty (0, 0)) ∧ (∀ i, F i ↔ i = b)
  len h := by obtain ⟨b, rfl, _⟩ := h; rfl
  mono _ h := h
  loc hl h := by obtain ⟨b, e, hb, hF⟩ := h; exact ⟨b, e, by rw [hl b ((hF b).2 rfl)]; exact hb, hF⟩
  lt h i hi := by obtain ⟨b, e, hb, hF⟩ := h; rw [(hF i).1 hi]; exact lt_of_get hb
  plain h v hv := by obtain ⟨b, rfl, _⟩ := h; simp at hv; subst hv; rfl
/-- A thing of one's own behind a pointer. -/
def obj {α : Type} (ty : TypeId) (R : Rep α) : Rep α where
  sz := 1
  is φ h F cs x := ∃ b vs G, cs = [.pointer (some ⟨b, 0, none⟩)] ∧ h[b]? = some (.cells vs.toArray ty (0, 0)) ∧ R.is φ h G vs x ∧ ¬ G b ∧ (∀ i, F i ↔ i = b ∨ G i)
  len h := by obtain ⟨b, vs, G, rfl, _⟩ := h; rfl
  mono hs h := by obtain ⟨b, vs, G, e, hb, hR, g⟩ := h; exact ⟨b, vs, G, e, hb, R.mono hs hR, g⟩
  loc hl h := by
    obtain ⟨b, vs, G, e, hb, hR, g, hF⟩ := h
    exact ⟨b, vs, G, e, by rw [hl b ((hF b).2 (.inl rfl))]; exact hb, R.loc (fun i hi => hl i ((hF i).2 (.inr hi))) hR, g, hF⟩
  lt h i hi := by
    obtain ⟨b, vs, G, e, hb, hR, g, hF⟩ := h
    rcases (hF i).1 hi with rfl | g
    · exact lt_of_get hb
    · exact R.lt hR i g
  plain h v hv := by obtain ⟨b, vs, G, rfl, _⟩ := h; simp at hv; subst hv; rfl
end Rep

/-! ## states -/
structure Chk where
  {α : Type}
  R : Rep α
  cs : List Value
  x : α
def Chk.on (φ : Snap) (h : Heap) (F : Foot) (c : Chk) : Prop := c.R.is φ h F c.cs c.x
/-- The pieces lie apart from one another, from what stays, and from X. -/
def StX (φ : Snap) (h : Heap) : List Chk → Foot → Prop
  | [], _ => Sub φ (snap h)
  | c :: Γ, X => ∃ F, c.on φ h F ∧ (∀ k, F k → φ k = none ∧ ¬ X k) ∧ StX φ h Γ (fun k => X k ∨ F k)
def St (φ : Snap) (Γ : List Chk) (h : Heap) : Prop := StX φ h Γ fun _ => False

theorem StX.sub {φ : Snap} {h : Heap} : ∀ {Γ : List Chk} {X : Foot}, StX φ h Γ X → Sub φ (snap h) := by
  intro Γ
  induction Γ with
  | nil => intro X H; exact H
  | cons c Γ ih => intro X ⟨F, _, _, H⟩; exact ih H
theorem StX.less {φ : Snap} {h : Heap} : ∀ {Γ : List Chk} {X Y : Foot}, StX φ h Γ X → (∀ k, Y k → X k) → StX φ h Γ Y := by
  intro Γ
  induction Γ with
  | nil => intro X Y H _; exact H
  | cons c Γ ih => intro X Y ⟨F, h1, h2, H⟩ hY; exact ⟨F, h1, fun k hk => ⟨(h2 k hk).1, fun g => (h2 k hk).2 (hY k g)⟩, ih H fun k hk => hk.imp (hY k) id⟩
/-- Whoever is not in the pieces may be put aside. -/
theorem StX.more {φ : Snap} {h : Heap} : ∀ {Γ : List Chk} {X Y : Foot}, StX φ h Γ X → (∀ k, Y k → h.size ≤ k ∨ X k ∨ φ k ≠ none) → StX φ h Γ Y := by
  intro Γ
  induction Γ with
  | nil => intro X Y H _; exact H
  | cons c Γ ih =>
    intro X Y ⟨F, h1, h2, H⟩ hY
    refine ⟨F, h1, fun k hk => ⟨(h2 k hk).1, fun g => ?_⟩, ih H fun k hk => ?_⟩
    · rcases hY k g with g | g | g
      · have := c.R.lt h1 k hk; omega
      · exact (h2 k hk).2 g
      · exact g (h2 k hk).1
    · rcases hk with hk | hk
      · rcases hY k hk with g | g | g
        · exact .inl g
        · exact .inr (.inl (.inl g))
        · exact .inr (.inr g)
      · exact .inr (.inl (.inr hk))
/-- Another heap, the same outside X. -/
theorem StX.heap {φ : Snap} {h h' : Heap} : ∀ {Γ : List Chk} {X : Foot}, StX φ h Γ X → (∀ k, k < h.size → ¬ X k → h'[k]? = h[k]?) → Sub φ (snap h') → StX φ h' Γ X := by
  intro Γ
  induction Γ with
  | nil => intro X H _ hs; exact hs
  | cons c Γ ih =>
    intro X ⟨F, h1, h2, H⟩ hh hs
    exact ⟨F, c.R.loc (fun i hi => hh i (c.R.lt h1 i hi) (h2 i hi).2) h1, h2, ih H (fun k hk hX => hh k hk fun g => hX (.inl g)) hs⟩
/-- More stays: of X, or what is new. -/
theorem StX.grow {φ ψ : Snap} {h : Heap} : ∀ {Γ : List Chk} {X : Foot}, StX φ h Γ X → Sub φ ψ → Sub ψ (snap h) → (∀ k, ψ k ≠ none → φ k = none → X k) → StX ψ h Γ X := by
  intro Γ
  induction Γ with
  | nil => intro X H _ hs _; exact hs
  | cons c Γ ih =>
    intro X ⟨F, h1, h2, H⟩ hs hs' hX
    refine ⟨F, c.R.mono hs h1, fun k hk => ⟨?_, (h2 k hk).2⟩, ih H hs hs' fun k hk hn => .inl (hX k hk hn)⟩
    cases hψ : ψ k with
    | none => rfl
    | some o => exact ((h2 k hk).2 (hX k (by rw [hψ]; simp) (h2 k hk).1)).elim
theorem St.sub {φ : Snap} {Γ : List Chk} {h : Heap} (H : St φ Γ h) : Sub φ (snap h) := StX.sub H
theorem StX.cut {φ : Snap} {h : Heap} : ∀ {Γ Δ : List Chk} {X : Foot}, StX φ h (Γ ++ Δ) X → ∃ Y : Foot, (∀ k, Y k → φ k = none ∧ ¬ X k) ∧ (∀ k, Y k → k < h.size) ∧ StX φ h Γ (fun k => X k) ∧ StX φ h Δ (fun k => X k ∨ Y k) ∧
    (∀ {φ' : Snap} {h' : Heap} {X' : Foot}, Sub φ φ' → Sub φ' (snap h') → (∀ k, Y k → h'[k]? = h[k]?) → (∀ k, Y k → φ' k = none ∧ ¬ X' k) → StX φ' h' Δ (fun k => X' k ∨ Y k) → StX φ' h' (Γ ++ Δ) X') := by
  intro Γ
  induction Γ with
  | nil =>
    intro Δ X H
    refine ⟨fun _ => False, fun k hk => hk.elim, fun k hk => hk.elim, StX.sub H, by simpa using H, fun {φ' h' X'} _ _ _ _ H' => ?_⟩
    simpa using H'
  | cons c Γ ih =>
    intro Δ X ⟨F, h1, h2, H⟩
    obtain ⟨Y, y1, y2, y3, y4, y5⟩ := ih H
    refine ⟨fun k => F k ∨ Y k, fun k hk => ?_, fun k hk => ?_, ⟨F, h1, h2, y3⟩, ?_, ?_⟩
    · rcases hk with hk | hk
      · exact h2 k hk
      · exact ⟨(y1 k hk).1, fun g => (y1 k hk).2 (.inl g)⟩
    · rcases hk with hk | hk
      · exact c.R.lt h1 k hk
      · exact y2 k hk
    · refine y4.less fun k hk => ?_
      rcases hk with hk | hk | hk
      · exact .inl (.inl hk)
      · exact .inl (.inr hk)
      · exact .inr hk
    · intro φ' h' X' hs hs' hy hX H'
      refine ⟨F, c.R.mono hs (c.R.loc (fun i hi => hy i (.inl hi)) h1), fun k hk => hX k (.inl hk), y5 hs hs' (fun k hk => hy k (.inr hk)) (fun k hk => ⟨(hX k (.inr hk)).1, fun g => ?_⟩) (H'.less fun k hk => ?_)⟩
      · rcases g with g | g
        · exact (hX k (.inr hk)).2 g
        · exact (y1 k hk).2 (.inr g)
      · rcases hk with (hk | hk) | hk
        · exact .inl hk
        · exact .inr (.inl hk)
        · exact .inr (.inr hk)

/-! ### order does not matter -/
theorem StX.swap {φ : Snap} {h : Heap} {a b : Chk} {Γ : List Chk} {X : Foot} (H : StX φ h (a :: b :: Γ) X) : StX φ h (b :: a :: Γ) X := by
  obtain ⟨A, a1, a2, B, b1, b2, H⟩ := H
  refine ⟨B, b1, fun k hk => ⟨(b2 k hk).1, fun g => (b2 k hk).2 (.inl g)⟩, A, a1, fun k hk => ⟨(a2 k hk).1, fun g => ?_⟩, H.less fun k hk => ?_⟩
  · rcases g with g | g
    · exact (a2 k hk).2 g
    · exact (b2 k g).2 (.inr hk)
  · rcases hk with (hk | hk) | hk
    · exact .inl (.inl hk)
    · exact .inr hk
    · exact .inl (.inr hk)
theorem StX.perm {φ : Snap} {h : Heap} {Γ Δ : List Chk} (p : Γ.Perm Δ) : ∀ {X : Foot}, StX φ h Γ X → StX φ h Δ X := by
  induction p with
  | nil => intro X H; exact H
  | cons c _ ih => intro X ⟨F, h1, h2, H⟩; exact ⟨F, h1, h2, ih H⟩
  | swap a b l => intro X H; exact H.swap
  | trans _ _ ih1 ih2 => intro X H; exact ih2 (ih1 H)
theorem StX.tail {φ : Snap} {h : Heap} {c : Chk} {Γ : List Chk} {X : Foot} (H : StX φ h (c :: Γ) X) : StX φ h Γ X := by
  obtain ⟨F, _, _, H⟩ := H
  exact H.less fun k hk => .inl hk
theorem St.tail {φ : Snap} {h : Heap} {c : Chk} {Γ : List Chk} (H : St φ (c :: Γ) h) : St φ Γ h := StX.tail H
theorem St.perm {φ : Snap} {h : Heap} {Γ Δ : List Chk} (H : St φ Γ h) (p : Γ.Perm Δ) : St φ Δ h := StX.perm p H
/-- The piece at a place, ahead of all others. -/
def front (i : Nat) (Γ : List Chk) : List Chk := match Γ[i]? with
  | some c => c :: Γ.eraseIdx i
  | none => Γ
theorem front_perm : ∀ (i : Nat) (Γ : List Chk), Γ.Perm (front i Γ) := by
  intro i
  induction i with
  | zero => intro Γ; cases Γ <;> exact List.Perm.refl _
  | succ i ih =>
    intro Γ
    cases Γ with
    | nil => exact List.Perm.refl _
    | cons a Γ =>
      unfold front
      simp only [List.getElem?_cons_succ, List.eraseIdx_cons_succ]
      have := ih Γ
      unfold front at this
      cases hc : Γ[i]? with
      | none => exact List.Perm.refl _
      | some c =>
        rw [hc] at this
        exact (List.Perm.cons a this).trans (List.Perm.swap c a _)
theorem St.at {φ : Snap} {h : Heap} {Γ : List Chk} (H : St φ Γ h) (i : Nat) : St φ (front i Γ) h := H.perm (front_perm i Γ)
end Go.Eng
