/-
  EngA, EngB, EngC, EngD, EngE, EngF, EngG, EngH, put together.
  Conditions: none; each part tells its own.
-/
import Derived.Calls
import Derived.Defers
import Derived.Orders
import Derived.Laws.StructEq
import Derived.Conc.LoneSelect
/-
  THE ENGINE, PART A: what a heap reads as, what a piece of the model's monad does to a heap (semWp), trees of effects (T) and what a tree promises (T.wp).
  Conditions: none; it speaks of any program.
-/
namespace Go.Eng
open Go

abbrev Heap := Array Obj
/-- A world with that heap: for naming the model's own readings of a heap. -/
def ofHeap (h : Heap) : World := { heap := h, tape := fun _ _ => 0, drawn := 0, os := default, output := #[] }
def cellH (h : Heap) (a : Addr) : Option Value := (ofHeap h).cell? a
def shapeH (h : Heap) (r : Nat) : Option (TypeId × Nat) := (ofHeap h).shape? r
def frozenH (h : Heap) (a : Addr) : Bool := (ofHeap h).frozen? a
def freezeH (h : Heap) (a : Addr) (n : Nat) : Heap := ((ofHeap h).freeze a n).heap
def setCellH (h : Heap) (a : Addr) (v : Value) : Heap := ((ofHeap h).setCell a v).heap
theorem cell?_heap (w : World) (a : Addr) : w.cell? a = cellH w.heap a := rfl
theorem shape?_heap (w : World) (r : Nat) : w.shape? r = shapeH w.heap r := rfl
theorem frozen?_heap (w : World) (a : Addr) : w.frozen? a = frozenH w.heap a := rfl
theorem freeze_heap (w : World) (a : Addr) (n : Nat) : (w.freeze a n).heap = freezeH w.heap a n := by
  unfold freezeH World.freeze
  split <;> rfl
theorem setCell_heap (w : World) (a : Addr) (v : Value) : (w.setCell a v).heap = setCellH w.heap a v := rfl

/-- All of a world but its heap and its count of draws is the same. -/
structure Same (w w' : World) : Prop where
  os : w'.os = w.os
  tape : w'.tape = w.tape
  output : w'.output = w.output
  size : w.heap.size ≤ w'.heap.size
theorem Same.refl (w : World) : Same w w := ⟨rfl, rfl, rfl, Nat.le_refl _⟩
theorem Same.trans {a b c : World} (h : Same a b) (k : Same b c) : Same a c := ⟨k.os.trans h.os, k.tape.trans h.tape, k.output.trans h.output, Nat.le_trans h.size k.size⟩
theorem Same.freeze (w : World) (a : Addr) (n : Nat) : Same w (w.freeze a n) := by
  unfold World.freeze
  split
  all_goals exact ⟨rfl, rfl, rfl, by simp⟩
theorem Same.setCell (w : World) (a : Addr) (v : Value) : Same w (w.setCell a v) := ⟨rfl, rfl, rfl, by unfold World.setCell; simp⟩
theorem Same.push (w : World) (o : Obj) : Same w { w with heap := w.heap.push o } := ⟨rfl, rfl, rfl, by simp⟩
theorem Same.setObj (w : World) (r : Nat) (o : Obj) : Same w { w with heap := w.heap.setIfInBounds r o } := ⟨rfl, rfl, rfl, by simp⟩

def Value.plain : Value → Bool
  | .agg _ | .tuple _ => false
  | _ => true

/-- What a piece of the model's monad promises on a heap, whatever the tape says: it comes to a value (K) or to Go's panic (X). -/
def semWp (P : Program) {α : Type} : Sem α → (α → Heap → Prop) → (Value → Heap → Prop) → Heap → Prop
  | .pure a, K, _, h => K a h
  | .load _ a k, K, X, h => ∃ v, cellH h a = some v ∧ semWp P (k v) K X h
  | .store _ a v k, K, X, h => Value.plain v = true ∧ (cellH h a).isSome = true ∧ frozenH h a = false ∧ semWp P k K X (setCellH h a v)
  | .new o k, K, X, h => semWp P (k h.size) K X (h.push o)
  | .shape r k, K, X, h => semWp P (k (shapeH h r)) K X h
  | .freeze a n k, K, X, h => semWp P k K X (freezeH h a n)
  | .frozen a k, K, X, h => semWp P (k (frozenH h a)) K X h
  | .getObj r k, K, X, h => ∃ o, h[r]? = some o ∧ (∀ c e f, o ≠ .cells c e f) ∧ semWp P (k o) K X h
  | .setObj r o k, K, X, h => (∃ o', h[r]? = some o' ∧ (∀ c e f, o' ≠ .cells c e f)) ∧ semWp P k K X (h.setIfInBounds r o)
  | .choose q k, K, X, h => if q.forced = true then semWp P (k 0) K X h else ∀ t, semWp P (k (q.cut t)) K X h
  | .sys _ _, _, _, _ => False
  | .program k, K, X, h => semWp P (k P) K X h
  | .mark _ k, K, X, h => semWp P k K X h
  | .halt (.panic v), _, X, h => X v h
  | .halt _, _, _, _ => False

theorem semWp_run {P : Program} {α : Type} (s : Sem α) : ∀ {K : α → Heap → Prop} {X : Value → Heap → Prop} (w : World), semWp P s K X w.heap →
    (∃ a w', s.run P w = .ok a w' ∧ Same w w' ∧ K a w'.heap) ∨ (∃ v w', s.run P w = .halt (.panic v) w' ∧ Same w w' ∧ X v w'.heap) := by
  induction s with
  | pure a => intro K X w h; exact .inl ⟨a, w, rfl, .refl w, h⟩
  | load m a k ih =>
    intro K X w h
    obtain ⟨v, hv, hk⟩ := h
    have : w.cell? a = some v := hv
    simp only [Sem.run, this]
    exact ih v w hk
  | store m a v k ih =>
    intro K X w h
    obtain ⟨hp, hs, hf, hk⟩ := h
    obtain ⟨x, hx⟩ := Option.isSome_iff_exists.1 hs
    have hx' : w.cell? a = some x := hx
    have hf' : w.frozen? a = false := hf
    have key : Sem.run P (.store m a v k) w = k.run P (w.setCell a v) := by
      cases v <;> simp_all [Value.plain, Sem.run]
    rw [key]
    rcases ih (w.setCell a v) hk with ⟨b, w', h1, h2, h3⟩ | ⟨b, w', h1, h2, h3⟩
    · exact .inl ⟨b, w', h1, (Same.setCell w a v).trans h2, h3⟩
    · exact .inr ⟨b, w', h1, (Same.setCell w a v).trans h2, h3⟩
  | new o k ih =>
    intro K X w h
    simp only [Sem.run]
    rcases ih w.heap.size { w with heap := w.heap.push o } h with ⟨b, w', h1, h2, h3⟩ | ⟨b, w', h1, h2, h3⟩
    · exact .inl ⟨b, w', h1, (Same.push w o).trans h2, h3⟩
    · exact .inr ⟨b, w', h1, (Same.push w o).trans h2, h3⟩
  | shape r k ih => intro K X w h; simp only [Sem.run]; exact ih _ w h
  | freeze a n k ih =>
    intro K X w h
    simp only [Sem.run]
    rcases ih (w.freeze a n) (by rw [freeze_heap]; exact h) with ⟨b, w', h1, h2, h3⟩ | ⟨b, w', h1, h2, h3⟩
    · exact .inl ⟨b, w', h1, (Same.freeze w a n).trans h2, h3⟩
    · exact .inr ⟨b, w', h1, (Same.freeze w a n).trans h2, h3⟩
  | frozen a k ih => intro K X w h; simp only [Sem.run]; exact ih _ w h
  | getObj r k ih =>
    intro K X w h
    obtain ⟨o, ho, hn, hk⟩ := h
    have key : Sem.run P (.getObj r k) w = (k o).run P w := by
      cases o <;> simp_all [Sem.run]
    rw [key]
    exact ih o w hk
  | setObj r o k ih =>
    intro K X w h
    obtain ⟨⟨o', ho, hn⟩, hk⟩ := h
    have key : Sem.run P (.setObj r o k) w = k.run P { w with heap := w.heap.setIfInBounds r o } := by
      cases o' <;> simp_all [Sem.run]
    rw [key]
    rcases ih { w with heap := w.heap.setIfInBounds r o } hk with ⟨b, w', h1, h2, h3⟩ | ⟨b, w', h1, h2, h3⟩
    · exact .inl ⟨b, w', h1, (Same.setObj w r o).trans h2, h3⟩
    · exact .inr ⟨b, w', h1, (Same.setObj w r o).trans h2, h3⟩
  | choose q k ih =>
    intro K X w h
    simp only [semWp] at h
    simp only [Sem.run]
    split at h
    · rename_i hq; simp only [hq, if_true]; exact ih _ w h
    · rename_i hq
      simp only [hq]
      rcases ih (q.cut (w.tape w.drawn q)) { w with drawn := w.drawn + 1 } (h _) with ⟨b, w', h1, h2, h3⟩ | ⟨b, w', h1, h2, h3⟩
      · exact .inl ⟨b, w', h1, ⟨h2.os, h2.tape, h2.output, h2.size⟩, h3⟩
      · exact .inr ⟨b, w', h1, ⟨h2.os, h2.tape, h2.output, h2.size⟩, h3⟩
  | sys c k ih => intro K X w h; exact h.elim
  | program k ih => intro K X w h; simp only [Sem.run]; exact ih _ w h
  | mark m k ih => intro K X w h; simp only [Sem.run]; exact ih w h
  | halt x =>
    intro K X w h
    cases x <;> first | exact h.elim | exact .inr ⟨_, w, rfl, .refl w, h⟩

theorem semWp_mono {P : Program} {α : Type} (s : Sem α) : ∀ {K K' : α → Heap → Prop} {X X' : Value → Heap → Prop} {h : Heap},
    (∀ a h, K a h → K' a h) → (∀ a h, X a h → X' a h) → semWp P s K X h → semWp P s K' X' h := by
  induction s with
  | pure a => intro K K' X X' h hK hX H; exact hK _ _ H
  | load m a k ih => intro K K' X X' h hK hX ⟨v, hv, H⟩; exact ⟨v, hv, ih v hK hX H⟩
  | store m a v k ih => intro K K' X X' h hK hX ⟨a, b, c, H⟩; exact ⟨a, b, c, ih hK hX H⟩
  | new o k ih => intro K K' X X' h hK hX H; exact ih _ hK hX H
  | shape r k ih => intro K K' X X' h hK hX H; exact ih _ hK hX H
  | freeze a n k ih => intro K K' X X' h hK hX H; exact ih hK hX H
  | frozen a k ih => intro K K' X X' h hK hX H; exact ih _ hK hX H
  | getObj r k ih => intro K K' X X' h hK hX ⟨o, a, b, H⟩; exact ⟨o, a, b, ih o hK hX H⟩
  | setObj r o k ih => intro K K' X X' h hK hX ⟨a, H⟩; exact ⟨a, ih hK hX H⟩
  | choose q k ih =>
    intro K K' X X' h hK hX H
    simp only [semWp] at H ⊢
    split at H
    · rename_i hq; simp only [hq, if_true]; exact ih _ hK hX H
    · rename_i hq; simp only [hq]; exact fun t => ih _ hK hX (H t)
  | sys c k ih => intro K K' X X' h hK hX H; exact H
  | program k ih => intro K K' X X' h hK hX H; exact ih _ hK hX H
  | mark m k ih => intro K K' X X' h hK hX H; exact ih hK hX H
  | halt x => intro K K' X X' h hK hX H; cases x <;> first | exact H | exact hX _ _ H

theorem semWp_bind {P : Program} {α β : Type} (s : Sem α) (f : α → Sem β) : ∀ {K : β → Heap → Prop} {X : Value → Heap → Prop} {h : Heap},
    semWp P s (fun a h' => semWp P (f a) K X h') X h → semWp P (s.bind f) K X h := by
  induction s with
  | pure a => intro K X h H; exact H
  | load m a k ih => intro K X h ⟨v, hv, H⟩; exact ⟨v, hv, ih v H⟩
  | store m a v k ih => intro K X h ⟨a, b, c, H⟩; exact ⟨a, b, c, ih H⟩
  | new o k ih => intro K X h H; exact ih _ H
  | shape r k ih => intro K X h H; exact ih _ H
  | freeze a n k ih => intro K X h H; exact ih H
  | frozen a k ih => intro K X h H; exact ih _ H
  | getObj r k ih => intro K X h ⟨o, a, b, H⟩; exact ⟨o, a, b, ih o H⟩
  | setObj r o k ih => intro K X h ⟨a, H⟩; exact ⟨a, ih H⟩
  | choose q k ih =>
    intro K X h H
    simp only [semWp, Sem.bind] at H ⊢
    split at H
    · rename_i hq; simp only [hq, if_true]; exact ih _ H
    · rename_i hq; simp only [hq]; exact fun t => ih _ (H t)
  | sys c k ih => intro K X h H; exact H
  | program k ih => intro K X h H; exact ih _ H
  | mark m k ih => intro K X h H; exact ih H
  | halt x => intro K X h H; cases x <;> exact H

/-! ## shapes -/
inductive Atom where
  | int (k : IntKind) | bool | string | pointer | slice | map | chan | func | iface
  deriving DecidableEq, Inhabited
abbrev Atom.Ty : Atom → Type
  | .int _ => Int
  | .bool => Bool
  | .string => ByteArray
  | .pointer => Option Addr
  | .slice => Option Addr × Nat × Nat
  | .map => Option Nat
  | .chan => Option Nat
  | .func => Option (Fn × Array Value × Array Value)
  | .iface => Option (TypeId × Value)
def Atom.val : (a : Atom) → a.Ty → Value
  | .int k, n => .int k n
  | .bool, b => .bool b
  | .string, s => .string s
  | .pointer, p => .pointer p
  | .slice, x => .slice x.1 x.2.1 x.2.2
  | .map, r => .map r
  | .chan, r => .chan r
  | .func, none => .nilFunc
  | .func, some x => .func x.1 x.2.1 x.2.2
  | .iface, none => .nilIface
  | .iface, some x => .iface x.1 x.2
def Atom.of : (a : Atom) → Value → Option a.Ty
  | .int k, .int k' n => if k' = k then some n else none
  | .bool, .bool b => some b
  | .string, .string s => some s
  | .pointer, .pointer p => some p
  | .slice, .slice p n c => some (p, n, c)
  | .map, .map r => some r
  | .chan, .chan r => some r
  | .func, .nilFunc => some none
  | .func, .func f a b => some (some (f, a, b))
  | .iface, .nilIface => some none
  | .iface, .iface t v => some (some (t, v))
  | _, _ => none
theorem Atom.of_val : ∀ (a : Atom) (v : Value) (x : a.Ty), a.of v = some x → v = a.val x := by
  intro a v x h
  cases a <;> cases v <;> simp only [Atom.of] at h <;> first
    | (split at h <;> simp_all [Atom.val]; done)
    | (cases h <;> rfl)
theorem Atom.val_plain (a : Atom) (x : a.Ty) : Value.plain (a.val x) = true := by
  cases a <;> first | rfl | (cases x <;> rfl)

abbrev Atoms.Ty : List Atom → Type
  | [] => Unit
  | a :: r => a.Ty × Atoms.Ty r
def Atoms.vals : (l : List Atom) → Atoms.Ty l → List Value
  | [], _ => []
  | a :: r, x => a.val x.1 :: Atoms.vals r x.2
def Atoms.of : (l : List Atom) → List Value → Option (Atoms.Ty l)
  | [], [] => some ()
  | a :: r, v :: vs => match a.of v, Atoms.of r vs with
    | some x, some y => some (x, y)
    | _, _ => none
  | _, _ => none
theorem Atoms.of_vals : ∀ (l : List Atom) (vs : List Value) (x : Atoms.Ty l), Atoms.of l vs = some x → vs = Atoms.vals l x := by
  intro l
  induction l with
  | nil => intro vs x h; cases vs <;> simp_all [Atoms.of, Atoms.vals]
  | cons a r ih =>
    intro vs x h
    cases vs with
    | nil => simp [Atoms.of] at h
    | cons v vs =>
      simp only [Atoms.of] at h
      split at h
      · rename_i x1 y1 h1 h2
        cases h
        rw [Atom.of_val a v x1 h1, ih vs y1 h2]
        rfl
      · cases h

/-- The shape of a value: one cell, or a row of cells. -/
inductive Sh1 where
  | atom (a : Atom)
  | agg (l : List Atom)
  deriving Inhabited
abbrev Sh1.Ty : Sh1 → Type
  | .atom a => a.Ty
  | .agg l => Atoms.Ty l
def Sh1.val : (s : Sh1) → s.Ty → Value
  | .atom a, x => a.val x
  | .agg l, x => .agg (Atoms.vals l x).toArray
def Sh1.of : (s : Sh1) → Value → Option s.Ty
  | .atom a, v => a.of v
  | .agg l, .agg cs => Atoms.of l cs.toList
  | .agg _, _ => none
theorem Sh1.of_val (s : Sh1) (v : Value) (x : s.Ty) (h : s.of v = some x) : v = s.val x := by
  cases s with
  | atom a => exact Atom.of_val a v x h
  | agg l =>
    cases v <;> simp only [Sh1.of] at h <;> first | cases h | skip
    rename_i cs
    have := Atoms.of_vals l cs.toList x h
    simp only [Sh1.val, ← this]

abbrev Shs.Ty : List Sh1 → Type
  | [] => Unit
  | s :: r => s.Ty × Shs.Ty r
def Shs.vals : (l : List Sh1) → Shs.Ty l → List Value
  | [], _ => []
  | a :: r, x => a.val x.1 :: Shs.vals r x.2
def Shs.of : (l : List Sh1) → List Value → Option (Shs.Ty l)
  | [], [] => some ()
  | a :: r, v :: vs => match a.of v, Shs.of r vs with
    | some x, some y => some (x, y)
    | _, _ => none
  | _, _ => none
theorem Shs.of_vals : ∀ (l : List Sh1) (vs : List Value) (x : Shs.Ty l), Shs.of l vs = some x → vs = Shs.vals l x := by
  intro l
  induction l with
  | nil => intro vs x h; cases vs <;> simp_all [Shs.of, Shs.vals]
  | cons a r ih =>
    intro vs x h
    cases vs with
    | nil => simp [Shs.of] at h
    | cons v vs =>
      simp only [Shs.of] at h
      split at h
      · rename_i x1 y1 h1 h2
        cases h
        rw [Sh1.of_val a v x1 h1, ih vs y1 h2]
        rfl
      · cases h

/-- The shape of a call's result. -/
inductive Sh where
  | one (s : Sh1)
  | tuple (l : List Sh1)
  deriving Inhabited
abbrev Sh.Ty : Sh → Type
  | .one s => s.Ty
  | .tuple l => Shs.Ty l
def Sh.val : (s : Sh) → s.Ty → Value
  | .one s, x => s.val x
  | .tuple l, x => .tuple (Shs.vals l x).toArray

/-! ## trees -/
inductive Leaf where
  | out (vs : List Value)
  | brk (id : Nat) (vs : List Value)
  | ret (v : Value)
  | pan (chain : List PanicEntry)

/-- What a function does, without its temporaries: effects, and what comes behind. -/
inductive T : Type 1 where
  | out (vs : List Value)
  | brk (id : Nat) (vs : List Value)
  | ret (v : Value)
  | pan (v : Value)
  | stuck
  | load (s : Atom) (a : Addr) (k : s.Ty → T)
  | store (a : Addr) (v : Value) (k : T)
  | new (o : Obj) (k : Nat → T)
  | sem (s : Sem Value) (sh : Sh) (k : sh.Ty → T)
  | call (f : FuncId) (args : List Value) (sh : Sh) (k : sh.Ty → T)
  | still (a : Addr) (v : Value) (k : T)
  | both (x y : T)
  | join (ss : List Sh1) (x : T) (k : Shs.Ty ss → T)
  | block (id : Nat) (ss : List Sh1) (x : T) (k : Shs.Ty ss → T)
  | loop (ss : List Sh1) (init : List Value) (body : Shs.Ty ss → T)
  | sel (c : Nat) (send : Option Value) (zero : Value) (k : Int → Bool → Value → T)
  | later (f : FuncId) (args : List Value) (x k : T)
  | must (p : Prop) (k : T)

/-- A nil pointer is ruled out. -/
def deref (p : Option Addr) (k : Addr → T) : T := match p with
  | some a => k a
  | none => .stuck
/-- A condition that must hold. -/
abbrev chk (p : Prop) [Decidable p] (k : T) : T := .must p k

/-- How a call ends. -/
inductive Fin where
  | ret (v : Value)
  | pan (chain : List PanicEntry)

def CallsH (P : Program) (f : FuncId) (args : List Value) (h : Heap) (R : Fin → Heap → Prop) : Prop :=
  ∀ w, w.heap = h → Calls P f args.toArray w fun e w' => Same w w' ∧ match e with
    | .returned v => R (.ret v) w'.heap
    | .panicked chain => R (.pan chain) w'.heap
    | .outgrown => False

theorem CallsH.mono {P : Program} {f : FuncId} {args : List Value} {h : Heap} {R R' : Fin → Heap → Prop} (H : CallsH P f args h R)
    (hr : ∀ e h', R e h' → R' e h') : CallsH P f args h R' := fun w hw => (H w hw).mono fun e w' hw' => ⟨hw'.1, by
  have h2 := hw'.2
  cases e <;> first | exact hr _ _ h2 | exact h2⟩

/-- A deferred call, made while its function leaves in the mode u. -/
def CallsDH (P : Program) (f : FuncId) (args : List Value) (u : FrameMode) (h : Heap) (R : Fin → FrameMode → Heap → Prop) : Prop :=
  ∀ w, w.heap = h → CallsD P f args.toArray u w fun e u' w' => Same w w' ∧ match e with
    | .returned v => R (.ret v) u' w'.heap
    | .panicked chain => R (.pan chain) u' w'.heap
    | .outgrown => False
theorem CallsDH.mono {P : Program} {f : FuncId} {args : List Value} {u : FrameMode} {h : Heap} {R R' : Fin → FrameMode → Heap → Prop} (H : CallsDH P f args u h R)
    (hr : ∀ e u' h', R e u' h' → R' e u' h') : CallsDH P f args u h R' := fun w hw => (H w hw).mono fun e u' w' hw' => ⟨hw'.1, by
  have h2 := hw'.2
  cases e <;> first | exact hr _ _ _ h2 | exact h2⟩

/-- A select of one case with a default. -/
def selWp (c : Nat) (send : Option Value) (zero : Value) (k : Int → Bool → Value → Heap → Prop) (h : Heap) : Prop :=
  ∃ cap buf s r, h[c]? = some (.chan cap buf false s r false) ∧ match send with
    | some v => if buf.size < cap then k 0 false zero (h.setIfInBounds c (.chan cap (buf.push v) false (s + 1) r false)) else k (-1) false zero h
    | none => if 0 < buf.size then k 0 true (buf.getD 0 undef) (h.setIfInBounds c (.chan cap (buf.extract 1 buf.size) false s (r + 1) false)) else k (-1) false zero h

/-- What a tree promises. -/
def T.wp (P : Program) : T → (Leaf → Heap → Prop) → Heap → Prop
  | .out vs, Q, h => Q (.out vs) h
  | .brk id vs, Q, h => Q (.brk id vs) h
  | .ret v, Q, h => Q (.ret v) h
  | .pan v, Q, h => Q (.pan [{ v, recovered := false }]) h
  | .stuck, _, _ => False
  | .load s a k, Q, h => ∃ x : s.Ty, cellH h a = some (s.val x) ∧ (k x).wp P Q h
  | .store a v k, Q, h => Value.plain v = true ∧ (cellH h a).isSome = true ∧ frozenH h a = false ∧ k.wp P Q (setCellH h a v)
  | .new o k, Q, h => (k h.size).wp P Q (h.push o)
  | .sem s sh k, Q, h => semWp P s (fun v h' => ∃ x : sh.Ty, v = sh.val x ∧ (k x).wp P Q h') (fun v h' => Q (.pan [{ v, recovered := false }]) h') h
  | .call f args sh k, Q, h => CallsH P f args h fun e h' => match e with
      | .ret v => ∃ x : sh.Ty, v = sh.val x ∧ (k x).wp P Q h'
      | .pan chain => Q (.pan chain) h'
  | .still a v k, Q, h => cellH h a = some v ∧ k.wp P Q h
  | .both x y, Q, h => x.wp P Q h ∧ y.wp P Q h
  | .join ss x k, Q, h => x.wp P (fun lf h' => match lf with
      | .out vs => (match Shs.of ss vs with
          | some y => (k y).wp P Q h'
          | none => False)
      | lf => Q lf h') h
  | .block id ss x k, Q, h => x.wp P (fun lf h' => match lf with
      | .out vs => (match Shs.of ss vs with
          | some y => (k y).wp P Q h'
          | none => False)
      | .brk id' vs => bif Nat.beq id' id then (match Shs.of ss vs with
          | some y => (k y).wp P Q h'
          | none => False) else Q (.brk id' vs) h'
      | lf => Q lf h') h
  | .loop ss init body, Q, h => ∃ (I : Shs.Ty ss → Heap → Prop) (μ : Shs.Ty ss → Heap → Nat),
      (∃ y, Shs.of ss init = some y ∧ I y h) ∧
      ∀ y h, I y h → (body y).wp P (fun lf h' => match lf with
        | .out vs => (match Shs.of ss vs with
            | some y' => I y' h' ∧ μ y' h' < μ y h
            | none => False)
        | lf => Q lf h') h
  | .sel c send zero k, Q, h => selWp c send zero (fun i ok v h' => (k i ok v).wp P Q h') h
  | .must p k, Q, h => p ∧ k.wp P Q h
  | .later f args x k, Q, h => x.wp P (fun lf h' => match lf with
      | .ret _ => CallsDH P f args .returning h' fun e u h'' => match e with
          | .ret _ => settle u = .returning ∧ k.wp P Q h''
          | .pan _ => False
      | .pan chain => CallsDH P f args (.panicking chain) h' fun e u h'' => match e with
          | .ret _ => (match settle u with
              | .returning => k.wp P Q h''
              | .panicking c => Q (.pan c) h''
              | .run => False)
          | .pan _ => False
      | _ => False) h

theorem T.wp_mono {P : Program} (t : T) : ∀ {Q Q' : Leaf → Heap → Prop} {h : Heap}, (∀ l h, Q l h → Q' l h) → t.wp P Q h → t.wp P Q' h := by
  induction t with
  | out vs => intro Q Q' h hq H; exact hq _ _ H
  | brk id vs => intro Q Q' h hq H; exact hq _ _ H
  | ret v => intro Q Q' h hq H; exact hq _ _ H
  | pan v => intro Q Q' h hq H; exact hq _ _ H
  | stuck => intro Q Q' h hq H; exact H
  | load s a k ih => intro Q Q' h hq ⟨x, hx, H⟩; exact ⟨x, hx, ih x hq H⟩
  | store a v k ih => intro Q Q' h hq ⟨a, b, c, H⟩; exact ⟨a, b, c, ih hq H⟩
  | new o k ih => intro Q Q' h hq H; exact ih _ hq H
  | sem s sh k ih => intro Q Q' h hq H; exact semWp_mono s (fun v h' ⟨x, hx, hk⟩ => ⟨x, hx, ih x hq hk⟩) (fun v h' hk => hq _ _ hk) H
  | call f args sh k ih =>
    intro Q Q' h hq H
    simp only [T.wp] at H ⊢
    refine CallsH.mono H fun e h' he => ?_
    cases e with
    | ret v => obtain ⟨x, hx, hk⟩ := he; exact ⟨x, hx, ih x hq hk⟩
    | pan c => exact hq _ _ he
  | still a v k ih => intro Q Q' h hq ⟨x, H⟩; exact ⟨x, ih hq H⟩
  | both x y ihx ihy => intro Q Q' h hq ⟨a, b⟩; exact ⟨ihx hq a, ihy hq b⟩
  | join ss x k ihx ihk =>
    intro Q Q' h hq H
    simp only [T.wp] at H ⊢
    refine ihx (fun lf h' hl => ?_) H
    cases lf with
    | out vs =>
      dsimp only at hl ⊢
      split at hl
      · exact ihk _ hq hl
      · exact hl
    | brk id vs => exact hq _ _ hl
    | ret v => exact hq _ _ hl
    | pan v => exact hq _ _ hl
  | block id ss x k ihx ihk =>
    intro Q Q' h hq H
    simp only [T.wp] at H ⊢
    refine ihx (fun lf h' hl => ?_) H
    cases lf with
    | out vs =>
      dsimp only at hl ⊢
      split at hl
      · exact ihk _ hq hl
      · exact hl
    | brk id' vs =>
      dsimp only at hl ⊢
      cases hb : Nat.beq id' id with
      | true =>
        simp only [hb, cond_true] at hl ⊢
        split at hl
        · exact ihk _ hq hl
        · exact hl
      | false => simp only [hb, cond_false] at hl ⊢; exact hq _ _ hl
    | ret v => exact hq _ _ hl
    | pan v => exact hq _ _ hl
  | loop ss init body ih =>
    intro Q Q' h hq ⟨I, μ, h0, hr⟩
    refine ⟨I, μ, h0, fun y h hI => ih y (fun lf h' hl => ?_) (hr y h hI)⟩
    cases lf with
    | out vs => exact hl
    | brk id vs => exact hq _ _ hl
    | ret v => exact hq _ _ hl
    | pan v => exact hq _ _ hl
  | sel c send zero k ih =>
    intro Q Q' h hq H
    obtain ⟨cap, buf, s, r, hc, H⟩ := H
    refine ⟨cap, buf, s, r, hc, ?_⟩
    cases send with
    | none =>
      by_cases hh : 0 < buf.size
      · simp only [if_pos hh] at H ⊢; exact ih _ _ _ hq H
      · simp only [if_neg hh] at H ⊢; exact ih _ _ _ hq H
    | some v =>
      by_cases hh : buf.size < cap
      · simp only [if_pos hh] at H ⊢; exact ih _ _ _ hq H
      · simp only [if_neg hh] at H ⊢; exact ih _ _ _ hq H
  | must p k ih => intro Q Q' h hq H; exact ⟨H.1, ih hq H.2⟩
  | later f args x k ihx ihk =>
    intro Q Q' h hq H
    simp only [T.wp] at H ⊢
    refine ihx (fun lf h' hl => ?_) H
    cases lf with
    | out vs => exact hl
    | brk id vs => exact hl
    | ret v =>
      exact CallsDH.mono hl fun e u h'' he => by
        cases e with
        | ret v => exact ⟨he.1, ihk hq he.2⟩
        | pan c => exact he
    | pan chain =>
      exact CallsDH.mono hl fun e u h'' he => by
        cases e with
        | ret v =>
          dsimp only at he ⊢
          generalize settle u = m at he ⊢
          cases m with
          | run => exact he
          | returning => exact ihk hq he
          | panicking c => exact hq _ _ he
        | pan c => exact he
end Go.Eng

/-
  THE ENGINE, PART B: the tree of one operation, and that it promises what the model's own operation does.
  Conditions: none; it speaks of any program.
-/
namespace Go.Eng
open Go

/-! ## the model's monad as a tree, where nothing is asked of a symbol -/
/- 'q': only what is quiet is let by: nothing is made, nothing written, nobody called. -/
def denSem (q : Bool) (P : Program) {α : Type} : Sem α → (α → T) → T
  | .pure a, k => k a
  | .program f, k => denSem q P (f P) k
  | .new o f, k => bif q then .stuck else .new o fun r => denSem q P (f r) k
  | .store _ a v f, k => bif q then .stuck else .store a v (denSem q P f k)
  | .mark _ f, k => denSem q P f k
  | .halt (.panic v), _ => bif q then .stuck else .pan v
  | _, _ => .stuck

theorem denSem_ok {q : Bool} {P : Program} {α : Type} (s : Sem α) : ∀ {k : α → T} {Q : Leaf → Heap → Prop} {h : Heap}, (denSem q P s k).wp P Q h →
    semWp P s (fun a h' => (k a).wp P Q h') (fun v h' => Q (.pan [{ v, recovered := false }]) h') h := by
  induction s with
  | pure a => intro k Q h H; exact H
  | load m a k ih => intro k Q h H; exact H.elim
  | store m a v k ih =>
    intro k Q h H
    cases q with
    | true => exact H.elim
    | false => exact ⟨H.1, H.2.1, H.2.2.1, ih H.2.2.2⟩
  | new o k ih =>
    intro k Q h H
    cases q with
    | true => exact H.elim
    | false => exact ih _ H
  | shape r k ih => intro k Q h H; exact H.elim
  | freeze a n k ih => intro k Q h H; exact H.elim
  | frozen a k ih => intro k Q h H; exact H.elim
  | getObj r k ih => intro k Q h H; exact H.elim
  | setObj r o k ih => intro k Q h H; exact H.elim
  | choose q k ih => intro k Q h H; exact H.elim
  | sys c k ih => intro k Q h H; exact H.elim
  | program k ih => intro k Q h H; exact ih _ H
  | mark m k ih => intro k Q h H; exact ih H
  | halt x => intro k Q h H; cases q <;> cases x <;> first | exact H | exact H.elim

/-! ## shapes out of a type's zero value -/
def atomOf : Value → Atom
  | .int k _ => .int k
  | .bool _ => .bool
  | .string _ => .string
  | .pointer _ => .pointer
  | .slice _ _ _ => .slice
  | .map _ => .map
  | .chan _ => .chan
  | .func _ _ _ => .func
  | .nilFunc => .func
  | _ => .iface
def sh1Of : Value → Sh1
  | .agg cs => .agg (cs.toList.map atomOf)
  | v => .atom (atomOf v)
def shOf : Value → Sh
  | .tuple vs => .tuple (vs.toList.map sh1Of)
  | v => .one (sh1Of v)
def zeroOf (P : Program) (t : TypeId) : Value := ((P.info? t).bind (·.zero)).getD .nilIface
def resSh (P : Program) (fn : Func) : Sh := match fn.resultTypes.toList with
  | [t] => .one (sh1Of (zeroOf P t))
  | ts => .tuple (ts.map fun t => sh1Of (zeroOf P t))

/-! ## one operation -/
/-- A loaded row of cells. -/
def loadsT : List Atom → Addr → Nat → Array Value → (Array Value → T) → T
  | [], _, _, acc, k => k acc
  | s :: r, a, i, acc, k => .load s (a.add i) fun x => loadsT r a (i + 1) (acc.push (s.val x)) k

def isAggD : TypeDesc → Bool
  | .struct _ | .array _ _ => true
  | _ => false
def denLoad (P : Program) (t : TypeId) (a : Addr) (k : Value → T) : T :=
  match P.underlying t, P.info? t with
  | some d, some i =>
    match isAggD d, sh1Of (i.zero.getD .nilIface) with
    | true, .agg l => if l.length = i.size then loadsT l a 0 #[] fun cs => k (.agg cs) else .stuck
    | false, .atom s => .load s a fun x => k (s.val x)
    | _, _ => .stuck
  | _, _ => .stuck

/-- Any other operation that yields a value: the model's own, its result's shape by its type. -/
def semR (q : Bool) (s : Sem Value) (sh : Sh) (k : sh.Ty → T) : T := bif q then .stuck else .sem s sh k
def semT (q : Bool) (P : Program) (s : Sem Value) (t : TypeId) (k : Value → T) : T :=
  semR q s (shOf (zeroOf P t)) fun x => k ((shOf (zeroOf P t)).val x)
def semU (q : Bool) (s : Sem Unit) (k : Value → T) : T :=
  semR q (s.bind fun _ => .pure undef) (.tuple []) fun _ => k undef

def byteAt (s : ByteArray) (i : Nat) : UInt8 := s.data.toList.getD i 0

/-- Two structs of plain cells, field by field. -/
def leafEq (P : Program) (t : TypeId) : Value → Value → Option Bool
  | .int j m, .int j' n => match P.underlying t with
    | some (.int _) => if j = j' then some (m == n) else none
    | _ => none
  | .string m, .string n => match P.underlying t with
    | some .string => some (m == n)
    | _ => none
  | .bool m, .bool n => match P.underlying t with
    | some .bool => some (m == n)
    | _ => none
  | _, _ => none
def fieldsEq (P : Program) (xs ys : Array Value) : List Field → Option Bool
  | [] => some true
  | f :: fs => if f.name = "_" then none else match xs[f.offset]?, ys[f.offset]? with
    | some a, some b => match leafEq P f.type a b, fieldsEq P xs ys fs with
      | some r, some r' => some (r && r')
      | _, _ => none
    | _, _ => none
/-- A struct inside a struct. -/
def nestEq (P : Program) (t : TypeId) (xs ys : Array Value) (i : Nat) : Option Bool := match P.underlying t, P.info? t, P.stoodInHeld t with
  | some (.struct gs), some inf, false => fieldsEq P (xs.extract i (i + inf.size)) (ys.extract i (i + inf.size)) gs.toList
  | _, _, _ => none
def fieldEq (P : Program) (f : Field) (xs ys : Array Value) : Option Bool := match xs[f.offset]?, ys[f.offset]? with
  | some a, some b => match leafEq P f.type a b with
    | some r => some r
    | none => nestEq P f.type xs ys f.offset
  | _, _ => none
def fieldsEq2 (P : Program) (xs ys : Array Value) : List Field → Option Bool
  | [] => some true
  | f :: fs => if f.name = "_" then none else match fieldEq P f xs ys, fieldsEq2 P xs ys fs with
    | some r, some r' => some (r && r')
    | _, _ => none
def aggEq (P : Program) (t : TypeId) (xs ys : Array Value) (k : Bool → T) (old : T) : T := match P.underlying t with
  | some (.struct fs) => match P.eqGuardType P.depth t || P.stoodInHeld t, fieldsEq2 P xs ys fs.toList with
    | false, some r => k r
    | _, _ => old
  | _ => old
def denBin (q : Bool) (P : Program) (op : BinOp) (t : TypeId) (x y : Operand) (a b : Value) (k : Value → T) : T :=
  match op, a, b with
  | .add, .int j m, .int j' n => if j = j' then k (.int j (j.wrap (m + n))) else .stuck
  | .sub, .int j m, .int j' n => if j = j' then k (.int j (j.wrap (m - n))) else .stuck
  | .mul, .int j m, .int j' n => if j = j' then k (.int j (j.wrap (m * n))) else .stuck
  | .quo, .int j m, .int j' n => if j = j' then chk (n ≠ 0) (k (.int j (j.wrap (m.tdiv n)))) else .stuck
  | .rem, .int j m, .int j' n => if j = j' then chk (n ≠ 0) (k (.int j (m.tmod n))) else .stuck
  | .shl, .int j m, .int _ n => chk (0 ≤ n) (k (.int j (j.wrap (m * 2 ^ (min n.toNat j.bits)))))
  | .shr, .int j m, .int _ n => chk (0 ≤ n) (k (.int j (m.fdiv (2 ^ (min n.toNat j.bits)))))
  | .eql, .int j m, .int j' n => if j = j' then k (.bool (m == n)) else .stuck
  | .neq, .int j m, .int j' n => if j = j' then k (.bool (m != n)) else .stuck
  | .lss, .int j m, .int j' n => if j = j' then k (.bool (m < n)) else .stuck
  | .leq, .int j m, .int j' n => if j = j' then k (.bool (m ≤ n)) else .stuck
  | .gtr, .int j m, .int j' n => if j = j' then k (.bool (m > n)) else .stuck
  | .geq, .int j m, .int j' n => if j = j' then k (.bool (m ≥ n)) else .stuck
  | .add, .string m, .string n => chk (((m.size + n.size : Nat) : Int) ≤ IntKind.i64.max) (k (.string (m ++ n)))
  | .eql, .string m, .string n => k (.bool (m.toList == n.toList))
  | .neq, .string m, .string n => k (.bool !(m.toList == n.toList))
  | .eql, .pointer p, .pointer none => denSem q P (underlying t) fun | .pointer _ => k (.bool p.isNone) | _ => .stuck
  | .neq, .pointer p, .pointer none => denSem q P (underlying t) fun | .pointer _ => k (.bool !p.isNone) | _ => .stuck
  | .eql, .slice p _ _, .slice none _ _ => denSem q P (underlying t) fun | .slice _ => k (.bool p.isNone) | _ => .stuck
  | .neq, .slice p _ _, .slice none _ _ => denSem q P (underlying t) fun | .slice _ => k (.bool !p.isNone) | _ => .stuck
  | .eql, .bool m, .bool n => denSem q P (underlying t) fun | .bool => k (.bool (m == n)) | _ => .stuck
  | .neq, .bool m, .bool n => denSem q P (underlying t) fun | .bool => k (.bool !(m == n)) | _ => .stuck
  | .eql, .agg a, .agg b => aggEq P t a b (fun r => k (.bool r)) (semR q (do eqGuard .eql t x y (.agg a) (.agg b); binOp .eql t (.agg a) (.agg b)) (.one (.atom .bool)) fun r => k (.bool r))
  | .neq, .agg a, .agg b => aggEq P t a b (fun r => k (.bool !r)) (semR q (do eqGuard .neq t x y (.agg a) (.agg b); binOp .neq t (.agg a) (.agg b)) (.one (.atom .bool)) fun r => k (.bool r))
  | .eql, a, b => semR q (do eqGuard .eql t x y a b; binOp .eql t a b) (.one (.atom .bool)) fun r => k (.bool r)
  | .neq, a, b => semR q (do eqGuard .neq t x y a b; binOp .neq t a b) (.one (.atom .bool)) fun r => k (.bool r)
  | op, a, b => denSem q P (do eqGuard op t x y a b; binOp op t a b) k

/-- The bounds of 's[lo:hi]'. -/
def bound (d : Int) : Option Value → Option Int
  | none => some d
  | some (.int _ n) => some n
  | _ => none
def denSlice (q : Bool) (P : Program) (t : TypeId) (x : Value) (lo hi mx : Option Value) (k : Value → T) : T :=
  match mx, P.underlying t, x with
  | none, some .string, .string s => match bound 0 lo, bound s.size hi with
    | some l, some h => chk (0 ≤ l ∧ l ≤ h ∧ h ≤ s.size) (k (.string (s.extract l.toNat h.toNat)))
    | _, _ => .stuck
  | none, some (.slice e), .slice p n c => match bound 0 lo, bound n hi, P.info? e with
    | some l, some h, some i => chk (0 ≤ l ∧ l ≤ h ∧ h ≤ c) (k (.slice (if c = l.toNat then p else p.map (·.add (l.toNat * i.size))) (h.toNat - l.toNat) (c - l.toNat)))
    | _, _, _ => .stuck
  | _, _, _ => semT q P (Instr.sliceAt t x lo hi mx) t k

/-- A function value is called. -/
def callV (q : Bool) (P : Program) (f : Value) (args : Array Value) (k : Value → T) : T := match f with
  | .func (.func g) first cap => match P.funcs[g]? with
    | some fn => match fn.name == "runtime.NumGoroutine", fn.body.isNone with
      | false, false => bif q then .stuck else .call g ((first ++ args) ++ cap).toList (resSh P fn) fun x => k ((resSh P fn).val x)
      | _, _ => .stuck
    | none => .stuck
  | _ => .stuck

def denCall (q : Bool) (P : Program) (ρ : Operand → Value) (c : Call) (t : TypeId) (k : Value → T) : T :=
  match c.callee with
  | .builtin b =>
    let args := c.args.map ρ
    match b with
    | .len => match c.argTypes.toList, args.toList with
      | at0 :: _, x :: _ => match P.underlying at0, x with
        | some .string, .string s => k (goInt s.size)
        | some (.slice _), .slice _ n _ => k (goInt n)
        | some (.array n _), _ => k (goInt n)
        | _, _ => semT q P (Builtin.len_ c.argTypes t args) t k
      | _, _ => .stuck
    | .cap => match c.argTypes.toList, args.toList with
      | at0 :: _, x :: _ => match P.underlying at0, x with
        | some (.slice _), .slice _ _ n => k (goInt n)
        | _, _ => semT q P (Builtin.cap_ c.argTypes t args) t k
      | _, _ => .stuck
    | .max => denSem q P (Builtin.max_ c.argTypes t args) k
    | .min => denSem q P (Builtin.min_ c.argTypes t args) k
    | .append => semT q P (Builtin.append_ c.argTypes t args) t k
    | .copy => semR q (Builtin.copy_ c.argTypes t args) (.one (.atom (.int .i64))) fun n => k (.int .i64 n)
    | .delete => semR q (Builtin.delete_ c.argTypes t args) (.tuple []) fun _ => k undef
    | .clear => semR q (Builtin.clear_ c.argTypes t args) (.tuple []) fun _ => k undef
    | _ => .stuck
  | .value f => callV q P (ρ f) (c.args.map ρ) k
  | _ => .stuck

def denOp (q : Bool) (P : Program) (ρ : Operand → Value) (o : Oper) (k : Value → T) : T :=
  match o.op with
  | .move x | .assign x => k (ρ x)
  | .pick c a b => match ρ c with
    | .bool t => cond t (k (ρ a)) (k (ρ b))
    | _ => .stuck
  | .load t a => match ρ a with
    | .pointer p => deref p fun a => denLoad P t a k
    | _ => .stuck
  | .nilCheck x => match ρ x with
    | .pointer p => deref p fun a => k (.pointer (some a))
    | .func (.func f) a b => k (.func (.func f) a b)
    | .iface t v => k (.iface t v)
    | _ => .stuck
  | .binOp op t x y _ => denBin q P op t x y (ρ x) (ρ y) k
  | .slice t x lo hi mx => denSlice q P t (ρ x) (lo.map ρ) (hi.map ρ) (mx.map ρ) k
  | .index t x ix => match P.underlying t, ρ x, ρ ix with
    | some .string, .string s, .int _ i => chk (0 ≤ i ∧ i < s.size) (k (.int .u8 (byteAt s i.toNat).toNat))
    | _, x, ix => denSem q P (Instr.index t x ix) k
  | .indexAddr t x ix => match P.underlying t, ρ x, ρ ix with
    | some (.slice e), .slice p n _, .int _ i => match P.info? e with
      | some info => deref p fun a => chk (0 ≤ i ∧ i < n) (k (.pointer (some (a.add (i.toNat * info.size)))))
      | none => .stuck
    | some (.array n e), .pointer (some a), .int _ i => match P.info? e with
      | some info => chk (0 ≤ i ∧ i < n) (k (.pointer (some (a.add (i.toNat * info.size)))))
      | none => .stuck
    | _, _, _ => .stuck
  | .call c => denCall q P ρ c o.type k
  | .alloc elem => denSem q P (Instr.alloc elem true (.tuple #[])) k
  | .box elem x => denSem q P (Instr.box elem (ρ x)) k
  | .build t parts => denSem q P (Instr.build t (parts.map fun (i, x) => (i, ρ x))) k
  | .buildSlice t len parts => denSem q P (Instr.buildSlice t len (parts.map fun (i, x) => (i, ρ x))) k
  | .store t a x => match ρ a with
    | .pointer p => deref p fun a => denSem q P (Instr.storeAt t (.pointer (some a)) (ρ x)) fun _ => k undef
    | v => denSem q P (Instr.storeAt t v (ρ x)) fun _ => k undef
  | .unOp op _ x => denSem q P (Op.unary op (ρ x)) k
  | .convert src dst x => match P.underlying src, P.underlying dst with
    | some (.int _), some (.int _) => denSem q P (convert src dst (ρ x)) k
    | some .string, some .string => denSem q P (convert src dst (ρ x)) k
    | _, _ => semT q P (convert src dst (ρ x)) dst k
  | .makeInterface t x => denSem q P (Instr.makeInterface t (ρ x)) k
  | .makeFunc fn first captured => k (.func fn (first.map ρ) (captured.map ρ))
  | .makeMap t r => denSem q P (Instr.makeMap t (r.map ρ)) k
  | .makeChan t s => semT q P (Instr.makeChan t (ρ s)) t k
  | .makeSlice t l c => semT q P (Instr.makeSlice t (ρ l) (ρ c)) t k
  | .fieldAddr s x f => match ρ x with
    | .pointer p => deref p fun a => denSem q P (Instr.fieldAt s (.pointer (some a)) f) k
    | v => denSem q P (Instr.fieldAt s v f) k
  | .field t x f => denSem q P (Instr.field t (ρ x) f) k
  | .extract t ix => denSem q P (Instr.extract (ρ t) ix) k
  | .lookup t x ix ok => semT q P (Instr.lookup t (ρ x) (ρ ix) ok) o.type k
  | .mapUpdate t m key x | .insert t m key x => semU q (Instr.mapUpdate t (ρ m) (ρ key) (ρ x)) k
  | .range t x => semR q (Instr.range t (ρ x)) (.one (.atom .pointer)) fun p => k (.pointer p)
  | .next it isString => semR q (Instr.next (ρ it) isString o.type) (shOf (zeroOf P o.type)) fun x => k ((shOf (zeroOf P o.type)).val x)
  | .typeAssert x xt at_ ok => semT q P (Instr.typeAssert (ρ x) xt at_ ok) o.type k
  | .panic x => denSem q P (Instr.panic (ρ x)) k
  | _ => .stuck

/-! ## that it promises what the operation does -/
def NextK (q : Bool) (P : Program) (k : Value → T) (Q : Leaf → Heap → Prop) : Next → Heap → Prop
  | .value v, h => (k v).wp P Q h
  | .skip, h => (k undef).wp P Q h
  | .enter f args, h => q = false ∧ CallsH P f args.toList h fun e h' => match e with
    | .ret v => (k v).wp P Q h'
    | .pan c => Q (.pan c) h'
  | _, _ => False
def OpOk (q : Bool) (P : Program) (s : Sem Next) (k : Value → T) (Q : Leaf → Heap → Prop) (h : Heap) : Prop :=
  semWp P s (NextK q P k Q) (fun v h' => Q (.pan [{ v, recovered := false }]) h') h

section
variable {q : Bool} {P : Program} {ρ : Operand → Value} {k : Value → T} {Q : Leaf → Heap → Prop} {h : Heap}

theorem ok_v {s : Sem Value} (H : semWp P s (fun v h' => (k v).wp P Q h') (fun v h' => Q (.pan [{ v, recovered := false }]) h') h) :
    OpOk q P (do pure (.value (← s))) k Q h := semWp_bind s _ H
theorem ok_u {s : Sem Unit} (H : semWp P s (fun _ h' => (k undef).wp P Q h') (fun v h' => Q (.pan [{ v, recovered := false }]) h') h) :
    OpOk q P (do s; pure .skip) k Q h := semWp_bind s _ H
theorem ok_pure {v : Value} (H : (k v).wp P Q h) : OpOk q P (pure (.value v)) k Q h := H

theorem deref_ok {p : Option Addr} {f : Addr → T} (H : (deref p f).wp P Q h) : ∃ a, p = some a ∧ (f a).wp P Q h := by
  cases p with
  | none => exact H.elim
  | some a => exact ⟨a, rfl, H⟩
theorem chk_ok {p : Prop} [Decidable p] {t : T} (H : (chk p t).wp P Q h) : p ∧ t.wp P Q h := by
  exact H

theorem sem_ok {s : Sem Value} {sh : Sh} {f : sh.Ty → T} (H : (semR q s sh f).wp P Q h) :
    semWp P s (fun v h' => ∃ x : sh.Ty, v = sh.val x ∧ (f x).wp P Q h') (fun v h' => Q (.pan [{ v, recovered := false }]) h') h := by
  cases q with
  | true => exact H.elim
  | false =>
    simp only [semR, cond_false] at H
    simpa only [T.wp] using H
theorem semT_ok {s : Sem Value} {t : TypeId} (H : (semT q P s t k).wp P Q h) :
    semWp P s (fun v h' => (k v).wp P Q h') (fun v h' => Q (.pan [{ v, recovered := false }]) h') h :=
  semWp_mono s (fun _ _ ⟨_, hx, hk⟩ => hx ▸ hk) (fun _ _ hx => hx) (sem_ok H)

theorem bind_pure_unit (s : Sem Unit) : ∀ {K : Value → Heap → Prop} {X : Value → Heap → Prop} {h : Heap}, semWp P (s.bind fun _ => .pure undef) K X h →
    semWp P s (fun _ h' => K undef h') X h := by
  induction s with
  | pure a => intro K X h H; exact H
  | load m a k ih => intro K X h ⟨v, hv, H⟩; exact ⟨v, hv, ih v H⟩
  | store m a v k ih => intro K X h ⟨a, b, c, H⟩; exact ⟨a, b, c, ih H⟩
  | new o k ih => intro K X h H; exact ih _ H
  | shape r k ih => intro K X h H; exact ih _ H
  | freeze a n k ih => intro K X h H; exact ih H
  | frozen a k ih => intro K X h H; exact ih _ H
  | getObj r k ih => intro K X h ⟨o, a, b, H⟩; exact ⟨o, a, b, ih o H⟩
  | setObj r o k ih => intro K X h ⟨a, H⟩; exact ⟨a, ih H⟩
  | choose q k ih =>
    intro K X h H
    simp only [semWp, Sem.bind] at H ⊢
    split at H
    · rename_i hq; simp only [hq, if_true]; exact ih _ H
    · rename_i hq; simp only [hq]; exact fun t => ih _ (H t)
  | sys c k ih => intro K X h H; exact H
  | program k ih => intro K X h H; exact ih _ H
  | mark m k ih => intro K X h H; exact ih H
  | halt x => intro K X h H; cases x <;> exact H
theorem semU_ok {s : Sem Unit} (H : (semU q s k).wp P Q h) :
    semWp P s (fun _ h' => (k undef).wp P Q h') (fun v h' => Q (.pan [{ v, recovered := false }]) h') h :=
  semWp_mono s (fun _ _ ⟨_, _, hk⟩ => hk) (fun _ _ hx => hx) (bind_pure_unit s (sem_ok H))

theorem loadsT_ok (l : List Atom) : ∀ (a : Addr) (i : Nat) (acc : Array Value) {f : Array Value → T}, (loadsT l a i acc f).wp P Q h →
    semWp P (loadCellsFrom a i l.length acc) (fun cs h' => h' = h ∧ (f cs).wp P Q h') (fun _ _ => False) h := by
  induction l with
  | nil => intro a i acc f H; exact ⟨rfl, H⟩
  | cons s r ih =>
    intro a i acc f H
    obtain ⟨x, hx, H⟩ := H
    exact ⟨s.val x, hx, ih a (i + 1) (acc.push (s.val x)) H⟩

theorem underlying_run {t : TypeId} {d : TypeDesc} (hd : P.underlying t = some d) {α : Type} {f : TypeDesc → Sem α} {K : α → Heap → Prop} {X : Value → Heap → Prop}
    (H : semWp P (f d) K X h) : semWp P (do let d ← underlying t; f d) K X h := by
  show semWp P (Sem.bind (underlying t) f) K X h
  simp only [underlying, program, bind, Sem.bind, semWp, hd, pure]
  exact H
theorem typeInfo_run {t : TypeId} {i : TypeInfo} (hi : P.info? t = some i) {α : Type} {f : TypeInfo → Sem α} {K : α → Heap → Prop} {X : Value → Heap → Prop}
    (H : semWp P (f i) K X h) : semWp P (do let i ← typeInfo t; f i) K X h := by
  show semWp P (Sem.bind (typeInfo t) f) K X h
  simp only [typeInfo, program, bind, Sem.bind, semWp, hi, pure]
  exact H

theorem isAgg_run {t : TypeId} {d : TypeDesc} (hd : P.underlying t = some d) {α : Type} {f : Bool → Sem α} {K : α → Heap → Prop} {X : Value → Heap → Prop}
    (H : semWp P (f (isAggD d)) K X h) : semWp P (do let b ← isAgg t; f b) K X h := by
  show semWp P (Sem.bind (isAgg t) f) K X h
  simp only [isAgg, underlying, program, bind, Sem.bind, semWp, hd, pure]
  cases d <;> exact H
theorem sizeOf_run {t : TypeId} {i : TypeInfo} (hi : P.info? t = some i) {α : Type} {f : Nat → Sem α} {K : α → Heap → Prop} {X : Value → Heap → Prop}
    (H : semWp P (f i.size) K X h) : semWp P (do let n ← Go.sizeOf t; f n) K X h := by
  show semWp P (Sem.bind (Go.sizeOf t) f) K X h
  simp only [Go.sizeOf, typeInfo, program, bind, Sem.bind, semWp, hi, pure]
  exact H

theorem denLoad_ok {t : TypeId} {a : Addr} (H : (denLoad P t a k).wp P Q h) :
    semWp P (loadVar t a) (fun v h' => h' = h ∧ (k v).wp P Q h') (fun _ _ => False) h := by
  unfold denLoad at H
  split at H
  · rename_i d i hd hi
    split at H
    · rename_i l hag hsh
      split at H
      · rename_i hlen
        unfold loadVar
        refine isAgg_run hd ?_
        rw [hag]
        simp only [if_true]
        refine sizeOf_run hi ?_
        rw [← hlen]
        show semWp P (Sem.bind (loadCellsFrom a 0 l.length #[]) _) _ _ _
        refine semWp_bind _ _ (semWp_mono _ (fun cs h' hc => ?_) (fun _ _ x => x) (loadsT_ok l a 0 #[] H))
        exact ⟨hc.1, hc.2⟩
      · exact H.elim
    · rename_i s hag hsh
      unfold loadVar
      refine isAgg_run hd ?_
      rw [hag]
      obtain ⟨x, hx, H⟩ := H
      exact ⟨_, hx, rfl, H⟩
    · exact H.elim
  · exact H.elim
end
end Go.Eng

/-
  THE ENGINE, PART C: the tree of one operation promises what the model's own operation does.
  Conditions: none; it speaks of any program.
-/
namespace Go.Eng
open Go

section
variable {q : Bool} {P : Program} {ρ : Operand → Value} {k : Value → T} {Q : Leaf → Heap → Prop} {h : Heap}

def BinOk (P : Program) (op : BinOp) (t : TypeId) (x y : Operand) (a b : Value) (k : Value → T) (Q : Leaf → Heap → Prop) (h : Heap) : Prop :=
  semWp P (do eqGuard op t x y a b; binOp op t a b) (fun v h' => (k v).wp P Q h') (fun v h' => Q (.pan [{ v, recovered := false }]) h') h

theorem int_bin {op : BinOp} {t : TypeId} {x y : Operand} {j : IntKind} {m n : Int} {s : Sem Value} (he : op ≠ .shl) (he' : op ≠ .shr) (hs : (match op with
    | .add | .sub | .mul => Op.intArith op j m n
    | .quo | .rem => Op.intDiv op j m n
    | .and | .or | .xor | .andNot => Op.intBits op j m n
    | _ => Op.intCmp op m n) = s)
    (H : semWp P s (fun v h' => (k v).wp P Q h') (fun v h' => Q (.pan [{ v, recovered := false }]) h') h) : BinOk P op t x y (.int j m) (.int j n) k Q h := by
  subst hs
  unfold BinOk
  cases op <;> first | exact absurd rfl he | exact absurd rfl he' | (simpa [eqGuard, binOp, bind, Sem.bind, semWp, pure] using H)

theorem ite_ok {p : Prop} [Decidable p] {t : T} (H : (if p then t else T.stuck).wp P Q h) : p ∧ t.wp P Q h := by
  by_cases hp : p
  · rw [if_pos hp] at H; exact ⟨hp, H⟩
  · rw [if_neg hp] at H; exact H.elim
theorem under_ok {t : TypeId} {f : TypeDesc → T} (H : (denSem q P (underlying t) f).wp P Q h) : ∃ d, P.underlying t = some d ∧ (f d).wp P Q h := by
  simp only [underlying, program, bind, Sem.bind, denSem] at H
  cases hd : P.underlying t with
  | none => rw [hd] at H; exact H.elim
  | some d => rw [hd] at H; exact ⟨d, rfl, H⟩

theorem shl_ok {t : TypeId} {x y : Operand} {j j' : IntKind} {m n : Int} (hn : 0 ≤ n) (H : (k (.int j (j.wrap (m * 2 ^ (min n.toNat j.bits))))).wp P Q h) :
    BinOk P .shl t x y (.int j m) (.int j' n) k Q h := by
  show semWp P (Op.shift .shl j m j' n) _ _ h
  unfold Op.shift
  rw [if_neg (show ¬ n < 0 by omega)]
  exact H
theorem shr_ok {t : TypeId} {x y : Operand} {j j' : IntKind} {m n : Int} (hn : 0 ≤ n) (H : (k (.int j (m.fdiv (2 ^ (min n.toNat j.bits))))).wp P Q h) :
    BinOk P .shr t x y (.int j m) (.int j' n) k Q h := by
  show semWp P (Op.shift .shr j m j' n) _ _ h
  unfold Op.shift
  rw [if_neg (show ¬ n < 0 by omega)]
  exact H
theorem sadd_ok {t : TypeId} {x y : Operand} {m n : ByteArray} (hn : ((m.size + n.size : Nat) : Int) ≤ IntKind.i64.max) (H : (k (.string (m ++ n))).wp P Q h) :
    BinOk P .add t x y (.string m) (.string n) k Q h := by
  show semWp P (Op.stringOp .add m n) _ _ h
  simp only [Op.stringOp]
  rw [if_neg (show ¬ ((m.size + n.size : Nat) : Int) > IntKind.i64.max by omega)]
  exact H
theorem eql_of {t : TypeId} {x y : Operand} {a b : Value} {r : Bool} (hg : eqGuard .eql t x y a b = pure ()) (hb : binOp .eql t a b = (do pure (.bool (← Op.equal t a b))))
    (he : ∀ K X, K r h → semWp P (Op.equal t a b) K X h) (H : (k (.bool r)).wp P Q h) : BinOk P .eql t x y a b k Q h := by
  unfold BinOk
  rw [hg, hb]
  exact semWp_bind (Op.equal t a b) _ (he _ _ H)
theorem neq_of {t : TypeId} {x y : Operand} {a b : Value} {r : Bool} (hg : eqGuard .neq t x y a b = pure ()) (hb : binOp .neq t a b = (do pure (.bool (!(← Op.equal t a b)))))
    (he : ∀ K X, K r h → semWp P (Op.equal t a b) K X h) (H : (k (.bool !r)).wp P Q h) : BinOk P .neq t x y a b k Q h := by
  unfold BinOk
  rw [hg, hb]
  exact semWp_bind (Op.equal t a b) _ (he _ _ H)
theorem equal_ptr {t e : TypeId} (hd : P.underlying t = some (.pointer e)) (p : Option Addr) (K : Bool → Heap → Prop) (X : Value → Heap → Prop) (H : K p.isNone h) :
    semWp P (Op.equal t (.pointer p) (.pointer none)) K X h := by
  show semWp P (Op.equalIn (9999 + 1) t _ _) K X h
  rw [Op.equalIn]
  refine underlying_run hd ?_
  cases p <;> exact H
theorem equal_slice {t e : TypeId} (hd : P.underlying t = some (.slice e)) (p : Option Addr) (n c : Nat) (n' c' : Nat) (K : Bool → Heap → Prop) (X : Value → Heap → Prop) (H : K p.isNone h) :
    semWp P (Op.equal t (.slice p n c) (.slice none n' c')) K X h := by
  show semWp P (Op.equalIn (9999 + 1) t _ _) K X h
  rw [Op.equalIn]
  refine underlying_run hd ?_
  cases p <;> exact H
theorem equal_bool {t : TypeId} (hd : P.underlying t = some .bool) (a b : Bool) (K : Bool → Heap → Prop) (X : Value → Heap → Prop) (H : K (a == b) h) :
    semWp P (Op.equal t (.bool a) (.bool b)) K X h := by
  show semWp P (Op.equalIn (9999 + 1) t _ _) K X h
  rw [Op.equalIn]
  refine underlying_run hd ?_
  exact H

theorem leafEq_ok {d : Nat} {t : TypeId} {a b : Value} {r : Bool} (hl : leafEq P t a b = some r) (K : Bool → Heap → Prop) (X : Value → Heap → Prop) (H : K r h) : semWp P (Op.equalIn (d + 1) t a b) K X h := by
  unfold leafEq at hl
  split at hl
  · split at hl
    · rename_i hu
      split at hl
      · rename_i hj
        cases hl
        subst hj
        rw [Op.equalIn]
        refine underlying_run hu ?_
        simp only [if_true]
        exact H
      · cases hl
    · cases hl
  · split at hl
    · rename_i hu
      cases hl
      rw [Op.equalIn]
      exact underlying_run hu H
    · cases hl
  · split at hl
    · rename_i hu
      cases hl
      rw [Op.equalIn]
      exact underlying_run hu H
    · cases hl
  · cases hl
theorem leafPart {t : TypeId} {a b : Value} {r : Bool} (hl : leafEq P t a b = some r) {xs : Array Value} {i : Nat} {v : Value} (hv : xs[i]? = some v) {K : Value → Heap → Prop} {X : Value → Heap → Prop} (H : K v h) : semWp P (part t xs i) K X h := by
  have key : ∀ d, P.underlying t = some d → isAggD d = false → semWp P (part t xs i) K X h := fun d hu hd => by
    unfold part isAgg
    simp only [bind, Sem.bind, underlying, program, semWp, hu]
    cases d <;> first | (cases hd; done) | (simp only [hv]; exact H)
  unfold leafEq at hl
  split at hl
  · split at hl
    · rename_i hu; exact key _ hu rfl
    · cases hl
  · split at hl
    · rename_i hu; exact key _ hu rfl
    · cases hl
  · split at hl
    · rename_i hu; exact key _ hu rfl
    · cases hl
  · cases hl
theorem fieldsEq_ok {d : Nat} (xs ys : Array Value) (X : Value → Heap → Prop) : ∀ (fs : List Field) {r : Bool}, fieldsEq P xs ys fs = some r → ∀ (K : Bool → Heap → Prop), K r h → semWp P (Op.eqFields (d + 1) xs ys fs) K X h := by
  intro fs
  induction fs with
  | nil => intro r hr K H; cases hr; exact H
  | cons f fs ih =>
    intro r hr K H
    unfold fieldsEq at hr
    split at hr
    · cases hr
    · rename_i hn
      split at hr
      · rename_i a b ha hb
        split at hr
        · rename_i r1 r2 h1 h2
          cases hr
          unfold Op.eqFields
          rw [if_pos hn]
          refine semWp_bind _ _ (leafPart h1 ha ?_)
          refine semWp_bind _ _ (leafPart h1 hb ?_)
          refine semWp_bind _ _ (leafEq_ok h1 _ _ ?_)
          cases r1 with
          | false => exact H
          | true => exact ih h2 _ H
        · cases hr
      · cases hr
theorem equal_agg {d : Nat} {t : TypeId} {fs : Array Field} (hu : P.underlying t = some (.struct fs)) (hp : P.stoodInHeld t = false) {xs ys : Array Value} {K : Bool → Heap → Prop} {X : Value → Heap → Prop}
    (H : semWp P (Op.eqFields d xs ys fs.toList) K X h) : semWp P (Op.equalIn (d + 1) t (.agg xs) (.agg ys)) K X h := by
  rw [Op.equalIn]
  refine underlying_run hu ?_
  simp only [program, bind, Sem.bind, semWp, hp, Bool.false_eq_true, if_false]
  rw [← Array.forIn_toList]
  refine Eq.mpr (congrArg (fun s => semWp P s K X h) ?_) H
  generalize fs.toList = l
  clear H hu
  induction l with
  | nil => rfl
  | cons f l ih =>
    rw [List.forIn_cons]
    unfold Op.eqFields
    refine (Sem.bind_assoc' _ _ _).trans ?_
    split
    · refine (Sem.bind_assoc' _ _ _).trans ?_
      show Sem.bind _ _ = Sem.bind _ _
      congr 1
      funext a
      refine (Sem.bind_assoc' _ _ _).trans ?_
      show Sem.bind _ _ = Sem.bind _ _
      congr 1
      funext b
      refine (Sem.bind_assoc' _ _ _).trans ?_
      show Sem.bind _ _ = Sem.bind _ _
      congr 1
      funext r
      cases r with
      | false => rfl
      | true => exact ih
    · exact ih
theorem aggPart {t : TypeId} {gs : Array Field} {inf : TypeInfo} (hu : P.underlying t = some (.struct gs)) (hi : P.info? t = some inf) {xs : Array Value} {i : Nat} {K : Value → Heap → Prop} {X : Value → Heap → Prop} (H : K (.agg (xs.extract i (i + inf.size))) h) : semWp P (part t xs i) K X h := by
  unfold part isAgg
  simp only [bind, Sem.bind, underlying, program, semWp, hu, pure, Go.sizeOf, typeInfo, hi, if_true]
  exact H
theorem fieldsEq2_ok {d : Nat} (xs ys : Array Value) (X : Value → Heap → Prop) : ∀ (fs : List Field) {r : Bool}, fieldsEq2 P xs ys fs = some r → ∀ (K : Bool → Heap → Prop), K r h → semWp P (Op.eqFields (d + 2) xs ys fs) K X h := by
  intro fs
  induction fs with
  | nil => intro r hr K H; cases hr; exact H
  | cons f fs ih =>
    intro r hr K H
    unfold fieldsEq2 at hr
    split at hr
    · cases hr
    · rename_i hn
      split at hr
      · rename_i r1 r2 h1 h2
        cases hr
        unfold Op.eqFields
        rw [if_pos hn]
        have last : ∀ K2 : Bool → Heap → Prop, (K2 = fun r h => semWp P (if (!r) = true then pure false else Op.eqFields (d + 2) xs ys fs) K X h) → K2 r1 h := fun K2 e => by
          subst e
          cases r1 with
          | false => exact H
          | true => exact ih h2 _ H
        unfold fieldEq at h1
        split at h1
        · rename_i a b ha hb
          split at h1
          · rename_i r3 h3
            cases h1
            exact semWp_bind _ _ (leafPart h3 ha (semWp_bind _ _ (leafPart h3 hb (semWp_bind _ _ (leafEq_ok h3 _ _ (last _ rfl))))))
          · unfold nestEq at h1
            split at h1
            · rename_i gs inf hu hi hs
              exact semWp_bind _ _ (aggPart hu hi (semWp_bind _ _ (aggPart hu hi (semWp_bind _ _ (equal_agg hu hs (fieldsEq_ok _ _ _ _ h1 _ (last _ rfl)))))))
            · cases h1
        · cases h1
      · cases hr
theorem eqGuard_agg {op : BinOp} {t : TypeId} {x y : Operand} {xs ys : Array Value} {α : Type} {f : Unit → Sem α} {K : α → Heap → Prop} {X : Value → Heap → Prop} (hg : P.eqGuardType P.depth t = false) (ho : op = .eql ∨ op = .neq) (H : semWp P (f ()) K X h) :
    semWp P ((eqGuard op t x y (.agg xs) (.agg ys)).bind f) K X h := by
  have key : semWp P (eqGuard op t x y (.agg xs) (.agg ys)) (fun _ h' => h' = h) X h := by
    rcases ho with rfl | rfl
    · show semWp P (if (!P.eqGuardType P.depth t) = true then pure () else _) _ X h
      rw [hg]
      rfl
    · show semWp P (if (!P.eqGuardType P.depth t) = true then pure () else _) _ X h
      rw [hg]
      rfl
  exact semWp_bind _ _ (semWp_mono _ (fun a h' e => by subst e; exact H) (fun _ _ x => x) key)
theorem aggEq_eq {t : TypeId} {x y : Operand} {xs ys : Array Value} (H : (aggEq P t xs ys (fun r => k (.bool r)) (semR q (do eqGuard .eql t x y (.agg xs) (.agg ys); binOp .eql t (.agg xs) (.agg ys)) (.one (.atom .bool)) fun r => k (.bool r))).wp P Q h) : BinOk P .eql t x y (.agg xs) (.agg ys) k Q h := by
  unfold aggEq at H
  split at H
  · rename_i fs hu
    split at H
    · rename_i r hg hf
      rw [Bool.or_eq_false_iff] at hg
      refine eqGuard_agg hg.1 (.inl rfl) ?_
      exact semWp_bind (Op.equal t (.agg xs) (.agg ys)) _ (equal_agg (d := 9999) hu hg.2 (fieldsEq2_ok (d := 9997) xs ys _ _ hf _ H))
    · exact semWp_mono _ (fun v h' ⟨r, hr, hk⟩ => hr ▸ hk) (fun _ _ x => x) (sem_ok H)
  · exact semWp_mono _ (fun v h' ⟨r, hr, hk⟩ => hr ▸ hk) (fun _ _ x => x) (sem_ok H)
theorem aggEq_ne {t : TypeId} {x y : Operand} {xs ys : Array Value} (H : (aggEq P t xs ys (fun r => k (.bool !r)) (semR q (do eqGuard .neq t x y (.agg xs) (.agg ys); binOp .neq t (.agg xs) (.agg ys)) (.one (.atom .bool)) fun r => k (.bool r))).wp P Q h) : BinOk P .neq t x y (.agg xs) (.agg ys) k Q h := by
  unfold aggEq at H
  split at H
  · rename_i fs hu
    split at H
    · rename_i r hg hf
      rw [Bool.or_eq_false_iff] at hg
      refine eqGuard_agg hg.1 (.inr rfl) ?_
      exact semWp_bind (Op.equal t (.agg xs) (.agg ys)) _ (equal_agg (d := 9999) hu hg.2 (fieldsEq2_ok (d := 9997) xs ys _ _ hf _ H))
    · exact semWp_mono _ (fun v h' ⟨r, hr, hk⟩ => hr ▸ hk) (fun _ _ x => x) (sem_ok H)
  · exact semWp_mono _ (fun v h' ⟨r, hr, hk⟩ => hr ▸ hk) (fun _ _ x => x) (sem_ok H)
theorem denBin_ok {op : BinOp} {t : TypeId} {x y : Operand} {a b : Value} (H : (denBin q P op t x y a b k).wp P Q h) : BinOk P op t x y a b k Q h := by
  unfold denBin at H
  split at H
  case h_1 => obtain ⟨hj, H2⟩ := ite_ok H; subst hj; exact int_bin (by simp) (by simp) rfl H2
  case h_2 => obtain ⟨hj, H2⟩ := ite_ok H; subst hj; exact int_bin (by simp) (by simp) rfl H2
  case h_3 => obtain ⟨hj, H2⟩ := ite_ok H; subst hj; exact int_bin (by simp) (by simp) rfl H2
  case h_4 =>
    obtain ⟨hj, H2⟩ := ite_ok H
    subst hj
    obtain ⟨hn, H3⟩ := chk_ok H2
    refine int_bin (by simp) (by simp) rfl ?_
    simp only [Op.intDiv, if_neg hn]
    exact H3
  case h_5 =>
    obtain ⟨hj, H2⟩ := ite_ok H
    subst hj
    obtain ⟨hn, H3⟩ := chk_ok H2
    refine int_bin (by simp) (by simp) rfl ?_
    simp only [Op.intDiv, if_neg hn]
    exact H3
  case h_6 =>
    obtain ⟨hn, H2⟩ := chk_ok H
    exact shl_ok hn H2
  case h_7 =>
    obtain ⟨hn, H2⟩ := chk_ok H
    exact shr_ok hn H2
  case h_8 => obtain ⟨hj, H2⟩ := ite_ok H; subst hj; exact int_bin (by simp) (by simp) rfl H2
  case h_9 => obtain ⟨hj, H2⟩ := ite_ok H; subst hj; exact int_bin (by simp) (by simp) rfl H2
  case h_10 => obtain ⟨hj, H2⟩ := ite_ok H; subst hj; exact int_bin (by simp) (by simp) rfl H2
  case h_11 => obtain ⟨hj, H2⟩ := ite_ok H; subst hj; exact int_bin (by simp) (by simp) rfl H2
  case h_12 => obtain ⟨hj, H2⟩ := ite_ok H; subst hj; exact int_bin (by simp) (by simp) rfl H2
  case h_13 => obtain ⟨hj, H2⟩ := ite_ok H; subst hj; exact int_bin (by simp) (by simp) rfl H2
  case h_14 =>
    obtain ⟨hn, H2⟩ := chk_ok H
    exact sadd_ok hn H2
  case h_15 => exact H
  case h_16 => exact H
  case h_17 =>
    obtain ⟨d, hd, H2⟩ := under_ok H
    cases d <;> first | exact H2.elim | exact eql_of rfl rfl (equal_ptr hd _) H2
  case h_18 =>
    obtain ⟨d, hd, H2⟩ := under_ok H
    cases d <;> first | exact H2.elim | exact neq_of rfl rfl (equal_ptr hd _) H2
  case h_19 =>
    obtain ⟨d, hd, H2⟩ := under_ok H
    cases d <;> first | exact H2.elim | exact eql_of rfl rfl (equal_slice hd _ _ _ _ _) H2
  case h_20 =>
    obtain ⟨d, hd, H2⟩ := under_ok H
    cases d <;> first | exact H2.elim | exact neq_of rfl rfl (equal_slice hd _ _ _ _ _) H2
  case h_21 =>
    obtain ⟨d, hd, H2⟩ := under_ok H
    cases d <;> first | exact H2.elim | exact eql_of rfl rfl (equal_bool hd _ _) H2
  case h_22 =>
    obtain ⟨d, hd, H2⟩ := under_ok H
    cases d <;> first | exact H2.elim | exact neq_of rfl rfl (equal_bool hd _ _) H2
  case h_23 => exact aggEq_eq H
  case h_24 => exact aggEq_ne H
  case h_25 => exact semWp_mono _ (fun v h' ⟨r, hr, hk⟩ => hr ▸ hk) (fun _ _ x => x) (sem_ok H)
  case h_26 => exact semWp_mono _ (fun v h' ⟨r, hr, hk⟩ => hr ▸ hk) (fun _ _ x => x) (sem_ok H)
  case h_27 => exact denSem_ok _ H

theorem bound_ok {v : Option Value} {d l : Int} (hb : bound d v = some l) : (v = none ∧ l = d) ∨ ∃ j, v = some (.int j l) := by
  cases v with
  | none => simp [bound] at hb; exact .inl ⟨rfl, hb.symm⟩
  | some v =>
    cases v <;> simp [bound] at hb
    subst hb
    exact .inr ⟨_, rfl⟩

theorem sliceBound_ok {α : Type} {j : IntKind} {l : Int} {y : Nat} {code : BoundsCode} {f : Nat → Sem α} {K : α → Heap → Prop} {X : Value → Heap → Prop}
    (h0 : 0 ≤ l) (h1 : l ≤ y) (H : semWp P (f l.toNat) K X h) : semWp P (do let n ← Instr.sliceBound (.int j l) y code; f n) K X h := by
  show semWp P (Sem.bind (Instr.sliceBound (.int j l) y code) f) K X h
  have e : Instr.sliceBound (.int j l) y code = .pure l.toNat := by
    show (if 0 ≤ l ∧ l ≤ y then Sem.pure l.toNat else boundsPanic j l y code) = _
    rw [if_pos ⟨h0, h1⟩]
  rw [e]
  exact H

theorem sliceBounds_ok {b : Bool} {len cap : Nat} {lo hi : Option Value} {l hh : Int} (hl : bound 0 lo = some l) (hhi : bound len hi = some hh)
    (h0 : 0 ≤ l) (h1 : l ≤ hh) (h2 : hh ≤ cap) {α : Type} {f : Nat × Nat × Nat → Sem α} {K : α → Heap → Prop} {X : Value → Heap → Prop}
    (H : semWp P (f (l.toNat, hh.toNat, cap)) K X h) :
    semWp P (do let r ← Instr.sliceBounds b len cap lo hi none; f r) K X h := by
  show semWp P (Sem.bind (Instr.sliceBounds b len cap lo hi none) f) K X h
  refine semWp_bind _ _ ?_
  have h0' : l ≤ (hh.toNat : Int) := by omega
  rcases bound_ok hl with ⟨rfl, rfl⟩ | ⟨j, rfl⟩ <;> rcases bound_ok hhi with ⟨rfl, rfl⟩ | ⟨j', rfl⟩
  · exact H
  · exact sliceBound_ok (f := fun n => Sem.pure (0, n, cap)) (by omega) h2 H
  · refine sliceBound_ok (f := fun n => Sem.pure (n, len, cap)) h0 (by omega) H
  · refine sliceBound_ok (f := fun m => Sem.bind (Instr.sliceBound (.int j l) m .sliceB) fun n => Sem.pure (n, m, cap)) (by omega) h2 ?_
    exact sliceBound_ok (f := fun n => Sem.pure (n, hh.toNat, cap)) h0 h0' H

theorem denSlice_ok {t : TypeId} {x : Value} {lo hi mx : Option Value} (H : (denSlice q P t x lo hi mx k).wp P Q h) :
    semWp P (Instr.sliceAt t x lo hi mx) (fun v h' => (k v).wp P Q h') (fun v h' => Q (.pan [{ v, recovered := false }]) h') h := by
  unfold denSlice at H
  split at H
  · rename_i s hd
    split at H
    · rename_i l hh hl hhh
      obtain ⟨⟨h1, h2, h3⟩, H2⟩ := chk_ok H
      unfold Instr.sliceAt
      refine underlying_run hd ?_
      unfold Instr.slice
      refine underlying_run hd ?_
      exact sliceBounds_ok hl hhh h1 h2 h3 H2
    · exact H.elim
  · rename_i e p n c hd
    split at H
    · rename_i l hh i hl hhh hi
      obtain ⟨⟨h1, h2, h3⟩, H2⟩ := chk_ok H
      unfold Instr.sliceAt
      refine underlying_run hd ?_
      unfold Instr.slice
      refine underlying_run hd ?_
      refine sliceBounds_ok hl hhh h1 h2 h3 ?_
      exact sizeOf_run hi H2
    · exact H.elim
  · exact semT_ok H

theorem denCall_ok {c : Call} {t : TypeId} (H : (denCall q P ρ c t k).wp P Q h) :
    OpOk q P (do let d ← resolve ρ c t; invoke d.target d.args) k Q h := by
  unfold denCall at H
  split at H
  · rename_i b hc
    have e : resolve ρ c t = .pure { target := .builtin b c.argTypes t (c.args.map fun | .const _ => true | _ => false), args := c.args.map ρ } := by
      unfold resolve
      rw [hc]
      rfl
    rw [e]
    show OpOk q P (builtin b c.argTypes t _ (c.args.map ρ)) k Q h
    cases b <;> first | exact H.elim | skip
    case append => exact ok_v (semT_ok H)
    case cap =>
      dsimp only at H
      split at H <;> first | exact H.elim | skip
      rename_i at0 _ x _ h1 h2
      refine ok_v ?_
      have e1 : c.argTypes[0]? = some at0 := by rw [← Array.getElem?_toList, h1]; rfl
      have e2 : (c.args.map ρ)[0]? = some x := by rw [← Array.getElem?_toList, h2]; rfl
      split at H
      · rename_i hd
        show semWp P (Builtin.cap_ c.argTypes t (c.args.map ρ)) _ _ _
        unfold Builtin.cap_
        rw [e1, e2]
        exact underlying_run hd H
      · exact semT_ok H
    case clear => exact ok_v (semWp_mono _ (fun _ _ ⟨_, hx, hk⟩ => by subst hx; exact hk) (fun _ _ x => x) (sem_ok H))
    case copy => exact ok_v (semWp_mono _ (fun _ _ ⟨_, hx, hk⟩ => by subst hx; exact hk) (fun _ _ x => x) (sem_ok H))
    case delete => exact ok_v (semWp_mono _ (fun _ _ ⟨_, hx, hk⟩ => by subst hx; exact hk) (fun _ _ x => x) (sem_ok H))
    case len =>
      dsimp only at H
      split at H <;> first | exact H.elim | skip
      rename_i at0 _ x _ h1 h2
      refine ok_v ?_
      have e1 : c.argTypes[0]? = some at0 := by rw [← Array.getElem?_toList, h1]; rfl
      have e2 : (c.args.map ρ)[0]? = some x := by rw [← Array.getElem?_toList, h2]; rfl
      split at H
      · rename_i hd
        show semWp P (Builtin.len_ c.argTypes t (c.args.map ρ)) _ _ _
        unfold Builtin.len_
        rw [e1, e2]
        exact underlying_run hd H
      · rename_i hd
        show semWp P (Builtin.len_ c.argTypes t (c.args.map ρ)) _ _ _
        unfold Builtin.len_
        rw [e1, e2]
        exact underlying_run hd H
      · rename_i x _ _ n e hd
        show semWp P (Builtin.len_ c.argTypes t (c.args.map ρ)) _ _ _
        unfold Builtin.len_
        rw [e1, e2]
        refine underlying_run hd ?_
        cases x <;> exact H
      · exact semT_ok H
    case max => exact ok_v (denSem_ok _ H)
    case min => exact ok_v (denSem_ok _ H)
  · rename_i f hc
    unfold callV at H
    split at H
    · rename_i g first cap hf
      split at H
      · rename_i fn hfn
        split at H
        · rename_i hname hbody
          have e : resolve ρ c t = .pure { target := .fn (.func g) cap, args := first ++ c.args.map ρ } := by
            unfold resolve
            rw [hc]
            simp only [hf, Deferred.ofValue]
            rfl
          rw [e]
          show OpOk q P (callFunc g ((first ++ c.args.map ρ) ++ cap)) k Q h
          unfold OpOk callFunc
          simp only [program, bind, Sem.bind, semWp, hfn, hname, hbody, Bool.false_eq_true, if_false]
          cases q with
          | true => exact H.elim
          | false =>
          simp only [cond_false, T.wp] at H
          simp only [pure, semWp, NextK]
          refine ⟨trivial, CallsH.mono H fun e h' he => ?_⟩
          cases e with
          | ret v => obtain ⟨x, hx, hk⟩ := he; subst hx; exact hk
          | pan c => exact he
        · exact H.elim
      · exact H.elim
    · exact H.elim
  · exact H.elim

theorem denOp_ok {o : Oper} (H : (denOp q P ρ o k).wp P Q h) : OpOk q P (execOp ρ o) k Q h := by
  obtain ⟨dst, op, type, pos, after, guard⟩ := o
  cases op <;> simp only [denOp] at H <;> first | exact H.elim | skip
  case move x => exact H
  case assign x => exact H
  case pick c a b =>
    split at H
    · rename_i t ht
      show OpOk q P (do pure (.value (if ← asBool (ρ c) then ρ a else ρ b))) k Q h
      rw [ht]
      cases t <;> exact H
    · exact H.elim
  case alloc e => exact ok_v (denSem_ok _ H)
  case box e x => exact ok_v (denSem_ok _ H)
  case build t ps => exact ok_v (denSem_ok _ H)
  case buildSlice t n ps => exact ok_v (denSem_ok _ H)
  case insert t m key x => exact ok_u (semU_ok H)
  case load t a =>
    split at H
    · rename_i p ha
      obtain ⟨a', rfl, H2⟩ := deref_ok H
      refine ok_v ?_
      show semWp P (Instr.loadAt t (ρ a)) _ _ _
      rw [ha]
      exact semWp_mono _ (fun _ _ ⟨h1, h2⟩ => h1 ▸ h2) (fun _ _ hx => hx.elim) (denLoad_ok H2)
    · exact H.elim
  case store t a x =>
    refine ok_u ?_
    split at H
    · rename_i p ha
      obtain ⟨a', rfl, H2⟩ := deref_ok H
      rw [ha]
      exact denSem_ok _ H2
    · exact denSem_ok _ H
  case nilCheck x =>
    split at H
    · rename_i p hp
      obtain ⟨a, rfl, H2⟩ := deref_ok H
      simp only [execOp, hp]
      exact H2
    · rename_i f a b hp
      simp only [execOp, hp]
      exact H
    · rename_i t v hp
      simp only [execOp, hp]
      exact H
    · exact H.elim
  case binOp op xt x y yt => exact ok_v (denBin_ok H)
  case unOp op xt x => exact ok_v (denSem_ok _ H)
  case convert src dst x =>
    refine ok_v ?_
    split at H
    · exact denSem_ok _ H
    · exact denSem_ok _ H
    · exact semT_ok H
  case makeInterface t x => exact ok_v (denSem_ok _ H)
  case makeFunc fn first captured => exact H
  case makeMap t r => exact ok_v (denSem_ok _ H)
  case makeChan t s => exact ok_v (semT_ok H)
  case makeSlice t l c => exact ok_v (semT_ok H)
  case slice t x lo hi mx => exact ok_v (denSlice_ok H)
  case fieldAddr s x f =>
    refine ok_v ?_
    split at H
    · rename_i p hp
      obtain ⟨a, rfl, H2⟩ := deref_ok H
      rw [hp]
      exact denSem_ok _ H2
    · exact denSem_ok _ H
  case field t x f => exact ok_v (denSem_ok _ H)
  case indexAddr t x ix =>
    refine ok_v ?_
    show semWp P (Instr.indexAt t (ρ x) (ρ ix)) _ _ _
    split at H
    · rename_i e p n c j i hd hx hix
      split at H
      · rename_i info hinfo
        obtain ⟨a, rfl, H2⟩ := deref_ok H
        obtain ⟨hb, H3⟩ := chk_ok H2
        rw [hx, hix]
        simp only [Instr.indexAt, Instr.sureAddr, asIntOf, underlying, program, bind, Sem.bind, semWp, hd, pure, Go.sizeOf, typeInfo, hinfo, if_pos hb]
        exact H3
      · exact H.elim
    · rename_i n e a j i hd hx hix
      split at H
      · rename_i info hinfo
        obtain ⟨hb, H3⟩ := chk_ok H
        rw [hx, hix]
        simp only [Instr.indexAt, Instr.sureAddr, asIntOf, underlying, program, bind, Sem.bind, semWp, hd, pure, Go.sizeOf, typeInfo, hinfo, if_pos hb]
        exact H3
      · exact H.elim
    · exact H.elim
  case index t x ix =>
    refine ok_v ?_
    show semWp P (Instr.index t (ρ x) (ρ ix)) _ _ _
    split at H
    · rename_i s j i hd hx hix
      obtain ⟨hb, H3⟩ := chk_ok H
      rw [hx, hix]
      unfold Instr.index
      simp only [asIntOf]
      refine underlying_run hd ?_
      have e : (if 0 ≤ i then s[i.toNat]? else none) = some (byteAt s i.toNat) := by
        rw [if_pos hb.1]
        have hlt : i.toNat < s.size := by omega
        rw [getElem?_pos s i.toNat hlt]
        unfold byteAt
        have : i.toNat < s.data.toList.length := by simpa using hlt
        rw [List.getD_eq_getElem?_getD, List.getElem?_eq_getElem this]
        rfl
      dsimp only
      rw [e]
      exact H3
    · exact denSem_ok _ H
  case lookup t x ix ok => exact ok_v (semT_ok H)
  case mapUpdate t m key x => exact ok_u (semU_ok H)
  case range t x => exact ok_v (semWp_mono _ (fun _ _ ⟨_, hx, hk⟩ => by subst hx; exact hk) (fun _ _ x => x) (sem_ok H))
  case next it b => exact ok_v (semWp_mono _ (fun _ _ ⟨_, hx, hk⟩ => by subst hx; exact hk) (fun _ _ x => x) (sem_ok H))
  case typeAssert x xt at_ ok => exact ok_v (semT_ok H)
  case extract t ix => exact ok_v (denSem_ok _ H)
  case call c => exact denCall_ok H
  case panic x => exact ok_v (denSem_ok _ H)

end
end Go.Eng

/-
  THE ENGINE, PART D: a region whose order is the text's: its operations one by one; a select of one case with a default.
  Conditions: none; it speaks of any program.
-/
namespace Go.Eng
open Go

/-! ## what is known of the temporaries -/
abbrev Env := List (Nat × Value)
def Env.get? : Env → Nat → Option Value
  | [], _ => none
  | (i, v) :: r, t => bif Nat.beq i t then some v else Env.get? r t
def Env.put (e : Env) (dst : Option Tmp) (v : Value) : Env := match dst with
  | some d => (d, v) :: e
  | none => e
def Env.ev (e : Env) : Operand → Value
  | .tmp t => (e.get? t).getD undef
  | .const v => v
  | .global g => .pointer (some ⟨g, 0, none⟩)
  | .func f => .func (.func f) #[] #[]
def Env.has (e : Env) : Operand → Bool
  | .tmp t => (e.get? t).isSome
  | _ => true
def Agrees (e : Env) (tm : Array Value) : Prop := ∀ t v, e.get? t = some v → tm[t]? = some v

theorem Env.get?_cons (i : Nat) (v : Value) (r : Env) (t : Nat) : Env.get? ((i, v) :: r) t = if i = t then some v else Env.get? r t := by
  show (bif Nat.beq i t then some v else Env.get? r t) = _
  by_cases h : i = t
  · subst h; simp
  · have : Nat.beq i t = false := by
      cases hb : Nat.beq i t with
      | false => rfl
      | true => exact absurd (Nat.eq_of_beq_eq_true hb) h
    simp [this, h]

theorem Agrees.ev {e : Env} {a : Act} (h : Agrees e a.tmps) {x : Operand} (hx : e.has x = true) : a.eval x = e.ev x := by
  cases x with
  | tmp t =>
    obtain ⟨v, hv⟩ := Option.isSome_iff_exists.1 hx
    have := h t v hv
    simp [Act.eval, Env.ev, hv, this]
  | const v => rfl
  | global g => rfl
  | func f => rfl

theorem Agrees.put {e : Env} {a : Act} (h : Agrees e a.tmps) (dst : Option Tmp) (v : Value) (hd : ∀ d, dst = some d → d < a.tmps.size) : Agrees (e.put dst v) (a.put dst v).tmps := by
  cases dst with
  | none => exact h
  | some d =>
    intro t u hu
    simp only [Env.put, Env.get?_cons] at hu
    have hlt := hd d rfl
    by_cases hdt : d = t
    · subst hdt
      simp only [if_true, Option.some.injEq] at hu
      subst hu
      simp [Act.put, hlt]
    · simp only [hdt, if_false] at hu
      simp only [Act.put, Array.getElem?_setIfInBounds_ne hdt]
      exact h t u hu

theorem Act.put_size (a : Act) (dst : Option Tmp) (v : Value) : (a.put dst v).tmps.size = a.tmps.size := by
  cases dst <;> simp [Act.put]
theorem Act.put_defers' (a : Act) (dst : Option Tmp) (v : Value) : (a.put dst v).defers = a.defers := by
  cases dst <;> rfl

/-- What was written: all else is as it was. -/
def Fr (W : List Nat) (a a' : Act) : Prop := a'.tmps.size = a.tmps.size ∧ a'.defers = a.defers ∧ ∀ t, t ∉ W → a'.tmps[t]? = a.tmps[t]?
theorem Fr.refl (W : List Nat) (a : Act) : Fr W a a := ⟨rfl, rfl, fun _ _ => rfl⟩
theorem Fr.trans {W : List Nat} {a b c : Act} (h : Fr W a b) (k : Fr W b c) : Fr W a c := ⟨k.1.trans h.1, k.2.1.trans h.2.1, fun t ht => (k.2.2 t ht).trans (h.2.2 t ht)⟩
theorem Fr.mono {W W' : List Nat} {a b : Act} (h : Fr W a b) (hW : ∀ t, t ∈ W → t ∈ W') : Fr W' a b := ⟨h.1, h.2.1, fun t ht => h.2.2 t (fun h' => ht (hW t h'))⟩
theorem Fr.put (W : List Nat) (a : Act) (dst : Option Tmp) (v : Value) (h : ∀ d, dst = some d → d ∈ W) : Fr W a (a.put dst v) := by
  refine ⟨Act.put_size a dst v, Act.put_defers' a dst v, fun t ht => ?_⟩
  cases dst with
  | none => rfl
  | some d =>
    have : d ≠ t := fun e => ht (e ▸ h d rfl)
    simp [Act.put, Array.getElem?_setIfInBounds_ne this]

/-! ## inside a region -/
def IR (P : Program) (ops : Array Oper) (l : List Nat) (Q : Exit → Act → World → Prop) (a : Act) (w : World) : Prop :=
  ∀ (b : Frame) (k : List Item) (cs : List Frame),
    ∃ e a' w', Q e a' w' ∧ Arrives P (lone (b.at a (.inRegion ops l :: k)) cs w) b k cs e a' w'

section
variable {P : Program} {ops : Array Oper} {Q : Exit → Act → World → Prop} {a : Act} {w : World}

theorem ir_nil (h : Q .normal a w) : IR P ops [] Q a w := fun _ _ _ => ⟨.normal, a, w, h, .one step_region_end⟩

theorem ir_skip {i : Nat} {rest : List Nat} (h : ((ops[i]?).map (Region.wanted · (yielded ops a.tmps))).getD false = false)
    (H : IR P ops rest Q (a.put ((ops[i]?).bind (·.dst)) undef) w) : IR P ops (i :: rest) Q a w := fun b k cs => by
  obtain ⟨e, a', w', hq, harr⟩ := H b k cs
  exact ⟨e, a', w', hq, .of_steps (.one (step_op_skip h)) harr⟩

theorem ir_value {i : Nat} {rest : List Nat} {o : Oper} {v : Value} {w' : World} (ho : ops[i]? = some o) (hw : Region.wanted o (yielded ops a.tmps) = true)
    (hr : (execOp a.eval o).run P w = .ok (.value v) w') (H : IR P ops rest Q (a.put o.dst v) w') : IR P ops (i :: rest) Q a w := fun b k cs => by
  obtain ⟨e, a', w'', hq, harr⟩ := H b k cs
  refine ⟨e, a', w'', hq, .of_steps (.one (step_lone_go ?_)) harr⟩
  have hfin : (b.at a (.inRegion ops (i :: rest) :: k)).finish v = b.at (a.put o.dst v) (.inRegion ops rest :: k) := by rw [Frame.finish_at, ho]; rfl
  rw [stepG_op ho hw, ← hfin]; simp [stepG.apply, hr]

theorem ir_none {i : Nat} {rest : List Nat} {o : Oper} {w' : World} (ho : ops[i]? = some o) (hw : Region.wanted o (yielded ops a.tmps) = true)
    (hr : (execOp a.eval o).run P w = .ok .skip w') (H : IR P ops rest Q (a.put o.dst undef) w') : IR P ops (i :: rest) Q a w := fun b k cs => by
  obtain ⟨e, a', w'', hq, harr⟩ := H b k cs
  refine ⟨e, a', w'', hq, .of_steps (.one (step_lone_go ?_)) harr⟩
  have hfin : (b.at a (.inRegion ops (i :: rest) :: k)).finish undef = b.at (a.put o.dst undef) (.inRegion ops rest :: k) := by rw [Frame.finish_at, ho]; rfl
  rw [stepG_op ho hw, ← hfin]; simp [stepG.apply, hr]

theorem ir_panic {i : Nat} {rest : List Nat} {o : Oper} {v : Value} {w' : World} (ho : ops[i]? = some o) (hw : Region.wanted o (yielded ops a.tmps) = true)
    (hr : (execOp a.eval o).run P w = .halt (.panic v) w') (H : Q (.panic [{ v, recovered := false }]) a w') : IR P ops (i :: rest) Q a w := fun b k cs => by
  refine ⟨_, a, w', H, .inRegion ops (i :: rest) :: k, .one (step_lone_go ?_)⟩
  rw [stepG_op ho hw, ← Frame.raise_at]; simp [stepG.apply, hr]

theorem ir_enter {i : Nat} {rest : List Nat} {o : Oper} {f : FuncId} {args : Array Value} {w' : World} (ho : ops[i]? = some o) (hw : Region.wanted o (yielded ops a.tmps) = true)
    (hr : (execOp a.eval o).run P w = .ok (.enter f args) w')
    (H : Calls P f args w' fun e w'' => match e with
      | .returned v => IR P ops rest Q (a.put o.dst v) w''
      | .panicked chain => Q (.panic chain) a w''
      | .outgrown => False) : IR P ops (i :: rest) Q a w := fun b k cs => by
  obtain ⟨e, w'', fr, hR, hsteps, _, hleave⟩ := H (b.at a (.inRegion ops (i :: rest) :: k) :: cs)
  have henter : step P (lone (b.at a (.inRegion ops (i :: rest) :: k)) cs w) =
      .next (lone (Frame.enter P f args .normal) (b.at a (.inRegion ops (i :: rest) :: k) :: cs) w') :=
    step_lone_go (by rw [stepG_op ho hw]; simp [stepG.apply, hr, Frame.at])
  cases e with
  | returned v =>
    obtain ⟨e, a', w₃, hq, harr⟩ := hR b k cs
    refine ⟨e, a', w₃, hq, .of_steps (.head henter (hsteps.trans (.one ?_))) harr⟩
    have hfin : (b.at a (.inRegion ops (i :: rest) :: k)).finish v = b.at (a.put o.dst v) (.inRegion ops rest :: k) := by rw [Frame.finish_at, ho]; rfl
    rw [← hfin]; exact step_leave_returned hleave
  | panicked chain =>
    refine ⟨.panic chain, a, w'', hR, .inRegion ops (i :: rest) :: k, .head henter (hsteps.trans (.one ?_))⟩
    rw [← Frame.raise_at]; exact step_leave_panicked hleave
  | outgrown => exact hR.elim

theorem stepG_comm' {b : Frame} {k : List Item} {cs : List Frame} {i : Nat} {rest : List Nat} {o : Oper} {cases_ : Array CommCase} {blocking : Bool} {shape : CommShape} (ho : ops[i]? = some o)
    (hw : Region.wanted o (yielded ops a.tmps) = true) (hr : (execOp a.eval o).run P w = .ok (.comm cases_ blocking shape) w) :
    ∃ es, stepG P true (Conc.G (b.at a (.inRegion ops (i :: rest) :: k)) cs) w = .comm (Conc.G (b.at a (.inRegion ops (i :: rest) :: k)) cs) cases_ blocking shape w es := by
  have hg := stepG_op (P := P) (b := b) (k := k) (cs := cs) (w := w) (rest := rest) ho hw
  have : stepG P true (Conc.G (b.at a (.inRegion ops (i :: rest) :: k)) cs) w = stepG.apply P true (b.at a (.inRegion ops (i :: rest) :: k)) cs none (execOp a.eval o) w := hg
  rw [this]
  refine ⟨(stepG.apply P true (b.at a (.inRegion ops (i :: rest) :: k)) cs none (execOp a.eval o) w).es, ?_⟩
  simp [stepG.apply, hr, Conc.G, Frame.at, GStep.after, GStep.es]

/-- The value that a select of one case with a default yields. -/
def selVal (send : Option Value) (i : Int) (ok : Bool) (v : Value) : Value := match send with
  | some _ => .tuple #[goInt i, .bool ok]
  | none => .tuple #[goInt i, .bool ok, v]

theorem ir_select {i : Nat} {rest : List Nat} {o : Oper} {c : Nat} {send : Option Value} {zero : Value} (ho : ops[i]? = some o) (hw : Region.wanted o (yielded ops a.tmps) = true)
    (hr : (execOp a.eval o).run P w = .ok (.comm #[{ chan := .chan (some c), send, zero }] false .select) w)
    (H : selWp c send zero (fun j ok v h' => ∀ w', Same w w' → w'.heap = h' → IR P ops rest Q (a.put o.dst (selVal send j ok v)) w') w.heap) : IR P ops (i :: rest) Q a w := by
  intro b k cs
  obtain ⟨es, hst⟩ := stepG_comm' (b := b) (k := k) (cs := cs) (rest := rest) ho hw hr
  obtain ⟨cap, buf, s, r, hc, H⟩ := H
  have fin : ∀ v, (b.at a (.inRegion ops (i :: rest) :: k)).finish v = b.at (a.put o.dst v) (.inRegion ops rest :: k) := fun v => by rw [Frame.finish_at, ho]; rfl
  cases send with
  | none =>
    by_cases hh : 0 < buf.size
    · simp only [if_pos hh] at H
      have hs := Conc.step_lone_select_recv_buf hst hc hh
      obtain ⟨e, a', w', hq, harr⟩ := H (w.setChan c cap (buf.extract 1 buf.size) false s (r + 1) false) ⟨rfl, rfl, rfl, by unfold World.setChan; simp⟩ rfl b k cs
      refine ⟨e, a', w', hq, .of_steps (.one ?_) harr⟩
      rw [← fin]; exact hs
    · simp only [if_neg hh] at H
      have hb : buf = #[] := by
        have : buf.size = 0 := by omega
        exact Array.eq_empty_of_size_eq_zero this
      subst hb
      have hs := Conc.step_lone_select_default hst hc
      obtain ⟨e, a', w', hq, harr⟩ := H w (.refl w) rfl b k cs
      refine ⟨e, a', w', hq, .of_steps (.one ?_) harr⟩
      rw [← fin]; exact hs
  | some v =>
    by_cases hh : buf.size < cap
    · simp only [if_pos hh] at H
      have hs := Conc.step_lone_select_send_room hst hc hh
      obtain ⟨e, a', w', hq, harr⟩ := H (w.setChan c cap (buf.push v) false (s + 1) r false) ⟨rfl, rfl, rfl, by unfold World.setChan; simp⟩ rfl b k cs
      refine ⟨e, a', w', hq, .of_steps (.one ?_) harr⟩
      rw [← fin]; exact hs
    · simp only [if_neg hh] at H
      have hs := Conc.step_lone_select_send_full hst hc (by omega)
      obtain ⟨e, a', w', hq, harr⟩ := H w (.refl w) rfl b k cs
      refine ⟨e, a', w', hq, .of_steps (.one ?_) harr⟩
      rw [← fin]; exact hs
end
end Go.Eng

/-
  THE ENGINE, PART E: one step inside a region; the operations of a region in the text's order.
  Conditions: none; it speaks of any program.
-/
namespace Go.Eng
open Go

section
variable {P : Program} {ops : Array Oper}

/-- One step inside a region. -/
def StepTo (P : Program) (ops : Array Oper) (i : Nat) (a : Act) (w : World) (K : Act → World → Prop) (X : List PanicEntry → World → Prop) : Prop :=
  match ops[i]? with
  | none => K a w
  | some o =>
    (Region.wanted o (yielded ops a.tmps) = false ∧ K (a.put o.dst undef) w) ∨
    (Region.wanted o (yielded ops a.tmps) = true ∧
      ((∃ v w', (execOp a.eval o).run P w = .ok (.value v) w' ∧ K (a.put o.dst v) w') ∨
       (∃ w', (execOp a.eval o).run P w = .ok .skip w' ∧ K (a.put o.dst undef) w') ∨
       (∃ f args w', (execOp a.eval o).run P w = .ok (.enter f args) w' ∧ Calls P f args w' fun e w'' => match e with
          | .returned v => K (a.put o.dst v) w''
          | .panicked ch => X ch w''
          | .outgrown => False) ∨
       (∃ v w', (execOp a.eval o).run P w = .halt (.panic v) w' ∧ X [{ v, recovered := false }] w')))

theorem stepTo_mono {i : Nat} {a : Act} {w : World} {K K' : Act → World → Prop} {X X' : List PanicEntry → World → Prop} (hK : ∀ a w, K a w → K' a w) (hX : ∀ c w, X c w → X' c w)
    (H : StepTo P ops i a w K X) : StepTo P ops i a w K' X' := by
  unfold StepTo at *
  split
  · rename_i h; simp only [h] at H; exact hK _ _ H
  · rename_i o h
    simp only [h] at H
    rcases H with ⟨h1, h2⟩ | ⟨h1, h2⟩
    · exact .inl ⟨h1, hK _ _ h2⟩
    · refine .inr ⟨h1, ?_⟩
      rcases h2 with ⟨v, w', h3, h4⟩ | ⟨w', h3, h4⟩ | ⟨f, args, w', h3, h4⟩ | ⟨v, w', h3, h4⟩
      · exact .inl ⟨v, w', h3, hK _ _ h4⟩
      · exact .inr (.inl ⟨w', h3, hK _ _ h4⟩)
      · refine .inr (.inr (.inl ⟨f, args, w', h3, h4.mono fun e w'' he => ?_⟩))
        cases e <;> first | exact hK _ _ he | exact hX _ _ he | exact he
      · exact .inr (.inr (.inr ⟨v, w', h3, hX _ _ h4⟩))

theorem stepTo_fr {W : List Nat} (hW : ∀ o ∈ ops, ∀ d, o.dst = some d → d ∈ W) {i : Nat} {a : Act} {w : World} {K : Act → World → Prop} {X : List PanicEntry → World → Prop}
    (H : StepTo P ops i a w K X) : StepTo P ops i a w (fun a' w' => Fr W a a' ∧ K a' w') X := by
  unfold StepTo at *
  split
  · rename_i h; simp only [h] at H; exact ⟨.refl W a, H⟩
  · rename_i o h
    simp only [h] at H
    have hd : ∀ v, Fr W a (a.put o.dst v) := fun v => Fr.put W a o.dst v (hW o (Array.mem_of_getElem? h))
    rcases H with ⟨h1, h2⟩ | ⟨h1, h2⟩
    · exact .inl ⟨h1, hd _, h2⟩
    · refine .inr ⟨h1, ?_⟩
      rcases h2 with ⟨v, w', h3, h4⟩ | ⟨w', h3, h4⟩ | ⟨f, args, w', h3, h4⟩ | ⟨v, w', h3, h4⟩
      · exact .inl ⟨v, w', h3, hd _, h4⟩
      · exact .inr (.inl ⟨w', h3, hd _, h4⟩)
      · refine .inr (.inr (.inl ⟨f, args, w', h3, h4.mono fun e w'' he => ?_⟩))
        cases e <;> first | exact ⟨hd _, he⟩ | exact he
      · exact .inr (.inr (.inr ⟨v, w', h3, h4⟩))

theorem stepTo_ir {i : Nat} {rest : List Nat} {a : Act} {w : World} {Q : Exit → Act → World → Prop} (H : StepTo P ops i a w (IR P ops rest Q) (fun c w => Q (.panic c) a w)) :
    IR P ops (i :: rest) Q a w := by
  unfold StepTo at H
  split at H
  · rename_i h
    refine ir_skip (by simp [h]) ?_
    simpa [h, Act.put] using H
  · rename_i o h
    rcases H with ⟨h1, h2⟩ | ⟨h1, h2⟩
    · exact ir_skip (by simp [h, h1]) (by simpa [h] using h2)
    · rcases h2 with ⟨v, w', h3, h4⟩ | ⟨w', h3, h4⟩ | ⟨f, args, w', h3, h4⟩ | ⟨v, w', h3, h4⟩
      · exact ir_value h h1 h3 h4
      · exact ir_none h h1 h3 h4
      · exact ir_enter h h1 h3 h4
      · exact ir_panic h h1 h3 h4

theorem stepTo_wpOp {i : Nat} {a : Act} {w : World} {K : Act → World → Prop} {Q : Exit → Act → World → Prop} (H : StepTo P ops i a w K (fun c w => Q (.panic c) a w)) :
    wpOp P ops Q i K a w := by
  unfold StepTo at H
  unfold wpOp
  split at H
  · rename_i h; simp only [h]; exact H
  · rename_i o h
    simp only [h]
    rcases H with ⟨h1, h2⟩ | ⟨h1, h2⟩
    · simp only [h1, Bool.false_eq_true, if_false]; exact h2
    · simp only [h1, if_true]
      refine .inl ?_
      unfold Oper.wp
      rcases h2 with ⟨v, w', h3, h4⟩ | ⟨w', h3, h4⟩ | ⟨f, args, w', h3, h4⟩ | ⟨v, w', h3, h4⟩
      · rw [h3]; exact h4
      · rw [h3]; exact h4
      · rw [h3]
        exact Calls.mono h4 fun e w'' he => by cases e <;> first | exact he | exact he.elim
      · rw [h3]; exact h4

/-- One step, said of heaps alone. -/
def StepH (P : Program) (ops : Array Oper) (i : Nat) (K : Act → Heap → Prop) (X : List PanicEntry → Heap → Prop) (a : Act) (h : Heap) : Prop :=
  ∀ w, w.heap = h → StepTo P ops i a w (fun a' w' => Same w w' ∧ K a' w'.heap) (fun c w' => Same w w' ∧ X c w'.heap)

theorem stepH_mono {i : Nat} {a : Act} {h : Heap} {K K' : Act → Heap → Prop} {X X' : List PanicEntry → Heap → Prop} (hK : ∀ a h, K a h → K' a h) (hX : ∀ c h, X c h → X' c h)
    (H : StepH P ops i K X a h) : StepH P ops i K' X' a h := fun w hw => stepTo_mono (fun _ _ ⟨x, y⟩ => ⟨x, hK _ _ y⟩) (fun _ _ ⟨x, y⟩ => ⟨x, hX _ _ y⟩) (H w hw)

/-! ## the tree of a step -/
def gval (ops : Array Oper) (e : Env) (o : Oper) : Option Bool := match o.guard with
  | none => some true
  | some (j, want) => match (ops[j]?).bind (·.dst) with
    | none => none
    | some d => match e.get? d with
      | some (.bool b) => some (b == want)
      | some _ => some false
      | none => none
theorem gval_ok {e : Env} {a : Act} {o : Oper} {b : Bool} (h : Agrees e a.tmps) (hg : gval ops e o = some b) : Region.wanted o (yielded ops a.tmps) = b := by
  unfold gval at hg
  unfold Region.wanted
  split at hg
  · rename_i h1; cases hg; simp [h1]
  · rename_i j want h1
    simp only [h1]
    split at hg
    · cases hg
    · rename_i d h2
      split at hg
      · rename_i b' h3
        cases hg
        have := h d _ h3
        simp [yielded, h2, this]
      · rename_i v h3 h4
        cases hg
        have := h d _ h4
        have hy : yielded ops a.tmps j = none := by
          unfold yielded
          rw [h2]
          simp only [Option.bind_some, this]
          cases v <;> first | rfl | exact absurd rfl (h3 _)
        simp [hy]
      · cases hg

def splitG (g : Bool) (v : Value) (k : Value → T) : T := match g, v with
  | true, .bool b => cond b (k (.bool true)) (k (.bool false))
  | _, v => k v
theorem splitG_ok {g : Bool} {v : Value} {k : Value → T} {Q : Leaf → Heap → Prop} {h : Heap} (H : (splitG g v k).wp P Q h) : (k v).wp P Q h := by
  unfold splitG at H
  split at H
  · rename_i b; cases b <;> exact H
  · exact H

def denStep (q : Bool) (P : Program) (ops : Array Oper) (gs : List Nat) (e : Env) (i : Nat) (k : Env → T) : T := match ops[i]? with
  | none => k e
  | some o => match gval ops e o with
    | none => .stuck
    | some false => k (e.put o.dst undef)
    | some true => bif o.op.operands.toList.all e.has then denOp q P e.ev o fun v => splitG (gs.contains i) v fun v => k (e.put o.dst v) else .stuck

theorem notSelect {q : Bool} {P : Program} {ρ : Operand → Value} {o : Oper} {k : Value → T} {Q : Leaf → Heap → Prop} {h : Heap} (H : (denOp q P ρ o k).wp P Q h) (cs : Array SelectCase) (b : Bool) : o.op ≠ .select cs b := by
  intro he
  simp only [denOp, he] at H
  exact H

def Bound (W : List Nat) (a : Act) : Prop := ∀ d ∈ W, d < a.tmps.size
theorem Bound.fr {W W' : List Nat} {a a' : Act} (h : Bound W a) (f : Fr W' a a') : Bound W a' := fun d hd => by rw [f.1]; exact h d hd

theorem denStep_ok {q : Bool} {gs : List Nat} {e : Env} {i : Nat} {k : Env → T} {QT : Leaf → Heap → Prop} {a : Act} {h : Heap} {W : List Nat} (hag : Agrees e a.tmps) (hW : ∀ o ∈ ops, ∀ d, o.dst = some d → d ∈ W) (hb : Bound W a)
    (H : (denStep q P ops gs e i k).wp P QT h) :
    StepH P ops i (fun a' h' => ∃ e', Agrees e' a'.tmps ∧ Fr W a a' ∧ (k e').wp P QT h') (fun c h' => QT (.pan c) h') a h := by
  intro w hw
  subst hw
  unfold denStep at H
  unfold StepTo
  cases ho : ops[i]? with
  | none => rw [ho] at H; exact ⟨.refl w, e, hag, .refl W a, H⟩
  | some o =>
    rw [ho] at H
    have hdW : ∀ d, o.dst = some d → d ∈ W := hW o (Array.mem_of_getElem? ho)
    have hput : ∀ v, Agrees (e.put o.dst v) (a.put o.dst v).tmps := fun v => hag.put o.dst v fun d hd => hb d (hdW d hd)
    dsimp only at H ⊢
    cases hg : gval ops e o with
    | none => rw [hg] at H; exact H.elim
    | some b =>
      rw [hg] at H
      have hwt := gval_ok hag hg
      cases b with
      | false => exact .inl ⟨hwt, .refl w, _, hput undef, Fr.put W a o.dst undef hdW, H⟩
      | true =>
        refine .inr ⟨hwt, ?_⟩
        dsimp only at H
        cases hall : o.op.operands.toList.all e.has with
        | false => rw [hall] at H; exact H.elim
        | true =>
          rw [hall] at H
          simp only [cond_true] at H
          have hcong : execOp a.eval o = execOp e.ev o := execOp_congr o (notSelect H) fun x hx => hag.ev (List.all_eq_true.1 hall x (Array.mem_toList_iff.2 hx))
          rw [hcong]
          rcases semWp_run _ w (denOp_ok H) with ⟨nx, w', h1, h2, h3⟩ | ⟨v, w', h1, h2, h3⟩
          · cases nx <;> first | exact h3.elim | skip
            case value v => exact .inl ⟨v, w', h1, h2, _, hput v, Fr.put W a o.dst v hdW, splitG_ok h3⟩
            case skip => exact .inr (.inl ⟨w', h1, h2, _, hput undef, Fr.put W a o.dst undef hdW, splitG_ok h3⟩)
            case enter f args =>
              refine .inr (.inr (.inl ⟨f, args, w', h1, (by simpa using h3.2 w' rfl : Calls P f args w' _).mono fun e2 w'' he => ?_⟩))
              cases e2 with
              | returned v => exact ⟨h2.trans he.1, _, hput v, Fr.put W a o.dst v hdW, splitG_ok he.2⟩
              | panicked ch => exact ⟨h2.trans he.1, he.2⟩
              | outgrown => exact he.2
          · exact .inr (.inr (.inr ⟨v, w', h1, h2, h3⟩))

/-! ## the text's order -/
def selOf (ops : Array Oper) (i : Nat) : Option (Oper × SelectCase) := match ops[i]? with
  | some o => match o.guard, o.op with
    | none, .select cs false => match cs.toList with
      | [c] => some (o, c)
      | _ => none
    | _, _ => none
  | none => none
def derefN (p : Option Nat) (k : Nat → T) : T := match p with
  | some r => k r
  | none => .stuck
def denSel (P : Program) (e : Env) (c : SelectCase) (k : Value → T) : T :=
  bif e.has c.chan && c.send.toList.all e.has then
    match e.ev c.chan, (P.info? c.elem).bind (·.zero) with
    | .chan p, some z => derefN p fun r => .sel r (c.send.map e.ev) z fun j ok v => k (selVal (c.send.map e.ev) j ok v)
    | _, _ => .stuck
  else .stuck
def denOps (P : Program) (ops : Array Oper) (gs : List Nat) : List Nat → Env → (Env → T) → T
  | [], e, k => k e
  | i :: r, e, k => match selOf ops i with
    | some (o, c) => denSel P e c fun v => denOps P ops gs r (e.put o.dst v) k
    | none => denStep false P ops gs e i fun e' => denOps P ops gs r e' k

theorem denOps_irT {gs : List Nat} {QT : Leaf → Heap → Prop} {W : List Nat} {QC : Exit → Act → World → Prop} {k : Env → T} (hW : ∀ o ∈ ops, ∀ d, o.dst = some d → d ∈ W) (t : List Nat) (l : List Nat) :
    ∀ (e : Env) (a : Act) (w : World), Agrees e a.tmps → Bound W a → (denOps P ops gs l e k).wp P QT w.heap →
      (∀ e' a' w', Agrees e' a'.tmps → Fr W a a' → Same w w' → (k e').wp P QT w'.heap → IR P ops t QC a' w') →
      (∀ c a' w', Fr W a a' → Same w w' → QT (.pan c) w'.heap → QC (.panic c) a' w') → IR P ops (l ++ t) QC a w := by
  induction l with
  | nil => intro e a w hag hb H hn hp; exact hn e a w hag (.refl W a) (.refl w) H
  | cons i r ih =>
    intro e a w hag hb H hn hp
    unfold denOps at H
    split at H
    · rename_i o c hs
      unfold selOf at hs
      split at hs
      · rename_i o' ho
        split at hs
        · rename_i cs hgd hop
          split at hs
          · rename_i c' hcs
            simp only [Option.some.injEq, Prod.mk.injEq] at hs
            obtain ⟨rfl, rfl⟩ := hs
            unfold denSel at H
            cases hk : (e.has c'.chan && c'.send.toList.all e.has) with
            | false => rw [hk] at H; exact H.elim
            | true =>
              rw [hk] at H
              simp only [cond_true] at H
              split at H
              · rename_i p z hch hz
                cases p with
                | none => exact H.elim
                | some rr =>
                  have hdW : ∀ d, o'.dst = some d → d ∈ W := hW o' (Array.mem_of_getElem? ho)
                  rw [Bool.and_eq_true] at hk
                  have e1 : a.eval c'.chan = .chan (some rr) := by rw [hag.ev hk.1]; exact hch
                  have e2 : c'.send.map a.eval = c'.send.map e.ev := by
                    cases hsd : c'.send with
                    | none => rfl
                    | some x =>
                      have := hk.2
                      simp only [hsd, Option.toList_some, List.all_cons, List.all_nil, Bool.and_true] at this
                      simp [hag.ev this]
                  have e3 : cs = #[c'] := by cases cs; simp at hcs; subst hcs; rfl
                  obtain ⟨inf, hinf, hzero⟩ : ∃ i, P.info? c'.elem = some i ∧ i.zero = some z := by
                    cases hi : P.info? c'.elem with
                    | none => simp [hi] at hz
                    | some i => exact ⟨i, rfl, by simpa [hi] using hz⟩
                  have hrun : (execOp a.eval o').run P w = .ok (.comm #[{ chan := .chan (some rr), send := c'.send.map e.ev, zero := z }] false .select) w := by
                    simp [execOp, hop, e3, zeroValue, typeInfo, program, bind, Sem.bind, pure, hinf, hzero, Sem.run, e1, e2, Functor.map]
                  refine ir_select ho (by simp [Region.wanted, hgd]) hrun ?_
                  have H' : selWp rr (c'.send.map e.ev) z (fun j ok v h' => (denOps P ops gs r (e.put o'.dst (selVal (c'.send.map e.ev) j ok v)) k).wp P QT h') w.heap := H
                  obtain ⟨cap, buf, s, rc, hc, H'⟩ := H'
                  refine ⟨cap, buf, s, rc, hc, ?_⟩
                  have go : ∀ j ok v h', (denOps P ops gs r (e.put o'.dst (selVal (c'.send.map e.ev) j ok v)) k).wp P QT h' → ∀ w', Same w w' → w'.heap = h' →
                      IR P ops (r ++ t) QC (a.put o'.dst (selVal (c'.send.map e.ev) j ok v)) w' := fun j ok v h' hh w' hs hw' => by
                    subst hw'
                    have hf : Fr W a (a.put o'.dst (selVal (c'.send.map e.ev) j ok v)) := Fr.put W a _ _ hdW
                    exact ih _ _ _ (hag.put o'.dst _ fun d hd => hb d (hdW d hd)) (hb.fr hf) hh
                      (fun e' a' w'' h1 h2 h3 h4 => hn e' a' w'' h1 (hf.trans h2) (hs.trans h3) h4) (fun c a' w'' h2 h3 h4 => hp c a' w'' (hf.trans h2) (hs.trans h3) h4)
                  cases hsd : c'.send.map e.ev with
                  | none =>
                    rw [hsd] at H' go
                    by_cases hh : 0 < buf.size
                    · simp only [if_pos hh] at H' ⊢; exact go _ _ _ _ H'
                    · simp only [if_neg hh] at H' ⊢; exact go _ _ _ _ H'
                  | some x =>
                    rw [hsd] at H' go
                    by_cases hh : buf.size < cap
                    · simp only [if_pos hh] at H' ⊢; exact go _ _ _ _ H'
                    · simp only [if_neg hh] at H' ⊢; exact go _ _ _ _ H'
              · exact H.elim
          · cases hs
        · cases hs
      · cases hs
    · refine stepTo_ir (stepTo_mono (fun a' w' hx => ?_) (fun c w' hx => ?_) (denStep_ok hag hW hb H w rfl))
      · obtain ⟨h1, e', h2, h3, h4⟩ := hx
        exact ih e' a' w' h2 (hb.fr h3) h4 (fun e2 a2 w2 g1 g2 g3 g4 => hn e2 a2 w2 g1 (h3.trans g2) (h1.trans g3) g4) (fun c a2 w2 g2 g3 g4 => hp c a2 w2 (h3.trans g2) (h1.trans g3) g4)
      · exact hp c a w' (.refl W a) hx.1 hx.2
theorem denOps_ir {gs : List Nat} {QT : Leaf → Heap → Prop} {W : List Nat} {QC : Exit → Act → World → Prop} {k : Env → T} (hW : ∀ o ∈ ops, ∀ d, o.dst = some d → d ∈ W) (l : List Nat)
    (e : Env) (a : Act) (w : World) (hag : Agrees e a.tmps) (hb : Bound W a) (H : (denOps P ops gs l e k).wp P QT w.heap)
    (hn : ∀ e' a' w', Agrees e' a'.tmps → Fr W a a' → Same w w' → (k e').wp P QT w'.heap → QC .normal a' w')
    (hp : ∀ c a' w', Fr W a a' → Same w w' → QT (.pan c) w'.heap → QC (.panic c) a' w') : IR P ops l QC a w := by
  have := denOps_irT (QC := QC) hW [] l e a w hag hb H (fun e' a' w' h1 h2 h3 h4 => ir_nil (hn e' a' w' h1 h2 h3 h4)) hp
  rwa [List.append_nil] at this
end
end Go.Eng

/-
  THE ENGINE, PART F: a region whose order is open: quiet operations are taken as soon as they can be; what they read is asked again behind each loud one that they may come after.
  Conditions: none; it speaks of any program.
-/
namespace Go.Eng
open Go

section
variable {P : Program} {ops : Array Oper}

/-! ## what is forced before what -/
def maskOf (m : List Nat) (o : Oper) : Nat := o.after.toList.foldl (fun s e => bif Region.binds .any e then s ||| 2 ^ e.on ||| m.getD e.on 0 else s) 0
def befs (l : List Oper) : List Nat := l.foldl (fun m o => m ++ [maskOf m o]) []
/-- 'i' is always before 'j'. -/
def forced (ms : List Nat) (j i : Nat) : Bool := (ms.getD j 0).testBit i

theorem maskOf_spec (m : List Nat) (o : Oper) (i : Nat) (h : (maskOf m o).testBit i = true) :
    ∃ e ∈ o.after, Region.binds .any e = true ∧ (e.on = i ∨ (m.getD e.on 0).testBit i = true) := by
  unfold maskOf at h
  have key : ∀ (l : List Edge) (s : Nat), (l.foldl (fun s e => bif Region.binds .any e then s ||| 2 ^ e.on ||| m.getD e.on 0 else s) s).testBit i = true →
      s.testBit i = true ∨ ∃ e ∈ l, Region.binds .any e = true ∧ (e.on = i ∨ (m.getD e.on 0).testBit i = true) := by
    intro l
    induction l with
    | nil => intro s h; exact .inl h
    | cons x r ih =>
      intro s h
      rcases ih _ h with h1 | ⟨e, he, h1⟩
      · dsimp only at h1
        cases hx : Region.binds .any x with
        | false => rw [hx] at h1; exact .inl h1
        | true =>
          rw [hx] at h1
          simp only [cond_true, Nat.testBit_or, Bool.or_eq_true, Nat.testBit_two_pow, decide_eq_true_eq] at h1
          rcases h1 with (h1 | h1) | h1
          · exact .inl h1
          · exact .inr ⟨x, by simp, hx, .inl h1⟩
          · exact .inr ⟨x, by simp, hx, .inr h1⟩
      · exact .inr ⟨e, by simp [he], h1⟩
  rcases key o.after.toList 0 h with h1 | ⟨e, he, h1⟩
  · simp at h1
  · exact ⟨e, Array.mem_toList_iff.1 he, h1⟩

theorem snocInd {α : Type} {p : List α → Prop} (h0 : p []) (hs : ∀ l a, p l → p (l ++ [a])) (l : List α) : p l := by
  have key : ∀ r : List α, p r.reverse := by
    intro r
    induction r with
    | nil => exact h0
    | cons a r ih => rw [List.reverse_cons]; exact hs _ _ ih
  simpa using key l.reverse
theorem befs_snoc (l : List Oper) (o : Oper) : befs (l ++ [o]) = befs l ++ [maskOf (befs l) o] := by
  simp [befs]
theorem befs_length (l : List Oper) : (befs l).length = l.length := by
  refine snocInd (p := fun l => (befs l).length = l.length) rfl (fun l o ih => ?_) l
  rw [befs_snoc]; simp [ih]
theorem befs_spec (l : List Oper) : ∀ (j i : Nat), ((befs l).getD j 0).testBit i = true →
    ∃ o, l[j]? = some o ∧ ∃ e ∈ o.after, Region.binds .any e = true ∧ (e.on = i ∨ (e.on < j ∧ ((befs l).getD e.on 0).testBit i = true)) := by
  refine snocInd (p := fun l => ∀ (j i : Nat), ((befs l).getD j 0).testBit i = true →
    ∃ o, l[j]? = some o ∧ ∃ e ∈ o.after, Region.binds .any e = true ∧ (e.on = i ∨ (e.on < j ∧ ((befs l).getD e.on 0).testBit i = true))) (fun j i h => ?_) (fun l o ih => ?_) l
  · simp [befs] at h
  · intro j i h
    rw [befs_snoc] at h
    rcases Nat.lt_trichotomy j l.length with hj | hj | hj
    · have e1 : (befs l ++ [maskOf (befs l) o]).getD j 0 = (befs l).getD j 0 := by
        simp only [List.getD_eq_getElem?_getD]
        rw [List.getElem?_append_left (by rw [befs_length]; exact hj)]
      rw [e1] at h
      obtain ⟨o', ho', e, he, hb, hh⟩ := ih j i h
      refine ⟨o', by rw [List.getElem?_append_left hj]; exact ho', e, he, hb, hh.imp id fun ⟨h1, h2⟩ => ⟨h1, ?_⟩⟩
      rw [befs_snoc]
      simp only [List.getD_eq_getElem?_getD] at h2 ⊢
      rw [List.getElem?_append_left (by rw [befs_length]; omega)]
      exact h2
    · subst hj
      have e1 : (befs l ++ [maskOf (befs l) o]).getD l.length 0 = maskOf (befs l) o := by
        simp only [List.getD_eq_getElem?_getD]
        rw [List.getElem?_append_right (by rw [befs_length]; omega), befs_length]
        simp
      rw [e1] at h
      obtain ⟨e, he, hb, hh⟩ := maskOf_spec _ _ _ h
      refine ⟨o, by simp, e, he, hb, hh.imp id fun h2 => ?_⟩
      have hlt : e.on < l.length := by
        rcases Nat.lt_or_ge e.on l.length with h3 | h3
        · exact h3
        · rw [List.getD_eq_getElem?_getD, List.getElem?_eq_none (by rw [befs_length]; exact h3)] at h2
          simp at h2
      refine ⟨hlt, ?_⟩
      rw [befs_snoc]
      simp only [List.getD_eq_getElem?_getD] at h2 ⊢
      rw [List.getElem?_append_left (by rw [befs_length]; exact hlt)]
      exact h2
    · rw [List.getD_eq_getElem?_getD, List.getElem?_eq_none (by simp [befs_length]; omega)] at h
      simp at h

/-- With each operation that is listed all that is forced before it is. -/
def Closed (ops : Array Oper) (listed : Array Bool) : Prop := ∀ j o, ops[j]? = some o → listed.getD j false = true → ∀ e ∈ o.after, Region.binds .any e = true → listed.getD e.on false = true

theorem closed_forced {listed : Array Bool} (hc : Closed ops listed) : ∀ (j i : Nat), listed.getD j false = true → forced (befs ops.toList) j i = true → listed.getD i false = true := by
  intro j
  induction j using Nat.strongRecOn with
  | _ j ih =>
    intro i hj hf
    obtain ⟨o, ho, e, he, hb, hh⟩ := befs_spec ops.toList j i hf
    have ho' : ops[j]? = some o := by rw [← Array.getElem?_toList]; exact ho
    have h1 := hc j o ho' hj e he hb
    rcases hh with rfl | ⟨hlt, h2⟩
    · exact h1
    · exact ih e.on hlt i h1 h2
theorem ready_forced {listed : Array Bool} (hc : Closed ops listed) {j i : Nat} (hr : j ∈ Region.ready .any ops listed) (hf : forced (befs ops.toList) j i = true) : listed.getD i false = true := by
  obtain ⟨o, ho, e, he, hb, hh⟩ := befs_spec ops.toList j i hf
  have ho' : ops[j]? = some o := by rw [← Array.getElem?_toList]; exact ho
  obtain ⟨_, o2, ho2, hall⟩ := mem_ready.1 hr
  rw [ho'] at ho2
  cases ho2
  have h1 := hall e he hb
  rcases hh with rfl | ⟨_, h2⟩
  · exact h1
  · exact closed_forced hc e.on i h1 h2

theorem closed_set {listed : Array Bool} {j : Nat} (hc : Closed ops listed) (hr : j ∈ Region.ready .any ops listed) : Closed ops (listed.setIfInBounds j true) := by
  intro m o ho hm e he hb
  by_cases hjm : j = m
  · subst hjm
    obtain ⟨_, o2, ho2, hall⟩ := mem_ready.1 hr
    rw [ho] at ho2
    cases ho2
    exact getD_set_true (hall e he hb)
  · rw [getD_set_ne false hjm] at hm
    exact getD_set_true (hc m o ho hm e he hb)

/-! ## the game of all orders, on heaps -/
abbrev Pins := List (Nat × (Heap → Prop))
def GH (P : Program) (ops : Array Oper) (Qh : Act → Heap → Prop) (X : List PanicEntry → Heap → Prop) : Nat → Array Bool → Pins → Act → Heap → Prop
  | 0, listed, _, a, h => Region.ready .any ops listed = [] ∧ Qh a h
  | n + 1, listed, pend, a, h => (Region.ready .any ops listed = [] → Qh a h) ∧
    ∀ j ∈ Region.ready .any ops listed, StepH P ops j (fun a' h' => (∀ p ∈ pend, forced (befs ops.toList) j p.1 = false → p.2 h') ∧
      GH P ops Qh X n (listed.setIfInBounds j true) (pend.filter fun p => !forced (befs ops.toList) j p.1) a' h') X a h

variable {Qh : Act → Heap → Prop} {X : List PanicEntry → Heap → Prop}

theorem gh_wpAny {Q : Exit → Act → World → Prop} {w0 : World} {a0 : Act} {W : List Nat} (hW : ∀ o ∈ ops, ∀ d, o.dst = some d → d ∈ W) (hn : ∀ a w, Same w0 w → Qh a w.heap → Q .normal a w) (hp : ∀ c a w, Fr W a0 a → Same w0 w → X c w.heap → Q (.panic c) a w) :
    ∀ (n : Nat) (listed : Array Bool) (pend : Pins) (a : Act) (w : World), Fr W a0 a → Same w0 w → GH P ops Qh X n listed pend a w.heap → wpAny P .any ops Q n listed a w := by
  intro n
  induction n with
  | zero => intro listed pend a w hd hs H; exact ⟨H.1, hn a w hs H.2⟩
  | succ n ih =>
    intro listed pend a w hd hs H
    refine ⟨fun h0 => hn a w hs (H.1 h0), fun j hj => stepTo_wpOp (stepTo_mono (fun a' w' hx => ?_) (fun c w' hx => ?_) (stepTo_fr hW (H.2 j hj w rfl)))⟩
    · exact ih _ _ a' w' (hd.trans hx.1) (hs.trans hx.2.1) hx.2.2.2
    · exact hp c a w' hd (hs.trans hx.1) hx.2

theorem gh_mono : ∀ (n : Nat) (listed : Array Bool) (pend pend' : Pins) (a : Act) (h : Heap), (∀ p ∈ pend', p ∈ pend) → GH P ops Qh X n listed pend a h → GH P ops Qh X n listed pend' a h := by
  intro n
  induction n with
  | zero => intro listed pend pend' a h hs H; exact H
  | succ n ih =>
    intro listed pend pend' a h hs H
    refine ⟨H.1, fun j hj => stepH_mono (fun a' h' ⟨h1, h2⟩ => ⟨fun p hp hf => h1 p (hs p hp) hf, ih _ _ _ a' h' (fun p hp => ?_) h2⟩) (fun _ _ x => x) (H.2 j hj)⟩
    rw [List.mem_filter] at hp ⊢
    exact ⟨hs p hp.1, hp.2⟩

/-- A quiet operation's run: a value, and nothing done. -/
def QRun (P : Program) (s : Sem Next) (v : Value) (h : Heap) : Prop :=
  ∀ w, w.heap = h → ∃ w', (s.run P w = .ok (.value v) w' ∨ (s.run P w = .ok .skip w' ∧ v = undef)) ∧ Same w w' ∧ w'.heap = h

theorem step_put {j : Nat} {oi oj : Oper} {v : Value} {a : Act} {h : Heap} {K : Act → Heap → Prop} (hj : ops[j]? = some oj) (hap : oi.apart ops oj = true)
    (hsj : ∀ cs b, oj.op ≠ .select cs b) (H : StepH P ops j K X (a.put oi.dst v) h) :
    StepH P ops j (fun a' h' => (∃ u, a' = a.put oj.dst u) ∧ K (a'.put oi.dst v) h') X a h := by
  obtain ⟨h1, h2, h3⟩ := Oper.apart_spec hap
  intro w hw
  have H := H w hw
  unfold StepTo at *
  simp only [hj] at H ⊢
  rw [wanted_put oj a oi.dst v h1, execOp_put oj hsj a oi.dst v h1] at H
  have cm : ∀ u, (a.put oi.dst v).put oj.dst u = (a.put oj.dst u).put oi.dst v := fun u => Act.put_comm a v u h2
  rcases H with ⟨g1, g2⟩ | ⟨g1, g2⟩
  · exact .inl ⟨g1, g2.1, ⟨_, rfl⟩, by rw [← cm]; exact g2.2⟩
  · refine .inr ⟨g1, ?_⟩
    rcases g2 with ⟨u, w', h3, h4⟩ | ⟨w', h3, h4⟩ | ⟨f, args, w', h3, h4⟩ | ⟨u, w', h3, h4⟩
    · exact .inl ⟨u, w', h3, h4.1, ⟨_, rfl⟩, by rw [← cm]; exact h4.2⟩
    · exact .inr (.inl ⟨w', h3, h4.1, ⟨_, rfl⟩, by rw [← cm]; exact h4.2⟩)
    · refine .inr (.inr (.inl ⟨f, args, w', h3, h4.mono fun e w'' he => ?_⟩))
      cases e with
      | returned u => exact ⟨he.1, ⟨_, rfl⟩, by rw [← cm]; exact he.2⟩
      | panicked c => exact he
      | outgrown => exact he
    · exact .inr (.inr (.inr ⟨u, w', h3, h4⟩))

/-- A quiet operation that can be taken may be taken first. -/
theorem gh_first {i : Nat} {oi : Oper} {v : Value} {s : Sem Next} {b : Bool} {R : Heap → Prop} (hi : ops[i]? = some oi) (hsel : ∀ (j : Nat) (o : Oper) cs b, ops[j]? = some o → o.op ≠ .select cs b)
    (hR : ∀ h, R h → b = true → QRun P s v h) (hv : b = false → v = undef) :
    ∀ (n : Nat) (listed : Array Bool) (pend : Pins) (a : Act) (h : Heap), Closed ops listed →
      (∀ j oj, ops[j]? = some oj → j ≠ i → listed.getD j true = false → (∀ e ∈ oj.after, Region.binds .any e = true → e.on ≠ i) → oi.apart ops oj = true) →
      i ∈ Region.ready .any ops listed → execOp a.eval oi = s → Region.wanted oi (yielded ops a.tmps) = b → R h → (∀ p ∈ pend, p.2 h) →
      GH P ops Qh X n (listed.setIfInBounds i true) ((i, R) :: pend) (a.put oi.dst v) h → GH P ops Qh X (n + 1) listed pend a h := by
  intro n
  have own : ∀ (n : Nat) (listed : Array Bool) (pend : Pins) (a : Act) (h : Heap), execOp a.eval oi = s → Region.wanted oi (yielded ops a.tmps) = b → R h → (∀ p ∈ pend, p.2 h) →
      GH P ops Qh X n (listed.setIfInBounds i true) ((i, R) :: pend) (a.put oi.dst v) h →
      StepH P ops i (fun a' h' => (∀ p ∈ pend, forced (befs ops.toList) i p.1 = false → p.2 h') ∧
        GH P ops Qh X n (listed.setIfInBounds i true) (pend.filter fun p => !forced (befs ops.toList) i p.1) a' h') X a h := by
    intro n listed pend a h he hb hr hpend H w hw
    unfold StepTo
    simp only [hi]
    have H' := gh_mono n _ _ (pend.filter fun p => !forced (befs ops.toList) i p.1) _ h (fun p hp => List.mem_cons_of_mem _ (List.mem_filter.1 hp).1) H
    cases b with
    | false =>
      refine .inl ⟨hb, .refl w, ?_⟩
      rw [hw]
      have := hv rfl
      subst this
      exact ⟨fun p hp _ => hpend p hp, H'⟩
    | true =>
      refine .inr ⟨hb, ?_⟩
      obtain ⟨w', h1, h2, h3⟩ := hR h hr rfl w hw
      rw [he]
      rcases h1 with h1 | ⟨h1, rfl⟩
      · refine .inl ⟨v, w', h1, h2, ?_⟩
        rw [h3]
        exact ⟨fun p hp _ => hpend p hp, H'⟩
      · refine .inr (.inl ⟨w', h1, h2, ?_⟩)
        rw [h3]
        exact ⟨fun p hp _ => hpend p hp, H'⟩
  induction n with
  | zero =>
    intro listed pend a h hcl hfree hr he hb hRh hpend H
    refine ⟨fun h0 => (by rw [h0] at hr; cases hr), fun j hj => ?_⟩
    by_cases hji : j = i
    · subst hji; exact own 0 listed pend a h he hb hRh hpend H
    · have := ready_mono hj hji
      rw [H.1] at this
      cases this
  | succ n ih =>
    intro listed pend a h hcl hfree hr he hb hRh hpend H
    refine ⟨fun h0 => (by rw [h0] at hr; cases hr), fun j hj => ?_⟩
    by_cases hji : j = i
    · subst hji; exact own (n + 1) listed pend a h he hb hRh hpend H
    · have h1 := H.2 j (ready_mono hj hji)
      obtain ⟨hjun, oj, hoj, hall⟩ := mem_ready.1 hj
      have hiun : listed.getD i false = false := by
        have h0 := (mem_ready.1 hr).1
        rcases Nat.lt_or_ge i listed.size with h' | h'
        · simpa [h'] using h0
        · simp [Array.getElem?_eq_none h']
      have hnot : ∀ e ∈ oj.after, Region.binds .any e = true → e.on ≠ i := fun e he hb heq => by
        have h1 := hall e he hb
        rw [heq, hiun] at h1
        cases h1
      have hnf : forced (befs ops.toList) j i = false := by
        cases hf : forced (befs ops.toList) j i with
        | false => rfl
        | true => have := ready_forced hcl hj hf; rw [hiun] at this; cases this
      have hap := hfree j oj hoj hji hjun hnot
      obtain ⟨q1, q2, q3⟩ := Oper.apart_spec hap
      have h2 := step_put hoj hap (fun cs b => hsel j oj cs b hoj) h1
      have hfree' : ∀ k ok, ops[k]? = some ok → k ≠ i → (listed.setIfInBounds j true).getD k true = false →
          (∀ e ∈ ok.after, Region.binds .any e = true → e.on ≠ i) → oi.apart ops ok = true := fun k ok hk hki hun hno => by
        refine hfree k ok hk hki ?_ hno
        by_cases hjk : j = k
        · subst hjk; exact hjun
        · rw [getD_set_ne true hjk] at hun; exact hun
      refine stepH_mono (fun a' h' hx => ?_) (fun _ _ x => x) h2
      obtain ⟨⟨u, rfl⟩, h3, h4⟩ := hx
      refine ⟨fun p hp hf => h3 p (List.mem_cons_of_mem _ hp) hf, ?_⟩
      refine ih (listed.setIfInBounds j true) _ (a.put oj.dst u) h' (closed_set hcl hj) hfree' (ready_mono hr (Ne.symm hji)) ?_ ?_ (h3 (i, R) (List.mem_cons_self ..) hnf) ?_ ?_
      · rw [execOp_put oi (fun cs b => hsel i oi cs b hi) a oj.dst u q3]; exact he
      · rw [wanted_put oi a oj.dst u q3]; exact hb
      · intro p hp
        rw [List.mem_filter] at hp
        exact h3 p (List.mem_cons_of_mem _ hp.1) (by simpa using hp.2)
      · rw [Array.setIfInBounds_comm _ _ hji]
        rw [List.filter_cons_of_pos (by simp [hnf])] at h4
        exact h4
end
end Go.Eng

/-
  THE ENGINE, PART G: the tree of a region whose order is open, and that it holds in whatever order.
  Conditions: none; it speaks of any program.
-/
namespace Go.Eng
open Go

section
variable {P : Program} {ops : Array Oper}

/-! ## quiet operations -/
def outT (u : Value) : T := .out [u]
def QV (v : Value) (h' : Heap) (l : Leaf) (hh : Heap) : Prop := l = .out [v] ∧ hh = h'
def PureD (P : Program) (D : (Value → T) → T) : Prop := ∀ (k : Value → T) (Q : Leaf → Heap → Prop) (h : Heap), (D k).wp P Q h → ∃ v, (k v).wp P Q h ∧ ∀ h', (D outT).wp P (QV v h') h'

theorem pure_k (v : Value) : PureD P (fun k => k v) := fun _ _ _ H => ⟨v, H, fun _ => ⟨rfl, rfl⟩⟩
theorem pure_stuck : PureD P (fun _ => .stuck) := fun _ _ _ H => H.elim
theorem pure_deref {p : Option Addr} {D : Addr → (Value → T) → T} (hD : ∀ a, PureD P (D a)) : PureD P (fun k => deref p fun a => D a k) := by
  cases p with
  | none => exact pure_stuck
  | some a => exact hD a
theorem pure_chk {c : Prop} [Decidable c] {D : (Value → T) → T} (hD : PureD P D) : PureD P (fun k => chk c (D k)) := by
  intro k Q h H
  obtain ⟨v, h1, h2⟩ := hD k Q h H.2
  exact ⟨v, h1, fun h' => ⟨H.1, h2 h'⟩⟩
theorem pure_ite {c : Prop} [Decidable c] {D D' : (Value → T) → T} (hD : PureD P D) (hD' : PureD P D') : PureD P (fun k => if c then D k else D' k) := by
  by_cases hc : c
  · simp only [if_pos hc]; exact hD
  · simp only [if_neg hc]; exact hD'
theorem pure_cond {b : Bool} {D D' : (Value → T) → T} (hD : PureD P D) (hD' : PureD P D') : PureD P (fun k => cond b (D k) (D' k)) := by
  cases b
  · exact hD'
  · exact hD
theorem pure_sem {α : Type} (s : Sem α) {f : α → (Value → T) → T} (hf : ∀ a, PureD P (f a)) : PureD P (fun k => denSem true P s fun a => f a k) := by
  induction s with
  | pure a => exact hf a
  | program g ih => exact ih _
  | mark m g ih => exact ih
  | halt x => cases x <;> exact pure_stuck
  | load m a g ih => exact pure_stuck
  | store m a v g ih => exact pure_stuck
  | new o g ih => exact pure_stuck
  | shape r g ih => exact pure_stuck
  | freeze a n g ih => exact pure_stuck
  | frozen a g ih => exact pure_stuck
  | getObj r g ih => exact pure_stuck
  | setObj r o g ih => exact pure_stuck
  | choose q g ih => exact pure_stuck
  | sys c g ih => exact pure_stuck
theorem pure_sem' (s : Sem Value) : PureD P (fun k => denSem true P s k) := pure_sem s (f := fun a k => k a) fun a => pure_k a

theorem pure_agg {t : TypeId} {xs ys : Array Value} {f : Bool → (Value → T) → T} (hf : ∀ r, PureD P (f r)) : PureD P (fun k => aggEq P t xs ys (fun r => f r k) .stuck) := by
  unfold aggEq
  split
  · split
    · exact hf _
    · exact pure_stuck
  · exact pure_stuck
theorem pure_bin (op : BinOp) (t : TypeId) (x y : Operand) (a b : Value) : PureD P (fun k => denBin true P op t x y a b k) := by
  unfold denBin
  split
  case h_1 => exact pure_ite (pure_k _) pure_stuck
  case h_2 => exact pure_ite (pure_k _) pure_stuck
  case h_3 => exact pure_ite (pure_k _) pure_stuck
  case h_4 => exact pure_ite (pure_chk (pure_k _)) pure_stuck
  case h_5 => exact pure_ite (pure_chk (pure_k _)) pure_stuck
  case h_6 => exact pure_chk (pure_k _)
  case h_7 => exact pure_chk (pure_k _)
  case h_8 => exact pure_ite (pure_k _) pure_stuck
  case h_9 => exact pure_ite (pure_k _) pure_stuck
  case h_10 => exact pure_ite (pure_k _) pure_stuck
  case h_11 => exact pure_ite (pure_k _) pure_stuck
  case h_12 => exact pure_ite (pure_k _) pure_stuck
  case h_13 => exact pure_ite (pure_k _) pure_stuck
  case h_14 => exact pure_chk (pure_k _)
  case h_15 => exact pure_k _
  case h_16 => exact pure_k _
  case h_17 p => exact pure_sem _ (f := fun (d : TypeDesc) (k : Value → T) => match d with | .pointer _ => k (.bool p.isNone) | _ => .stuck) fun d => by cases d <;> first | exact pure_k _ | exact pure_stuck
  case h_18 p => exact pure_sem _ (f := fun (d : TypeDesc) (k : Value → T) => match d with | .pointer _ => k (.bool !p.isNone) | _ => .stuck) fun d => by cases d <;> first | exact pure_k _ | exact pure_stuck
  case h_19 p _ _ _ _ => exact pure_sem _ (f := fun (d : TypeDesc) (k : Value → T) => match d with | .slice _ => k (.bool p.isNone) | _ => .stuck) fun d => by cases d <;> first | exact pure_k _ | exact pure_stuck
  case h_20 p _ _ _ _ => exact pure_sem _ (f := fun (d : TypeDesc) (k : Value → T) => match d with | .slice _ => k (.bool !p.isNone) | _ => .stuck) fun d => by cases d <;> first | exact pure_k _ | exact pure_stuck
  case h_21 m n => exact pure_sem _ (f := fun (d : TypeDesc) (k : Value → T) => match d with | .bool => k (.bool (m == n)) | _ => .stuck) fun d => by cases d <;> first | exact pure_k _ | exact pure_stuck
  case h_22 m n => exact pure_sem _ (f := fun (d : TypeDesc) (k : Value → T) => match d with | .bool => k (.bool !(m == n)) | _ => .stuck) fun d => by cases d <;> first | exact pure_k _ | exact pure_stuck
  case h_23 => exact pure_agg (f := fun r k => k (.bool r)) fun r => pure_k _
  case h_24 => exact pure_agg (f := fun r k => k (.bool !r)) fun r => pure_k _
  case h_25 => exact pure_stuck
  case h_26 => exact pure_stuck
  case h_27 => exact pure_sem' _

theorem pure_slice (t : TypeId) (x : Value) (lo hi mx : Option Value) : PureD P (fun k => denSlice true P t x lo hi mx k) := by
  unfold denSlice
  split
  · split
    · exact pure_chk (pure_k _)
    · exact pure_stuck
  · split
    · exact pure_chk (pure_k _)
    · exact pure_stuck
  · exact pure_stuck

theorem pure_call (ρ : Operand → Value) (c : Call) (t : TypeId) : PureD P (fun k => denCall true P ρ c t k) := by
  unfold denCall
  split
  · rename_i b hc
    cases b <;> first | exact pure_stuck | exact pure_sem' _ | skip
    case len =>
      dsimp only
      split
      · split <;> first | exact pure_k _ | exact pure_stuck
      · exact pure_stuck
    case cap =>
      dsimp only
      split
      · split <;> first | exact pure_k _ | exact pure_stuck
      · exact pure_stuck
  · unfold callV
    split
    · split
      · split <;> exact pure_stuck
      · exact pure_stuck
    · exact pure_stuck
  · exact pure_stuck

/-- What a load has read: the cells, and what they held. -/
def cellsAt (a : Addr) (v : Value) : List (Addr × Value) := match v with
  | .agg cs => cs.toList.zipIdx.map fun c => (a.add c.2, c.1)
  | v => [(a, v)]
def pinOf (ρ : Operand → Value) (o : Oper) (v : Value) : List (Addr × Value) := match o.op with
  | .load _ x => match ρ x with
    | .pointer (some a) => cellsAt a v
    | _ => []
  | _ => []
def Holds (l : List (Addr × Value)) (h : Heap) : Prop := ∀ c ∈ l, cellH h c.1 = some c.2

theorem loads_pure (l : List Atom) (a : Addr) {f : Array Value → (Value → T) → T} (hf : ∀ cs k, f cs k = k (.agg cs)) : ∀ (i : Nat) (acc : Array Value) (k : Value → T) (Q : Leaf → Heap → Prop) (h : Heap),
    (loadsT l a i acc fun cs => f cs k).wp P Q h → ∃ r : List Value, r.length = l.length ∧ (k (.agg (acc ++ r.toArray))).wp P Q h ∧ (∀ j v, r[j]? = some v → cellH h (a.add (i + j)) = some v) ∧
      ∀ h', (∀ j v, r[j]? = some v → cellH h' (a.add (i + j)) = some v) → (loadsT l a i acc fun cs => f cs outT).wp P (QV (.agg (acc ++ r.toArray)) h') h' := by
  induction l with
  | nil =>
    intro i acc k Q h H
    refine ⟨[], rfl, ?_, ?_, ?_⟩
    · simpa [loadsT, hf] using H
    · intro j v hj; simp at hj
    · intro h' _; simp [loadsT, hf, outT, T.wp, QV]
  | cons s r ih =>
    intro i acc k Q h H
    obtain ⟨x, hx, H⟩ := H
    obtain ⟨rr, h1, h2, h3, h4⟩ := ih (i + 1) (acc.push (s.val x)) k Q h H
    refine ⟨s.val x :: rr, by simp [h1], ?_, ?_, ?_⟩
    · have e : acc ++ (s.val x :: rr).toArray = acc.push (s.val x) ++ rr.toArray := by
        apply Array.ext'
        simp
      rw [e]; exact h2
    · intro j v hj
      cases j with
      | zero => simp at hj; subst hj; exact hx
      | succ j =>
        simp at hj
        have := h3 j v hj
        rw [show i + (j + 1) = i + 1 + j by omega]; exact this
    · intro h' hh
      refine ⟨x, by simpa using hh 0 (s.val x) (by simp), ?_⟩
      have e : acc ++ (s.val x :: rr).toArray = acc.push (s.val x) ++ rr.toArray := by
        apply Array.ext'
        simp
      rw [e]
      refine h4 h' fun j v hj => ?_
      have := hh (j + 1) v (by simpa using hj)
      rw [show i + 1 + j = i + (j + 1) by omega]; exact this

theorem load_pure {t : TypeId} {a : Addr} {k : Value → T} {Q : Leaf → Heap → Prop} {h : Heap} (H : (denLoad P t a k).wp P Q h) :
    ∃ v, (k v).wp P Q h ∧ Holds (cellsAt a v) h ∧ ∀ h', Holds (cellsAt a v) h' → (denLoad P t a outT).wp P (QV v h') h' := by
  unfold denLoad at H ⊢
  split at H
  · rename_i d i hd hi
    split at H
    · rename_i l hag hsh
      split at H
      · rename_i hlen
        obtain ⟨r, h1, h2, h3, h4⟩ := loads_pure (P := P) l a (f := fun cs k => k (.agg cs)) (fun _ _ => rfl) 0 #[] k Q h H
        refine ⟨.agg (#[] ++ r.toArray), h2, ?_, fun h' hh => ?_⟩
        · intro c hc
          simp only [cellsAt, List.mem_map] at hc
          obtain ⟨⟨v, j⟩, hm, rfl⟩ := hc
          have := List.mem_zipIdx_iff_getElem?.1 hm
          simpa using h3 j v (by simpa using this)
        · simp only [if_pos hlen]
          refine h4 h' fun j v hj => ?_
          have := hh (a.add j, v) (by
            simp only [cellsAt, List.mem_map]
            exact ⟨(v, j), List.mem_zipIdx_iff_getElem?.2 (by simpa using hj), rfl⟩)
          simpa using this
      · exact H.elim
    · rename_i s hag hsh
      obtain ⟨x, hx, H⟩ := H
      have hc : cellsAt a (s.val x) = [(a, s.val x)] := by
        have := Atom.val_plain s x
        cases hv : s.val x <;> simp_all [cellsAt, Value.plain]
      refine ⟨s.val x, H, ?_, fun h' hh => ?_⟩
      · rw [hc]; intro c hcm; simp at hcm; subst hcm; exact hx
      · exact ⟨x, hh (a, s.val x) (by rw [hc]; simp), rfl, rfl⟩
    · exact H.elim
  · exact H.elim

theorem quiet_spec {ρ : Operand → Value} {o : Oper} {k : Value → T} {Q : Leaf → Heap → Prop} {h : Heap} (H : (denOp true P ρ o k).wp P Q h) :
    ∃ v, (k v).wp P Q h ∧ Holds (pinOf ρ o v) h ∧ ∀ h', Holds (pinOf ρ o v) h' → (denOp true P ρ o outT).wp P (QV v h') h' := by
  obtain ⟨dst, op, type, pos, after, guard⟩ := o
  have fin : ∀ {D : (Value → T) → T}, PureD P D → (∀ k, denOp true P ρ ⟨dst, op, type, pos, after, guard⟩ k = D k) → (∀ v, pinOf ρ ⟨dst, op, type, pos, after, guard⟩ v = []) →
      ∃ v, (k v).wp P Q h ∧ Holds (pinOf ρ ⟨dst, op, type, pos, after, guard⟩ v) h ∧ ∀ h', Holds (pinOf ρ ⟨dst, op, type, pos, after, guard⟩ v) h' → (denOp true P ρ ⟨dst, op, type, pos, after, guard⟩ outT).wp P (QV v h') h' := by
    intro D hD hk hp
    rw [hk] at H
    obtain ⟨v, h1, h2⟩ := hD k Q h H
    refine ⟨v, h1, ?_, fun h' _ => ?_⟩
    · rw [hp]; intro c hc; cases hc
    · rw [hk]; exact h2 h'
  cases op <;> first | exact H.elim | skip
  case move x => exact fin (pure_k (ρ x)) (fun _ => rfl) (fun _ => rfl)
  case assign x => exact fin (pure_k (ρ x)) (fun _ => rfl) (fun _ => rfl)
  case pick c a b =>
    cases hc : ρ c with
    | bool t => exact fin (pure_cond (b := t) (pure_k (ρ a)) (pure_k (ρ b))) (fun k => by simp only [denOp, hc]) (fun _ => rfl)
    | _ => simp only [denOp, hc] at H; exact H.elim
  case alloc e => exact fin (pure_sem' _) (fun _ => rfl) (fun _ => rfl)
  case build t ps => exact fin (pure_sem' _) (fun _ => rfl) (fun _ => rfl)
  case buildSlice t n ps => exact fin (pure_sem' _) (fun _ => rfl) (fun _ => rfl)
  case load t x =>
    simp only [denOp] at H
    cases hx : ρ x with
    | pointer p =>
      cases p with
      | none => rw [hx] at H; exact H.elim
      | some a =>
        rw [hx] at H
        obtain ⟨v, h1, h2, h3⟩ := load_pure H
        refine ⟨v, h1, by simpa [pinOf, hx] using h2, fun h' hh => ?_⟩
        simp only [denOp, hx]
        exact h3 h' (by simpa [pinOf, hx] using hh)
    | _ => rw [hx] at H; exact H.elim
  case store t a x =>
    refine fin (D := fun k => denOp true P ρ ⟨_, .store t a x, type, pos, after, guard⟩ k) ?_ (fun _ => rfl) (fun _ => rfl)
    simp only [denOp]
    split
    · exact pure_deref (D := fun b k => denSem true P (Instr.storeAt t (.pointer (some b)) (ρ x)) fun _ => k undef) fun b => pure_sem (Instr.storeAt t (.pointer (some b)) (ρ x)) (f := fun _ k => k undef) fun _ => pure_k undef
    · exact pure_sem (Instr.storeAt t _ (ρ x)) (f := fun _ k => k undef) fun _ => pure_k undef
  case nilCheck x =>
    cases hx : ρ x with
    | pointer p => exact fin (pure_deref (p := p) (D := fun a k => k (.pointer (some a))) fun a => pure_k _) (fun k => by simp only [denOp, hx]) (fun _ => rfl)
    | func f a b =>
      cases f with
      | func g => exact fin (pure_k (.func (.func g) a b)) (fun k => by simp only [denOp, hx]) (fun _ => rfl)
      | _ => simp only [denOp, hx] at H; exact H.elim
    | iface t v => exact fin (pure_k (.iface t v)) (fun k => by simp only [denOp, hx]) (fun _ => rfl)
    | _ => simp only [denOp, hx] at H; exact H.elim
  case binOp op xt x y yt => exact fin (pure_bin op xt x y (ρ x) (ρ y)) (fun _ => rfl) (fun _ => rfl)
  case unOp op xt x => exact fin (pure_sem' _) (fun _ => rfl) (fun _ => rfl)
  case convert src dst x =>
    refine fin (D := fun k => denOp true P ρ ⟨_, .convert src dst x, type, pos, after, guard⟩ k) ?_ (fun _ => rfl) (fun _ => rfl)
    simp only [denOp]
    split
    · exact pure_sem' _
    · exact pure_sem' _
    · exact pure_stuck
  case makeInterface t x => exact fin (pure_sem' _) (fun _ => rfl) (fun _ => rfl)
  case makeFunc fn first captured => exact fin (pure_k _) (fun _ => rfl) (fun _ => rfl)
  case makeMap t r => exact fin (pure_sem' _) (fun _ => rfl) (fun _ => rfl)
  case slice t x lo hi mx => exact fin (pure_slice t (ρ x) _ _ _) (fun _ => rfl) (fun _ => rfl)
  case fieldAddr s x f =>
    refine fin (D := fun k => denOp true P ρ ⟨_, .fieldAddr s x f, type, pos, after, guard⟩ k) ?_ (fun _ => rfl) (fun _ => rfl)
    simp only [denOp]
    split
    · exact pure_deref (D := fun a k => denSem true P (Instr.fieldAt s (.pointer (some a)) f) k) fun a => pure_sem' _
    · exact pure_sem' _
  case field t x f => exact fin (pure_sem' _) (fun _ => rfl) (fun _ => rfl)
  case indexAddr t x ix =>
    refine fin (D := fun k => denOp true P ρ ⟨_, .indexAddr t x ix, type, pos, after, guard⟩ k) ?_ (fun _ => rfl) (fun _ => rfl)
    simp only [denOp]
    split
    · split
      · exact pure_deref (D := fun a k => chk _ (k (.pointer (some (a.add _))))) fun a => pure_chk (pure_k _)
      · exact pure_stuck
    · split
      · exact pure_chk (pure_k _)
      · exact pure_stuck
    · exact pure_stuck
  case index t x ix =>
    refine fin (D := fun k => denOp true P ρ ⟨_, .index t x ix, type, pos, after, guard⟩ k) ?_ (fun _ => rfl) (fun _ => rfl)
    simp only [denOp]
    split
    · exact pure_chk (pure_k _)
    · exact pure_sem' _
  case extract t ix => exact fin (pure_sem' _) (fun _ => rfl) (fun _ => rfl)
  case call c => exact fin (pure_call ρ c type) (fun _ => rfl) (fun _ => rfl)
  case panic x => exact fin (pure_sem' _) (fun _ => rfl) (fun _ => rfl)

theorem quiet_run {ρ : Operand → Value} {o : Oper} {v : Value} {h : Heap} (H : (denOp true P ρ o outT).wp P (QV v h) h) : QRun P (execOp ρ o) v h := by
  intro w hw
  subst hw
  rcases semWp_run _ w (denOp_ok H) with ⟨nx, w', h1, h2, h3⟩ | ⟨u, w', h1, h2, h3⟩
  · cases nx <;> first | exact h3.elim | skip
    case value u =>
      obtain ⟨h4, h5⟩ := h3
      simp only [Leaf.out.injEq, List.cons.injEq, and_true] at h4
      subst h4
      exact ⟨w', .inl h1, h2, h5⟩
    case skip =>
      obtain ⟨h4, h5⟩ := h3
      simp only [Leaf.out.injEq, List.cons.injEq, and_true] at h4
      exact ⟨w', .inr ⟨h1, h4.symm⟩, h2, h5⟩
    case enter f args => cases h3.1
  · cases h3.1
end
end Go.Eng

/-
  THE ENGINE, PART H: the tree of a region whose order is open holds in whatever order.
  Conditions: the program follows 'mixedOrders' (each loaded program of the kit does).
-/
namespace Go.Eng
open Go

def isQuiet (P : Program) (o : Oper) : Bool := match o.op with
  | .move _ | .assign _ | .pick _ _ _ | .load _ _ | .nilCheck _ | .binOp _ _ _ _ _ | .unOp _ _ _ | .slice _ _ _ _ _ | .index _ _ _ | .indexAddr _ _ _
  | .makeInterface _ _ | .makeFunc _ _ _ | .fieldAddr _ _ _ | .field _ _ _ | .extract _ _ | .build _ _ => true
  | .convert src dst _ => match P.underlying src, P.underlying dst with
    | some (.int _), some (.int _) => true
    | some .string, some .string => true
    | _, _ => false
  | .call c => match c.callee with
    | .builtin .min | .builtin .max => true
    | .builtin .len | .builtin .cap => match c.argTypes[0]? with
      | some t => match P.underlying t with
        | some .string | some (.slice _) | some (.array _ _) => true
        | _ => false
      | none => false
    | _ => false
  | _ => false
def quietAt (P : Program) (ops : Array Oper) (i : Nat) : Bool := match ops[i]? with
  | some o => isQuiet P o
  | none => false
def stills : List (Addr × Value) → T → T
  | [], t => t
  | (a, v) :: r, t => .still a v (stills r t)
def bothAll : List T → T
  | [] => .stuck
  | [t] => t
  | t :: r => .both t (bothAll r)
def guardsOf (ops : Array Oper) : List Nat := ops.toList.filterMap fun o => o.guard.map (·.1)

def denDraw (P : Program) (ops : Array Oper) (gs ms : List Nat) : Nat → Array Bool → List (Nat × List (Addr × Value)) → Env → (Env → T) → T
  | 0, listed, _, e, k => match Region.ready .any ops listed with
    | [] => k e
    | _ => .stuck
  | n + 1, listed, pend, e, k => match Region.ready .any ops listed with
    | [] => k e
    | r => match r.find? fun i => quietAt P ops i && Region.free .any ops listed i with
      | some i => match ops[i]? with
        | none => .stuck
        | some o => match gval ops e o with
          | none => .stuck
          | some false => denDraw P ops gs ms n (listed.setIfInBounds i true) ((i, []) :: pend) (e.put o.dst undef) k
          | some true => bif o.op.operands.toList.all e.has then
              denOp true P e.ev o fun v => splitG (gs.contains i) v fun v => denDraw P ops gs ms n (listed.setIfInBounds i true) ((i, pinOf e.ev o v) :: pend) (e.put o.dst v) k
            else .stuck
      | none => bothAll (r.map fun j => denStep false P ops gs e j fun e' =>
          stills ((pend.filter fun p => !forced ms j p.1).flatMap (·.2)) (denDraw P ops gs ms n (listed.setIfInBounds j true) (pend.filter fun p => !forced ms j p.1) e' k))

section
variable {P : Program} {ops : Array Oper}

theorem stills_ok {l : List (Addr × Value)} {t : T} {Q : Leaf → Heap → Prop} {h : Heap} (H : (stills l t).wp P Q h) : Holds l h ∧ t.wp P Q h := by
  induction l with
  | nil => exact ⟨fun c hc => (by cases hc), H⟩
  | cons x r ih =>
    obtain ⟨a, v⟩ := x
    obtain ⟨h1, h2⟩ := H
    obtain ⟨h3, h4⟩ := ih h2
    refine ⟨fun c hc => ?_, h4⟩
    rcases List.mem_cons.1 hc with rfl | hc
    · exact h1
    · exact h3 c hc
theorem bothAll_ok {l : List T} {Q : Leaf → Heap → Prop} {h : Heap} (H : (bothAll l).wp P Q h) : ∀ t ∈ l, t.wp P Q h := by
  induction l with
  | nil => exact H.elim
  | cons t r ih =>
    cases r with
    | nil => intro t' ht; simp at ht; subst ht; exact H
    | cons t2 r =>
      obtain ⟨h1, h2⟩ := H
      intro t' ht
      rcases List.mem_cons.1 ht with rfl | ht
      · exact h1
      · exact ih h2 t' ht

theorem denDraw_gh {gs : List Nat} {k : Env → T} {QT : Leaf → Heap → Prop} {W : List Nat} {a0 : Act} (hsel : Region.noSelect ops = true) (hW : ∀ o ∈ ops, ∀ d, o.dst = some d → d ∈ W) :
    ∀ (n : Nat) (listed : Array Bool) (pend : List (Nat × List (Addr × Value))) (e : Env) (a : Act) (h : Heap), Agrees e a.tmps → Bound W a → Fr W a0 a → Closed ops listed → (∀ p ∈ pend, Holds p.2 h) →
      (denDraw P ops gs (befs ops.toList) n listed pend e k).wp P QT h →
      GH P ops (fun a' h' => ∃ e', Agrees e' a'.tmps ∧ Fr W a0 a' ∧ (k e').wp P QT h') (fun c h' => QT (.pan c) h') n listed (pend.map fun p => (p.1, Holds p.2)) a h := by
  intro n
  induction n with
  | zero =>
    intro listed pend e a h hag hb hfr hcl hp H
    unfold denDraw at H
    split at H
    · rename_i hr; exact ⟨hr, e, hag, hfr, H⟩
    · exact H.elim
  | succ n ih =>
    intro listed pend e a h hag hb hfr hcl hp H
    unfold denDraw at H
    split at H
    · rename_i hr
      refine ⟨fun _ => ⟨e, hag, hfr, H⟩, fun j hj => ?_⟩
      rw [hr] at hj
      cases hj
    · rename_i hne
      split at H
      · rename_i i hf
        have hmem := List.mem_of_find?_eq_some hf
        have hq := List.find?_some hf
        rw [Bool.and_eq_true] at hq
        split at H
        · exact H.elim
        · rename_i o ho
          have hdW : ∀ d, o.dst = some d → d ∈ W := hW o (Array.mem_of_getElem? ho)
          have hput : ∀ v, Agrees (e.put o.dst v) (a.put o.dst v).tmps := fun v => hag.put o.dst v fun d hd => hb d (hdW d hd)
          have hfree := fun j oj hoj hne hun hno => Region.free_spec ho hq.2 j oj hoj hne hun hno
          split at H
          · exact H.elim
          · rename_i hg
            have hf1 : Fr W a (a.put o.dst undef) := Fr.put W a _ _ hdW
            refine gh_first (b := false) (v := undef) (s := execOp a.eval o) (R := Holds []) ho (Region.noSelect_spec hsel) (fun _ _ hh => by cases hh) (fun _ => rfl) n listed _ a h hcl hfree hmem rfl (gval_ok hag hg)
              (fun c hc => by cases hc) (fun p hpm => ?_) (ih _ ((i, []) :: pend) _ _ h (hput undef) (hb.fr hf1) (hfr.trans hf1) (closed_set hcl hmem) (fun p hpm => ?_) H)
            · obtain ⟨p', hp', rfl⟩ := List.mem_map.1 hpm; exact hp p' hp'
            · rcases List.mem_cons.1 hpm with rfl | hpm
              · exact fun c hc => by cases hc
              · exact hp p hpm
          · rename_i hg
            cases hall : o.op.operands.toList.all e.has with
            | false => rw [hall] at H; exact H.elim
            | true =>
              rw [hall] at H
              simp only [cond_true] at H
              have hcong : execOp a.eval o = execOp e.ev o := execOp_congr o (notSelect H) fun x hx => hag.ev (List.all_eq_true.1 hall x (Array.mem_toList_iff.2 hx))
              obtain ⟨v, h1, h2, h3⟩ := quiet_spec H
              have h1 := splitG_ok h1
              have hf1 : Fr W a (a.put o.dst v) := Fr.put W a _ _ hdW
              refine gh_first (b := true) (v := v) (s := execOp e.ev o) (R := Holds (pinOf e.ev o v)) ho (Region.noSelect_spec hsel) (fun h' hh _ => quiet_run (h3 h' hh)) (fun hh => by cases hh) n listed _ a h hcl hfree hmem hcong (gval_ok hag hg)
                h2 (fun p hpm => ?_) (ih _ ((i, pinOf e.ev o v) :: pend) _ _ h (hput v) (hb.fr hf1) (hfr.trans hf1) (closed_set hcl hmem) (fun p hpm => ?_) h1)
              · obtain ⟨p', hp', rfl⟩ := List.mem_map.1 hpm; exact hp p' hp'
              · rcases List.mem_cons.1 hpm with rfl | hpm
                · exact h2
                · exact hp p hpm
      · refine ⟨fun h0 => absurd h0 (by simpa using hne), fun j hj => ?_⟩
        have Hj := bothAll_ok H _ (List.mem_map.2 ⟨j, hj, rfl⟩)
        refine stepH_mono (fun a' h' hx => ?_) (fun _ _ x => x) (denStep_ok hag hW hb Hj)
        obtain ⟨e', g1, g2, g3⟩ := hx
        obtain ⟨g4, g5⟩ := stills_ok g3
        have hpp : ∀ p ∈ pend.filter (fun p => !forced (befs ops.toList) j p.1), Holds p.2 h' := fun p hpm c hc => g4 c (List.mem_flatMap.2 ⟨p, hpm, hc⟩)
        refine ⟨fun p hpm hf => ?_, ?_⟩
        · obtain ⟨p', hp', rfl⟩ := List.mem_map.1 hpm
          exact hpp p' (List.mem_filter.2 ⟨hp', by simpa using hf⟩)
        · have := ih _ _ e' a' h' g1 (hb.fr g2) (hfr.trans g2) (closed_set hcl hj) hpp g5
          have e2 : (pend.filter fun p => !forced (befs ops.toList) j p.1).map (fun p => (p.1, Holds p.2)) = (pend.map fun p => (p.1, Holds p.2)).filter fun p => !forced (befs ops.toList) j p.1 := by
            rw [List.filter_map]; rfl
          rw [← e2]; exact this

/-- A region, whether its order is the text's or open. -/
def denRegion (P : Program) (ops : Array Oper) (draw : Bool) (e : Env) (k : Env → T) : T := match draw with
  | false => denOps P ops (guardsOf ops) (List.range ops.size) e k
  | true => bif Region.noSelect ops then denDraw P ops (guardsOf ops) (befs ops.toList) ops.size (Array.replicate ops.size false) [] e k else .stuck

theorem denRegion_ok {id : Nat} {draw : Bool} {k : Env → T} {QT : Leaf → Heap → Prop} {W : List Nat} {QC : Exit → Act → World → Prop} {e : Env} {a : Act} {w : World} (hm : P.follows .mixedOrders = true)
    (hW : ∀ o ∈ ops, ∀ d, o.dst = some d → d ∈ W) (hag : Agrees e a.tmps) (hb : Bound W a) (H : (denRegion P ops draw e k).wp P QT w.heap)
    (hn : ∀ e' a' w', Agrees e' a'.tmps → Fr W a a' → Same w w' → (k e').wp P QT w'.heap → QC .normal a' w')
    (hp : ∀ c a' w', Fr W a a' → Same w w' → QT (.pan c) w'.heap → QC (.panic c) a' w') : (Code.region id ops draw).wp P QC a w := by
  cases draw with
  | false =>
    intro b k' cs
    obtain ⟨ex, a', w', hq, harr⟩ := denOps_ir (QC := QC) hW (List.range ops.size) e a w hag hb H hn hp b k' cs
    exact ⟨ex, a', w', hq, .of_steps (.one step_region) harr⟩
  | true =>
    unfold denRegion at H
    cases hs : Region.noSelect ops with
    | false => rw [hs] at H; exact H.elim
    | true =>
      rw [hs] at H
      simp only [cond_true] at H
      have h0 : ∀ j, (Array.replicate ops.size false).getD j false = false := fun j => by
        rw [Array.getD_eq_getD_getElem?, Array.getElem?_replicate]
        split <;> rfl
      have g := denDraw_gh (a0 := a) hs hW ops.size (Array.replicate ops.size false) [] e a w.heap hag hb (.refl W a) (fun j o ho hj => by rw [h0] at hj; cases hj) (fun p hpm => by cases hpm) H
      have hs0 : Same w { w with drawn := w.drawn + 1 } := ⟨rfl, rfl, rfl, Nat.le_refl _⟩
      refine wp_region_any hm (gh_wpAny (Q := QC) (w0 := w) (a0 := a) hW (fun a' w' hsm hq => ?_) (fun c a' w' hd hsm hq => hp c a' w' hd hsm hq) _ _ _ _ _ (.refl W a) hs0 g)
      obtain ⟨e', g1, g2, g3⟩ := hq
      exact hn e' a' w' g1 g2 hsm g3
end
end Go.Eng
