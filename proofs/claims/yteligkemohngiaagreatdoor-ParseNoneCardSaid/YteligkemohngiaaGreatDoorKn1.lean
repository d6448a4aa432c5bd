/-
  EngA, EngB, EngC, EngD, EngE, EngF, EngG, EngH, EngI, EngJ, DenX, Den, EngU, EngV, EngW, put together.
  Conditions: none; each part tells its own.
-/
import Derived.Calls
import Derived.Defers
import Derived.Orders
import Derived.Laws.StructEq
import Derived.Conc.LoneSelect
import Derived.Scope
import Derived.Recover
import Derived.Test.YteligkemohngiaaGreatDoorProg
import Derived.KernelRfl
import Derived.Below
import Derived.IntWalk
/-
  THE ENGINE, PART A: what a heap reads as, what a piece of the model's monad does to a heap (semWp), trees of effects (T) and what a tree promises (T.wp).
  Conditions: none; it speaks of any program.
-/
namespace Go.Eng
open Go

abbrev Heap := Array Obj
/-- A world with that heap: for naming the model's own readings of a heap. -/
def ofHeap (h : Heap) : World := { heap := h, tape := fun _ _ => 0, drawn := 0, os := default, output := #[] }
def cellH (h : Heap) (a : Addr) : Option Value := (ofHeap h).cell? a
def shapeH (h : Heap) (r : Nat) : Option (TypeId × Nat) := (ofHeap h).shape? r
def frozenH (h : Heap) (a : Addr) : Bool := (ofHeap h).frozen? a
def freezeH (h : Heap) (a : Addr) (n : Nat) : Heap := ((ofHeap h).freeze a n).heap
def setCellH (h : Heap) (a : Addr) (v : Value) : Heap := ((ofHeap h).setCell a v).heap
theorem cell?_heap (w : World) (a : Addr) : w.cell? a = cellH w.heap a := rfl
theorem shape?_heap (w : World) (r : Nat) : w.shape? r = shapeH w.heap r := rfl
theorem frozen?_heap (w : World) (a : Addr) : w.frozen? a = frozenH w.heap a := rfl
theorem freeze_heap (w : World) (a : Addr) (n : Nat) : (w.freeze a n).heap = freezeH w.heap a n := by
  unfold freezeH World.freeze
  split <;> rfl
theorem setCell_heap (w : World) (a : Addr) (v : Value) : (w.setCell a v).heap = setCellH w.heap a v := rfl

/-- All of a world but its heap and its count of draws is the same. -/
structure Same (w w' : World) : Prop where
  os : w'.os = w.os
  tape : w'.tape = w.tape
  output : w'.output = w.output
  size : w.heap.size ≤ w'.heap.size
theorem Same.refl (w : World) : Same w w := ⟨rfl, rfl, rfl, Nat.le_refl _⟩
theorem Same.trans {a b c : World} (h : Same a b) (k : Same b c) : Same a c := ⟨k.os.trans h.os, k.tape.trans h.tape, k.output.trans h.output, Nat.le_trans h.size k.size⟩
theorem Same.freeze (w : World) (a : Addr) (n : Nat) : Same w (w.freeze a n) := by
  unfold World.freeze
  split
  all_goals exact ⟨rfl, rfl, rfl, by simp⟩
theorem Same.setCell (w : World) (a : Addr) (v : Value) : Same w (w.setCell a v) := ⟨rfl, rfl, rfl, by unfold World.setCell; simp⟩
theorem Same.push (w : World) (o : Obj) : Same w { w with heap := w.heap.push o } := ⟨rfl, rfl, rfl, by simp⟩
theorem Same.setObj (w : World) (r : Nat) (o : Obj) : Same w { w with heap := w.heap.setIfInBounds r o } := ⟨rfl, rfl, rfl, by simp⟩

def Value.plain : Value → Bool
  | .agg _ | .tuple _ => false
  | _ => true

/-- What a piece of the model's monad promises on a heap, whatever the tape says: it comes to a value (K) or to Go's panic (X). -/
def semWp (P : Program) {α : Type} : Sem α → (α → Heap → Prop) → (Value → Heap → Prop) → Heap → Prop
  | .pure a, K, _, h => K a h
  | .load _ a k, K, X, h => ∃ v, cellH h a = some v ∧ semWp P (k v) K X h
  | .store _ a v k, K, X, h => Value.plain v = true ∧ (cellH h a).isSome = true ∧ frozenH h a = false ∧ semWp P k K X (setCellH h a v)
  | .new o k, K, X, h => semWp P (k h.size) K X (h.push o)
  | .shape r k, K, X, h => semWp P (k (shapeH h r)) K X h
  | .freeze a n k, K, X, h => semWp P k K X (freezeH h a n)
  | .frozen a k, K, X, h => semWp P (k (frozenH h a)) K X h
  | .getObj r k, K, X, h => ∃ o, h[r]? = some o ∧ (∀ c e f, o ≠ .cells c e f) ∧ semWp P (k o) K X h
  | .setObj r o k, K, X, h => (∃ o', h[r]? = some o' ∧ (∀ c e f, o' ≠ .cells c e f)) ∧ semWp P k K X (h.setIfInBounds r o)
  | .choose q k, K, X, h => if q.forced = true then semWp P (k 0) K X h else ∀ t, semWp P (k (q.cut t)) K X h
  | .sys _ _, _, _, _ => False
  | .program k, K, X, h => semWp P (k P) K X h
  | .mark _ k, K, X, h => semWp P k K X h
  | .halt (.panic v), _, X, h => X v h
  | .halt _, _, _, _ => False

theorem semWp_run {P : Program} {α : Type} (s : Sem α) : ∀ {K : α → Heap → Prop} {X : Value → Heap → Prop} (w : World), semWp P s K X w.heap →
    (∃ a w', s.run P w = .ok a w' ∧ Same w w' ∧ K a w'.heap) ∨ (∃ v w', s.run P w = .halt (.panic v) w' ∧ Same w w' ∧ X v w'.heap) := by
  induction s with
  | pure a => intro K X w h; exact .inl ⟨a, w, rfl, .refl w, h⟩
  | load m a k ih =>
    intro K X w h
    obtain ⟨v, hv, hk⟩ := h
    have : w.cell? a = some v := hv
    simp only [Sem.run, this]
    exact ih v w hk
  | store m a v k ih =>
    intro K X w h
    obtain ⟨hp, hs, hf, hk⟩ := h
    obtain ⟨x, hx⟩ := Option.isSome_iff_exists.1 hs
    have hx' : w.cell? a = some x := hx
    have hf' : w.frozen? a = false := hf
    have key : Sem.run P (.store m a v k) w = k.run P (w.setCell a v) := by
      cases v <;> simp_all [Value.plain, Sem.run]
    rw [key]
    rcases ih (w.setCell a v) hk with ⟨b, w', h1, h2, h3⟩ | ⟨b, w', h1, h2, h3⟩
    · exact .inl ⟨b, w', h1, (Same.setCell w a v).trans h2, h3⟩
    · exact .inr ⟨b, w', h1, (Same.setCell w a v).trans h2, h3⟩
  | new o k ih =>
    intro K X w h
    simp only [Sem.run]
    rcases ih w.heap.size { w with heap := w.heap.push o } h with ⟨b, w', h1, h2, h3⟩ | ⟨b, w', h1, h2, h3⟩
    · exact .inl ⟨b, w', h1, (Same.push w o).trans h2, h3⟩
    · exact .inr ⟨b, w', h1, (Same.push w o).trans h2, h3⟩
  | shape r k ih => intro K X w h; simp only [Sem.run]; exact ih _ w h
  | freeze a n k ih =>
    intro K X w h
    simp only [Sem.run]
    rcases ih (w.freeze a n) (by rw [freeze_heap]; exact h) with ⟨b, w', h1, h2, h3⟩ | ⟨b, w', h1, h2, h3⟩
    · exact .inl ⟨b, w', h1, (Same.freeze w a n).trans h2, h3⟩
    · exact .inr ⟨b, w', h1, (Same.freeze w a n).trans h2, h3⟩
  | frozen a k ih => intro K X w h; simp only [Sem.run]; exact ih _ w h
  | getObj r k ih =>
    intro K X w h
    obtain ⟨o, ho, hn, hk⟩ := h
    have key : Sem.run P (.getObj r k) w = (k o).run P w := by
      cases o <;> simp_all [Sem.run]
    rw [key]
    exact ih o w hk
  | setObj r o k ih =>
    intro K X w h
    obtain ⟨⟨o', ho, hn⟩, hk⟩ := h
    have key : Sem.run P (.setObj r o k) w = k.run P { w with heap := w.heap.setIfInBounds r o } := by
      cases o' <;> simp_all [Sem.run]
    rw [key]
    rcases ih { w with heap := w.heap.setIfInBounds r o } hk with ⟨b, w', h1, h2, h3⟩ | ⟨b, w', h1, h2, h3⟩
    · exact .inl ⟨b, w', h1, (Same.setObj w r o).trans h2, h3⟩
    · exact .inr ⟨b, w', h1, (Same.setObj w r o).trans h2, h3⟩
  | choose q k ih =>
    intro K X w h
    simp only [semWp] at h
    simp only [Sem.run]
    split at h
    · rename_i hq; simp only [hq, if_true]; exact ih _ w h
    · rename_i hq
      simp only [hq]
      rcases ih (q.cut (w.tape w.drawn q)) { w with drawn := w.drawn + 1 } (h _) with ⟨b, w', h1, h2, h3⟩ | ⟨b, w', h1, h2, h3⟩
      · exact .inl ⟨b, w', h1, ⟨h2.os, h2.tape, h2.output, h2.size⟩, h3⟩
      · exact .inr ⟨b, w', h1, ⟨h2.os, h2.tape, h2.output, h2.size⟩, h3⟩
  | sys c k ih => intro K X w h; exact h.elim
  | program k ih => intro K X w h; simp only [Sem.run]; exact ih _ w h
  | mark m k ih => intro K X w h; simp only [Sem.run]; exact ih w h
  | halt x =>
    intro K X w h
    cases x <;> first | exact h.elim | exact .inr ⟨_, w, rfl, .refl w, h⟩

theorem semWp_mono {P : Program} {α : Type} (s : Sem α) : ∀ {K K' : α → Heap → Prop} {X X' : Value → Heap → Prop} {h : Heap},
    (∀ a h, K a h → K' a h) → (∀ a h, X a h → X' a h) → semWp P s K X h → semWp P s K' X' h := by
  induction s with
  | pure a => intro K K' X X' h hK hX H; exact hK _ _ H
  | load m a k ih => intro K K' X X' h hK hX ⟨v, hv, H⟩; exact ⟨v, hv, ih v hK hX H⟩
  | store m a v k ih => intro K K' X X' h hK hX ⟨a, b, c, H⟩; exact ⟨a, b, c, ih hK hX H⟩
  | new o k ih => intro K K' X X' h hK hX H; exact ih _ hK hX H
  | shape r k ih => intro K K' X X' h hK hX H; exact ih _ hK hX H
  | freeze a n k ih => intro K K' X X' h hK hX H; exact ih hK hX H
  | frozen a k ih => intro K K' X X' h hK hX H; exact ih _ hK hX H
  | getObj r k ih => intro K K' X X' h hK hX ⟨o, a, b, H⟩; exact ⟨o, a, b, ih o hK hX H⟩
  | setObj r o k ih => intro K K' X X' h hK hX ⟨a, H⟩; exact ⟨a, ih hK hX H⟩
  | choose q k ih =>
    intro K K' X X' h hK hX H
    simp only [semWp] at H ⊢
    split at H
    · rename_i hq; simp only [hq, if_true]; exact ih _ hK hX H
    · rename_i hq; simp only [hq]; exact fun t => ih _ hK hX (H t)
  | sys c k ih => intro K K' X X' h hK hX H; exact H
  | program k ih => intro K K' X X' h hK hX H; exact ih _ hK hX H
  | mark m k ih => intro K K' X X' h hK hX H; exact ih hK hX H
  | halt x => intro K K' X X' h hK hX H; cases x <;> first | exact H | exact hX _ _ H

theorem semWp_bind {P : Program} {α β : Type} (s : Sem α) (f : α → Sem β) : ∀ {K : β → Heap → Prop} {X : Value → Heap → Prop} {h : Heap},
    semWp P s (fun a h' => semWp P (f a) K X h') X h → semWp P (s.bind f) K X h := by
  induction s with
  | pure a => intro K X h H; exact H
  | load m a k ih => intro K X h ⟨v, hv, H⟩; exact ⟨v, hv, ih v H⟩
  | store m a v k ih => intro K X h ⟨a, b, c, H⟩; exact ⟨a, b, c, ih H⟩
  | new o k ih => intro K X h H; exact ih _ H
  | shape r k ih => intro K X h H; exact ih _ H
  | freeze a n k ih => intro K X h H; exact ih H
  | frozen a k ih => intro K X h H; exact ih _ H
  | getObj r k ih => intro K X h ⟨o, a, b, H⟩; exact ⟨o, a, b, ih o H⟩
  | setObj r o k ih => intro K X h ⟨a, H⟩; exact ⟨a, ih H⟩
  | choose q k ih =>
    intro K X h H
    simp only [semWp, Sem.bind] at H ⊢
    split at H
    · rename_i hq; simp only [hq, if_true]; exact ih _ H
    · rename_i hq; simp only [hq]; exact fun t => ih _ (H t)
  | sys c k ih => intro K X h H; exact H
  | program k ih => intro K X h H; exact ih _ H
  | mark m k ih => intro K X h H; exact ih H
  | halt x => intro K X h H; cases x <;> exact H

/-! ## shapes -/
inductive Atom where
  | int (k : IntKind) | bool | string | pointer | slice | map | chan | func | iface
  deriving DecidableEq, Inhabited
abbrev Atom.Ty : Atom → Type
  | .int _ => Int
  | .bool => Bool
  | .string => ByteArray
  | .pointer => Option Addr
  | .slice => Option Addr × Nat × Nat
  | .map => Option Nat
  | .chan => Option Nat
  | .func => Option (Fn × Array Value × Array Value)
  | .iface => Option (TypeId × Value)
def Atom.val : (a : Atom) → a.Ty → Value
  | .int k, n => .int k n
  | .bool, b => .bool b
  | .string, s => .string s
  | .pointer, p => .pointer p
  | .slice, x => .slice x.1 x.2.1 x.2.2
  | .map, r => .map r
  | .chan, r => .chan r
  | .func, none => .nilFunc
  | .func, some x => .func x.1 x.2.1 x.2.2
  | .iface, none => .nilIface
  | .iface, some x => .iface x.1 x.2
def Atom.of : (a : Atom) → Value → Option a.Ty
  | .int k, .int k' n => if k' = k then some n else none
  | .bool, .bool b => some b
  | .string, .string s => some s
  | .pointer, .pointer p => some p
  | .slice, .slice p n c => some (p, n, c)
  | .map, .map r => some r
  | .chan, .chan r => some r
  | .func, .nilFunc => some none
  | .func, .func f a b => some (some (f, a, b))
  | .iface, .nilIface => some none
  | .iface, .iface t v => some (some (t, v))
  | _, _ => none
theorem Atom.of_val : ∀ (a : Atom) (v : Value) (x : a.Ty), a.of v = some x → v = a.val x := by
  intro a v x h
  cases a <;> cases v <;> simp only [Atom.of] at h <;> first
    | (split at h <;> simp_all [Atom.val]; done)
    | (cases h <;> rfl)
theorem Atom.val_plain (a : Atom) (x : a.Ty) : Value.plain (a.val x) = true := by
  cases a <;> first | rfl | (cases x <;> rfl)

abbrev Atoms.Ty : List Atom → Type
  | [] => Unit
  | a :: r => a.Ty × Atoms.Ty r
def Atoms.vals : (l : List Atom) → Atoms.Ty l → List Value
  | [], _ => []
  | a :: r, x => a.val x.1 :: Atoms.vals r x.2
def Atoms.of : (l : List Atom) → List Value → Option (Atoms.Ty l)
  | [], [] => some ()
  | a :: r, v :: vs => match a.of v, Atoms.of r vs with
    | some x, some y => some (x, y)
    | _, _ => none
  | _, _ => none
theorem Atoms.of_vals : ∀ (l : List Atom) (vs : List Value) (x : Atoms.Ty l), Atoms.of l vs = some x → vs = Atoms.vals l x := by
  intro l
  induction l with
  | nil => intro vs x h; cases vs <;> simp_all [Atoms.of, Atoms.vals]
  | cons a r ih =>
    intro vs x h
    cases vs with
    | nil => simp [Atoms.of] at h
    | cons v vs =>
      simp only [Atoms.of] at h
      split at h
      · rename_i x1 y1 h1 h2
        cases h
        rw [Atom.of_val a v x1 h1, ih vs y1 h2]
        rfl
      · cases h

/-- The shape of a value: one cell, or a row of cells. -/
inductive Sh1 where
  | atom (a : Atom)
  | agg (l : List Atom)
  deriving Inhabited
abbrev Sh1.Ty : Sh1 → Type
  | .atom a => a.Ty
  | .agg l => Atoms.Ty l
def Sh1.val : (s : Sh1) → s.Ty → Value
  | .atom a, x => a.val x
  | .agg l, x => .agg (Atoms.vals l x).toArray
def Sh1.of : (s : Sh1) → Value → Option s.Ty
  | .atom a, v => a.of v
  | .agg l, .agg cs => Atoms.of l cs.toList
  | .agg _, _ => none
theorem Sh1.of_val (s : Sh1) (v : Value) (x : s.Ty) (h : s.of v = some x) : v = s.val x := by
  cases s with
  | atom a => exact Atom.of_val a v x h
  | agg l =>
    cases v <;> simp only [Sh1.of] at h <;> first | cases h | skip
    rename_i cs
    have := Atoms.of_vals l cs.toList x h
    simp only [Sh1.val, ← this]

abbrev Shs.Ty : List Sh1 → Type
  | [] => Unit
  | s :: r => s.Ty × Shs.Ty r
def Shs.vals : (l : List Sh1) → Shs.Ty l → List Value
  | [], _ => []
  | a :: r, x => a.val x.1 :: Shs.vals r x.2
def Shs.of : (l : List Sh1) → List Value → Option (Shs.Ty l)
  | [], [] => some ()
  | a :: r, v :: vs => match a.of v, Shs.of r vs with
    | some x, some y => some (x, y)
    | _, _ => none
  | _, _ => none
theorem Shs.of_vals : ∀ (l : List Sh1) (vs : List Value) (x : Shs.Ty l), Shs.of l vs = some x → vs = Shs.vals l x := by
  intro l
  induction l with
  | nil => intro vs x h; cases vs <;> simp_all [Shs.of, Shs.vals]
  | cons a r ih =>
    intro vs x h
    cases vs with
    | nil => simp [Shs.of] at h
    | cons v vs =>
      simp only [Shs.of] at h
      split at h
      · rename_i x1 y1 h1 h2
        cases h
        rw [Sh1.of_val a v x1 h1, ih vs y1 h2]
        rfl
      · cases h

/-- The shape of a call's result. -/
inductive Sh where
  | one (s : Sh1)
  | tuple (l : List Sh1)
  deriving Inhabited
abbrev Sh.Ty : Sh → Type
  | .one s => s.Ty
  | .tuple l => Shs.Ty l
def Sh.val : (s : Sh) → s.Ty → Value
  | .one s, x => s.val x
  | .tuple l, x => .tuple (Shs.vals l x).toArray

/-! ## trees -/
inductive Leaf where
  | out (vs : List Value)
  | brk (id : Nat) (vs : List Value)
  | ret (v : Value)
  | pan (chain : List PanicEntry)

/-- What a function does, without its temporaries: effects, and what comes behind. -/
inductive T : Type 1 where
  | out (vs : List Value)
  | brk (id : Nat) (vs : List Value)
  | ret (v : Value)
  | pan (v : Value)
  | stuck
  | load (s : Atom) (a : Addr) (k : s.Ty → T)
  | store (a : Addr) (v : Value) (k : T)
  | new (o : Obj) (k : Nat → T)
  | sem (s : Sem Value) (sh : Sh) (k : sh.Ty → T)
  | call (f : FuncId) (args : List Value) (sh : Sh) (k : sh.Ty → T)
  | still (a : Addr) (v : Value) (k : T)
  | both (x y : T)
  | join (ss : List Sh1) (x : T) (k : Shs.Ty ss → T)
  | block (id : Nat) (ss : List Sh1) (x : T) (k : Shs.Ty ss → T)
  | loop (ss : List Sh1) (init : List Value) (body : Shs.Ty ss → T)
  | sel (c : Nat) (send : Option Value) (zero : Value) (k : Int → Bool → Value → T)
  | later (f : FuncId) (args : List Value) (x k : T)
  | must (p : Prop) (k : T)

/-- A nil pointer is ruled out. -/
def deref (p : Option Addr) (k : Addr → T) : T := match p with
  | some a => k a
  | none => .stuck
/-- A condition that must hold. -/
abbrev chk (p : Prop) [Decidable p] (k : T) : T := .must p k

/-- How a call ends. -/
inductive Fin where
  | ret (v : Value)
  | pan (chain : List PanicEntry)

def CallsH (P : Program) (f : FuncId) (args : List Value) (h : Heap) (R : Fin → Heap → Prop) : Prop :=
  ∀ w, w.heap = h → Calls P f args.toArray w fun e w' => Same w w' ∧ match e with
    | .returned v => R (.ret v) w'.heap
    | .panicked chain => R (.pan chain) w'.heap
    | .outgrown => False

theorem CallsH.mono {P : Program} {f : FuncId} {args : List Value} {h : Heap} {R R' : Fin → Heap → Prop} (H : CallsH P f args h R)
    (hr : ∀ e h', R e h' → R' e h') : CallsH P f args h R' := fun w hw => (H w hw).mono fun e w' hw' => ⟨hw'.1, by
  have h2 := hw'.2
  cases e <;> first | exact hr _ _ h2 | exact h2⟩

/-- A deferred call, made while its function leaves in the mode u. -/
def CallsDH (P : Program) (f : FuncId) (args : List Value) (u : FrameMode) (h : Heap) (R : Fin → FrameMode → Heap → Prop) : Prop :=
  ∀ w, w.heap = h → CallsD P f args.toArray u w fun e u' w' => Same w w' ∧ match e with
    | .returned v => R (.ret v) u' w'.heap
    | .panicked chain => R (.pan chain) u' w'.heap
    | .outgrown => False
theorem CallsDH.mono {P : Program} {f : FuncId} {args : List Value} {u : FrameMode} {h : Heap} {R R' : Fin → FrameMode → Heap → Prop} (H : CallsDH P f args u h R)
    (hr : ∀ e u' h', R e u' h' → R' e u' h') : CallsDH P f args u h R' := fun w hw => (H w hw).mono fun e u' w' hw' => ⟨hw'.1, by
  have h2 := hw'.2
  cases e <;> first | exact hr _ _ _ h2 | exact h2⟩

/-- A select of one case with a default. -/
def selWp (c : Nat) (send : Option Value) (zero : Value) (k : Int → Bool → Value → Heap → Prop) (h : Heap) : Prop :=
  ∃ cap buf s r, h[c]? = some (.chan cap buf false s r false) ∧ match send with
    | some v => if buf.size < cap then k 0 false zero (h.setIfInBounds c (.chan cap (buf.push v) false (s + 1) r false)) else k (-1) false zero h
    | none => if 0 < buf.size then k 0 true (buf.getD 0 undef) (h.setIfInBounds c (.chan cap (buf.extract 1 buf.size) false s (r + 1) false)) else k (-1) false zero h

/-- What a tree promises. -/
def T.wp (P : Program) : T → (Leaf → Heap → Prop) → Heap → Prop
  | .out vs, Q, h => Q (.out vs) h
  | .brk id vs, Q, h => Q (.brk id vs) h
  | .ret v, Q, h => Q (.ret v) h
  | .pan v, Q, h => Q (.pan [{ v, recovered := false }]) h
  | .stuck, _, _ => False
  | .load s a k, Q, h => ∃ x : s.Ty, cellH h a = some (s.val x) ∧ (k x).wp P Q h
  | .store a v k, Q, h => Value.plain v = true ∧ (cellH h a).isSome = true ∧ frozenH h a = false ∧ k.wp P Q (setCellH h a v)
  | .new o k, Q, h => (k h.size).wp P Q (h.push o)
  | .sem s sh k, Q, h => semWp P s (fun v h' => ∃ x : sh.Ty, v = sh.val x ∧ (k x).wp P Q h') (fun v h' => Q (.pan [{ v, recovered := false }]) h') h
  | .call f args sh k, Q, h => CallsH P f args h fun e h' => match e with
      | .ret v => ∃ x : sh.Ty, v = sh.val x ∧ (k x).wp P Q h'
      | .pan chain => Q (.pan chain) h'
  | .still a v k, Q, h => cellH h a = some v ∧ k.wp P Q h
  | .both x y, Q, h => x.wp P Q h ∧ y.wp P Q h
  | .join ss x k, Q, h => x.wp P (fun lf h' => match lf with
      | .out vs => (match Shs.of ss vs with
          | some y => (k y).wp P Q h'
          | none => False)
      | lf => Q lf h') h
  | .block id ss x k, Q, h => x.wp P (fun lf h' => match lf with
      | .out vs => (match Shs.of ss vs with
          | some y => (k y).wp P Q h'
          | none => False)
      | .brk id' vs => bif Nat.beq id' id then (match Shs.of ss vs with
          | some y => (k y).wp P Q h'
          | none => False) else Q (.brk id' vs) h'
      | lf => Q lf h') h
  | .loop ss init body, Q, h => ∃ (I : Shs.Ty ss → Heap → Prop) (μ : Shs.Ty ss → Heap → Nat),
      (∃ y, Shs.of ss init = some y ∧ I y h) ∧
      ∀ y h, I y h → (body y).wp P (fun lf h' => match lf with
        | .out vs => (match Shs.of ss vs with
            | some y' => I y' h' ∧ μ y' h' < μ y h
            | none => False)
        | lf => Q lf h') h
  | .sel c send zero k, Q, h => selWp c send zero (fun i ok v h' => (k i ok v).wp P Q h') h
  | .must p k, Q, h => p ∧ k.wp P Q h
  | .later f args x k, Q, h => x.wp P (fun lf h' => match lf with
      | .ret _ => CallsDH P f args .returning h' fun e u h'' => match e with
          | .ret _ => settle u = .returning ∧ k.wp P Q h''
          | .pan _ => False
      | .pan chain => CallsDH P f args (.panicking chain) h' fun e u h'' => match e with
          | .ret _ => (match settle u with
              | .returning => k.wp P Q h''
              | .panicking c => Q (.pan c) h''
              | .run => False)
          | .pan _ => False
      | _ => False) h

theorem T.wp_mono {P : Program} (t : T) : ∀ {Q Q' : Leaf → Heap → Prop} {h : Heap}, (∀ l h, Q l h → Q' l h) → t.wp P Q h → t.wp P Q' h := by
  induction t with
  | out vs => intro Q Q' h hq H; exact hq _ _ H
  | brk id vs => intro Q Q' h hq H; exact hq _ _ H
  | ret v => intro Q Q' h hq H; exact hq _ _ H
  | pan v => intro Q Q' h hq H; exact hq _ _ H
  | stuck => intro Q Q' h hq H; exact H
  | load s a k ih => intro Q Q' h hq ⟨x, hx, H⟩; exact ⟨x, hx, ih x hq H⟩
  | store a v k ih => intro Q Q' h hq ⟨a, b, c, H⟩; exact ⟨a, b, c, ih hq H⟩
  | new o k ih => intro Q Q' h hq H; exact ih _ hq H
  | sem s sh k ih => intro Q Q' h hq H; exact semWp_mono s (fun v h' ⟨x, hx, hk⟩ => ⟨x, hx, ih x hq hk⟩) (fun v h' hk => hq _ _ hk) H
  | call f args sh k ih =>
    intro Q Q' h hq H
    simp only [T.wp] at H ⊢
    refine CallsH.mono H fun e h' he => ?_
    cases e with
    | ret v => obtain ⟨x, hx, hk⟩ := he; exact ⟨x, hx, ih x hq hk⟩
    | pan c => exact hq _ _ he
  | still a v k ih => intro Q Q' h hq ⟨x, H⟩; exact ⟨x, ih hq H⟩
  | both x y ihx ihy => intro Q Q' h hq ⟨a, b⟩; exact ⟨ihx hq a, ihy hq b⟩
  | join ss x k ihx ihk =>
    intro Q Q' h hq H
    simp only [T.wp] at H ⊢
    refine ihx (fun lf h' hl => ?_) H
    cases lf with
    | out vs =>
      dsimp only at hl ⊢
      split at hl
      · exact ihk _ hq hl
      · exact hl
    | brk id vs => exact hq _ _ hl
    | ret v => exact hq _ _ hl
    | pan v => exact hq _ _ hl
  | block id ss x k ihx ihk =>
    intro Q Q' h hq H
    simp only [T.wp] at H ⊢
    refine ihx (fun lf h' hl => ?_) H
    cases lf with
    | out vs =>
      dsimp only at hl ⊢
      split at hl
      · exact ihk _ hq hl
      · exact hl
    | brk id' vs =>
      dsimp only at hl ⊢
      cases hb : Nat.beq id' id with
      | true =>
        simp only [hb, cond_true] at hl ⊢
        split at hl
        · exact ihk _ hq hl
        · exact hl
      | false => simp only [hb, cond_false] at hl ⊢; exact hq _ _ hl
    | ret v => exact hq _ _ hl
    | pan v => exact hq _ _ hl
  | loop ss init body ih =>
    intro Q Q' h hq ⟨I, μ, h0, hr⟩
    refine ⟨I, μ, h0, fun y h hI => ih y (fun lf h' hl => ?_) (hr y h hI)⟩
    cases lf with
    | out vs => exact hl
    | brk id vs => exact hq _ _ hl
    | ret v => exact hq _ _ hl
    | pan v => exact hq _ _ hl
  | sel c send zero k ih =>
    intro Q Q' h hq H
    obtain ⟨cap, buf, s, r, hc, H⟩ := H
    refine ⟨cap, buf, s, r, hc, ?_⟩
    cases send with
    | none =>
      by_cases hh : 0 < buf.size
      · simp only [if_pos hh] at H ⊢; exact ih _ _ _ hq H
      · simp only [if_neg hh] at H ⊢; exact ih _ _ _ hq H
    | some v =>
      by_cases hh : buf.size < cap
      · simp only [if_pos hh] at H ⊢; exact ih _ _ _ hq H
      · simp only [if_neg hh] at H ⊢; exact ih _ _ _ hq H
  | must p k ih => intro Q Q' h hq H; exact ⟨H.1, ih hq H.2⟩
  | later f args x k ihx ihk =>
    intro Q Q' h hq H
    simp only [T.wp] at H ⊢
    refine ihx (fun lf h' hl => ?_) H
    cases lf with
    | out vs => exact hl
    | brk id vs => exact hl
    | ret v =>
      exact CallsDH.mono hl fun e u h'' he => by
        cases e with
        | ret v => exact ⟨he.1, ihk hq he.2⟩
        | pan c => exact he
    | pan chain =>
      exact CallsDH.mono hl fun e u h'' he => by
        cases e with
        | ret v =>
          dsimp only at he ⊢
          generalize settle u = m at he ⊢
          cases m with
          | run => exact he
          | returning => exact ihk hq he
          | panicking c => exact hq _ _ he
        | pan c => exact he
end Go.Eng

/-
  THE ENGINE, PART B: the tree of one operation, and that it promises what the model's own operation does.
  Conditions: none; it speaks of any program.
-/
namespace Go.Eng
open Go

/-! ## the model's monad as a tree, where nothing is asked of a symbol -/
/- 'q': only what is quiet is let by: nothing is made, nothing written, nobody called. -/
def denSem (q : Bool) (P : Program) {α : Type} : Sem α → (α → T) → T
  | .pure a, k => k a
  | .program f, k => denSem q P (f P) k
  | .new o f, k => bif q then .stuck else .new o fun r => denSem q P (f r) k
  | .store _ a v f, k => bif q then .stuck else .store a v (denSem q P f k)
  | .mark _ f, k => denSem q P f k
  | .halt (.panic v), _ => bif q then .stuck else .pan v
  | _, _ => .stuck

theorem denSem_ok {q : Bool} {P : Program} {α : Type} (s : Sem α) : ∀ {k : α → T} {Q : Leaf → Heap → Prop} {h : Heap}, (denSem q P s k).wp P Q h →
    semWp P s (fun a h' => (k a).wp P Q h') (fun v h' => Q (.pan [{ v, recovered := false }]) h') h := by
  induction s with
  | pure a => intro k Q h H; exact H
  | load m a k ih => intro k Q h H; exact H.elim
  | store m a v k ih =>
    intro k Q h H
    cases q with
    | true => exact H.elim
    | false => exact ⟨H.1, H.2.1, H.2.2.1, ih H.2.2.2⟩
  | new o k ih =>
    intro k Q h H
    cases q with
    | true => exact H.elim
    | false => exact ih _ H
  | shape r k ih => intro k Q h H; exact H.elim
  | freeze a n k ih => intro k Q h H; exact H.elim
  | frozen a k ih => intro k Q h H; exact H.elim
  | getObj r k ih => intro k Q h H; exact H.elim
  | setObj r o k ih => intro k Q h H; exact H.elim
  | choose q k ih => intro k Q h H; exact H.elim
  | sys c k ih => intro k Q h H; exact H.elim
  | program k ih => intro k Q h H; exact ih _ H
  | mark m k ih => intro k Q h H; exact ih H
  | halt x => intro k Q h H; cases q <;> cases x <;> first | exact H | exact H.elim

/-! ## shapes out of a type's zero value -/
def atomOf : Value → Atom
  | .int k _ => .int k
  | .bool _ => .bool
  | .string _ => .string
  | .pointer _ => .pointer
  | .slice _ _ _ => .slice
  | .map _ => .map
  | .chan _ => .chan
  | .func _ _ _ => .func
  | .nilFunc => .func
  | _ => .iface
def sh1Of : Value → Sh1
  | .agg cs => .agg (cs.toList.map atomOf)
  | v => .atom (atomOf v)
def shOf : Value → Sh
  | .tuple vs => .tuple (vs.toList.map sh1Of)
  | v => .one (sh1Of v)
def zeroOf (P : Program) (t : TypeId) : Value := ((P.info? t).bind (·.zero)).getD .nilIface
def resSh (P : Program) (fn : Func) : Sh := match fn.resultTypes.toList with
  | [t] => .one (sh1Of (zeroOf P t))
  | ts => .tuple (ts.map fun t => sh1Of (zeroOf P t))

/-! ## one operation -/
/-- A loaded row of cells. -/
def loadsT : List Atom → Addr → Nat → Array Value → (Array Value → T) → T
  | [], _, _, acc, k => k acc
  | s :: r, a, i, acc, k => .load s (a.add i) fun x => loadsT r a (i + 1) (acc.push (s.val x)) k

def isAggD : TypeDesc → Bool
  | .struct _ | .array _ _ => true
  | _ => false
def denLoad (P : Program) (t : TypeId) (a : Addr) (k : Value → T) : T :=
  match P.underlying t, P.info? t with
  | some d, some i =>
    match isAggD d, sh1Of (i.zero.getD .nilIface) with
    | true, .agg l => if l.length = i.size then loadsT l a 0 #[] fun cs => k (.agg cs) else .stuck
    | false, .atom s => .load s a fun x => k (s.val x)
    | _, _ => .stuck
  | _, _ => .stuck

/-- Any other operation that yields a value: the model's own, its result's shape by its type. -/
def semR (q : Bool) (s : Sem Value) (sh : Sh) (k : sh.Ty → T) : T := bif q then .stuck else .sem s sh k
def semT (q : Bool) (P : Program) (s : Sem Value) (t : TypeId) (k : Value → T) : T :=
  semR q s (shOf (zeroOf P t)) fun x => k ((shOf (zeroOf P t)).val x)
def semU (q : Bool) (s : Sem Unit) (k : Value → T) : T :=
  semR q (s.bind fun _ => .pure undef) (.tuple []) fun _ => k undef

def byteAt (s : ByteArray) (i : Nat) : UInt8 := s.data.toList.getD i 0

/-- Two structs of plain cells, field by field. -/
def leafEq (P : Program) (t : TypeId) : Value → Value → Option Bool
  | .int j m, .int j' n => match P.underlying t with
    | some (.int _) => if j = j' then some (m == n) else none
    | _ => none
  | .string m, .string n => match P.underlying t with
    | some .string => some (m == n)
    | _ => none
  | .bool m, .bool n => match P.underlying t with
    | some .bool => some (m == n)
    | _ => none
  | _, _ => none
def fieldsEq (P : Program) (xs ys : Array Value) : List Field → Option Bool
  | [] => some true
  | f :: fs => if f.name = "_" then none else match xs[f.offset]?, ys[f.offset]? with
    | some a, some b => match leafEq P f.type a b, fieldsEq P xs ys fs with
      | some r, some r' => some (r && r')
      | _, _ => none
    | _, _ => none
/-- A struct inside a struct. -/
def nestEq (P : Program) (t : TypeId) (xs ys : Array Value) (i : Nat) : Option Bool := match P.underlying t, P.info? t, P.stoodInHeld t with
  | some (.struct gs), some inf, false => fieldsEq P (xs.extract i (i + inf.size)) (ys.extract i (i + inf.size)) gs.toList
  | _, _, _ => none
def fieldEq (P : Program) (f : Field) (xs ys : Array Value) : Option Bool := match xs[f.offset]?, ys[f.offset]? with
  | some a, some b => match leafEq P f.type a b with
    | some r => some r
    | none => nestEq P f.type xs ys f.offset
  | _, _ => none
def fieldsEq2 (P : Program) (xs ys : Array Value) : List Field → Option Bool
  | [] => some true
  | f :: fs => if f.name = "_" then none else match fieldEq P f xs ys, fieldsEq2 P xs ys fs with
    | some r, some r' => some (r && r')
    | _, _ => none
def aggEq (P : Program) (t : TypeId) (xs ys : Array Value) (k : Bool → T) (old : T) : T := match P.underlying t with
  | some (.struct fs) => match P.eqGuardType P.depth t || P.stoodInHeld t, fieldsEq2 P xs ys fs.toList with
    | false, some r => k r
    | _, _ => old
  | _ => old
def denBin (q : Bool) (P : Program) (op : BinOp) (t : TypeId) (x y : Operand) (a b : Value) (k : Value → T) : T :=
  match op, a, b with
  | .add, .int j m, .int j' n => if j = j' then k (.int j (j.wrap (m + n))) else .stuck
  | .sub, .int j m, .int j' n => if j = j' then k (.int j (j.wrap (m - n))) else .stuck
  | .mul, .int j m, .int j' n => if j = j' then k (.int j (j.wrap (m * n))) else .stuck
  | .quo, .int j m, .int j' n => if j = j' then chk (n ≠ 0) (k (.int j (j.wrap (m.tdiv n)))) else .stuck
  | .rem, .int j m, .int j' n => if j = j' then chk (n ≠ 0) (k (.int j (m.tmod n))) else .stuck
  | .shl, .int j m, .int _ n => chk (0 ≤ n) (k (.int j (j.wrap (m * 2 ^ (min n.toNat j.bits)))))
  | .shr, .int j m, .int _ n => chk (0 ≤ n) (k (.int j (m.fdiv (2 ^ (min n.toNat j.bits)))))
  | .eql, .int j m, .int j' n => if j = j' then k (.bool (m == n)) else .stuck
  | .neq, .int j m, .int j' n => if j = j' then k (.bool (m != n)) else .stuck
  | .lss, .int j m, .int j' n => if j = j' then k (.bool (m < n)) else .stuck
  | .leq, .int j m, .int j' n => if j = j' then k (.bool (m ≤ n)) else .stuck
  | .gtr, .int j m, .int j' n => if j = j' then k (.bool (m > n)) else .stuck
  | .geq, .int j m, .int j' n => if j = j' then k (.bool (m ≥ n)) else .stuck
  | .add, .string m, .string n => chk (((m.size + n.size : Nat) : Int) ≤ IntKind.i64.max) (k (.string (m ++ n)))
  | .eql, .string m, .string n => k (.bool (m.toList == n.toList))
  | .neq, .string m, .string n => k (.bool !(m.toList == n.toList))
  | .eql, .pointer p, .pointer none => denSem q P (underlying t) fun | .pointer _ => k (.bool p.isNone) | _ => .stuck
  | .neq, .pointer p, .pointer none => denSem q P (underlying t) fun | .pointer _ => k (.bool !p.isNone) | _ => .stuck
  | .eql, .slice p _ _, .slice none _ _ => denSem q P (underlying t) fun | .slice _ => k (.bool p.isNone) | _ => .stuck
  | .neq, .slice p _ _, .slice none _ _ => denSem q P (underlying t) fun | .slice _ => k (.bool !p.isNone) | _ => .stuck
  | .eql, .bool m, .bool n => denSem q P (underlying t) fun | .bool => k (.bool (m == n)) | _ => .stuck
  | .neq, .bool m, .bool n => denSem q P (underlying t) fun | .bool => k (.bool !(m == n)) | _ => .stuck
  | .eql, .agg a, .agg b => aggEq P t a b (fun r => k (.bool r)) (semR q (do eqGuard .eql t x y (.agg a) (.agg b); binOp .eql t (.agg a) (.agg b)) (.one (.atom .bool)) fun r => k (.bool r))
  | .neq, .agg a, .agg b => aggEq P t a b (fun r => k (.bool !r)) (semR q (do eqGuard .neq t x y (.agg a) (.agg b); binOp .neq t (.agg a) (.agg b)) (.one (.atom .bool)) fun r => k (.bool r))
  | .eql, a, b => semR q (do eqGuard .eql t x y a b; binOp .eql t a b) (.one (.atom .bool)) fun r => k (.bool r)
  | .neq, a, b => semR q (do eqGuard .neq t x y a b; binOp .neq t a b) (.one (.atom .bool)) fun r => k (.bool r)
  | op, a, b => denSem q P (do eqGuard op t x y a b; binOp op t a b) k

/-- The bounds of 's[lo:hi]'. -/
def bound (d : Int) : Option Value → Option Int
  | none => some d
  | some (.int _ n) => some n
  | _ => none
def denSlice (q : Bool) (P : Program) (t : TypeId) (x : Value) (lo hi mx : Option Value) (k : Value → T) : T :=
  match mx, P.underlying t, x with
  | none, some .string, .string s => match bound 0 lo, bound s.size hi with
    | some l, some h => chk (0 ≤ l ∧ l ≤ h ∧ h ≤ s.size) (k (.string (s.extract l.toNat h.toNat)))
    | _, _ => .stuck
  | none, some (.slice e), .slice p n c => match bound 0 lo, bound n hi, P.info? e with
    | some l, some h, some i => chk (0 ≤ l ∧ l ≤ h ∧ h ≤ c) (k (.slice (if c = l.toNat then p else p.map (·.add (l.toNat * i.size))) (h.toNat - l.toNat) (c - l.toNat)))
    | _, _, _ => .stuck
  | _, _, _ => semT q P (Instr.sliceAt t x lo hi mx) t k

/-- A function value is called. -/
def callV (q : Bool) (P : Program) (f : Value) (args : Array Value) (k : Value → T) : T := match f with
  | .func (.func g) first cap => match P.funcs[g]? with
    | some fn => match fn.name == "runtime.NumGoroutine", fn.body.isNone with
      | false, false => bif q then .stuck else .call g ((first ++ args) ++ cap).toList (resSh P fn) fun x => k ((resSh P fn).val x)
      | _, _ => .stuck
    | none => .stuck
  | _ => .stuck

def denCall (q : Bool) (P : Program) (ρ : Operand → Value) (c : Call) (t : TypeId) (k : Value → T) : T :=
  match c.callee with
  | .builtin b =>
    let args := c.args.map ρ
    match b with
    | .len => match c.argTypes.toList, args.toList with
      | at0 :: _, x :: _ => match P.underlying at0, x with
        | some .string, .string s => k (goInt s.size)
        | some (.slice _), .slice _ n _ => k (goInt n)
        | some (.array n _), _ => k (goInt n)
        | _, _ => semT q P (Builtin.len_ c.argTypes t args) t k
      | _, _ => .stuck
    | .cap => match c.argTypes.toList, args.toList with
      | at0 :: _, x :: _ => match P.underlying at0, x with
        | some (.slice _), .slice _ _ n => k (goInt n)
        | _, _ => semT q P (Builtin.cap_ c.argTypes t args) t k
      | _, _ => .stuck
    | .max => denSem q P (Builtin.max_ c.argTypes t args) k
    | .min => denSem q P (Builtin.min_ c.argTypes t args) k
    | .append => semT q P (Builtin.append_ c.argTypes t args) t k
    | .copy => semR q (Builtin.copy_ c.argTypes t args) (.one (.atom (.int .i64))) fun n => k (.int .i64 n)
    | .delete => semR q (Builtin.delete_ c.argTypes t args) (.tuple []) fun _ => k undef
    | .clear => semR q (Builtin.clear_ c.argTypes t args) (.tuple []) fun _ => k undef
    | _ => .stuck
  | .value f => callV q P (ρ f) (c.args.map ρ) k
  | _ => .stuck

def denOp (q : Bool) (P : Program) (ρ : Operand → Value) (o : Oper) (k : Value → T) : T :=
  match o.op with
  | .move x | .assign x => k (ρ x)
  | .pick c a b => match ρ c with
    | .bool t => cond t (k (ρ a)) (k (ρ b))
    | _ => .stuck
  | .load t a => match ρ a with
    | .pointer p => deref p fun a => denLoad P t a k
    | _ => .stuck
  | .nilCheck x => match ρ x with
    | .pointer p => deref p fun a => k (.pointer (some a))
    | .func (.func f) a b => k (.func (.func f) a b)
    | .iface t v => k (.iface t v)
    | _ => .stuck
  | .binOp op t x y _ => denBin q P op t x y (ρ x) (ρ y) k
  | .slice t x lo hi mx => denSlice q P t (ρ x) (lo.map ρ) (hi.map ρ) (mx.map ρ) k
  | .index t x ix => match P.underlying t, ρ x, ρ ix with
    | some .string, .string s, .int _ i => chk (0 ≤ i ∧ i < s.size) (k (.int .u8 (byteAt s i.toNat).toNat))
    | _, x, ix => denSem q P (Instr.index t x ix) k
  | .indexAddr t x ix => match P.underlying t, ρ x, ρ ix with
    | some (.slice e), .slice p n _, .int _ i => match P.info? e with
      | some info => deref p fun a => chk (0 ≤ i ∧ i < n) (k (.pointer (some (a.add (i.toNat * info.size)))))
      | none => .stuck
    | some (.array n e), .pointer (some a), .int _ i => match P.info? e with
      | some info => chk (0 ≤ i ∧ i < n) (k (.pointer (some (a.add (i.toNat * info.size)))))
      | none => .stuck
    | _, _, _ => .stuck
  | .call c => denCall q P ρ c o.type k
  | .alloc elem => denSem q P (Instr.alloc elem true (.tuple #[])) k
  | .box elem x => denSem q P (Instr.box elem (ρ x)) k
  | .build t parts => denSem q P (Instr.build t (parts.map fun (i, x) => (i, ρ x))) k
  | .buildSlice t len parts => denSem q P (Instr.buildSlice t len (parts.map fun (i, x) => (i, ρ x))) k
  | .store t a x => match ρ a with
    | .pointer p => deref p fun a => denSem q P (Instr.storeAt t (.pointer (some a)) (ρ x)) fun _ => k undef
    | v => denSem q P (Instr.storeAt t v (ρ x)) fun _ => k undef
  | .unOp op _ x => denSem q P (Op.unary op (ρ x)) k
  | .convert src dst x => match P.underlying src, P.underlying dst with
    | some (.int _), some (.int _) => denSem q P (convert src dst (ρ x)) k
    | some .string, some .string => denSem q P (convert src dst (ρ x)) k
    | _, _ => semT q P (convert src dst (ρ x)) dst k
  | .makeInterface t x => denSem q P (Instr.makeInterface t (ρ x)) k
  | .makeFunc fn first captured => k (.func fn (first.map ρ) (captured.map ρ))
  | .makeMap t r => denSem q P (Instr.makeMap t (r.map ρ)) k
  | .makeChan t s => semT q P (Instr.makeChan t (ρ s)) t k
  | .makeSlice t l c => semT q P (Instr.makeSlice t (ρ l) (ρ c)) t k
  | .fieldAddr s x f => match ρ x with
    | .pointer p => deref p fun a => denSem q P (Instr.fieldAt s (.pointer (some a)) f) k
    | v => denSem q P (Instr.fieldAt s v f) k
  | .field t x f => denSem q P (Instr.field t (ρ x) f) k
  | .extract t ix => denSem q P (Instr.extract (ρ t) ix) k
  | .lookup t x ix ok => semT q P (Instr.lookup t (ρ x) (ρ ix) ok) o.type k
  | .mapUpdate t m key x | .insert t m key x => semU q (Instr.mapUpdate t (ρ m) (ρ key) (ρ x)) k
  | .range t x => semR q (Instr.range t (ρ x)) (.one (.atom .pointer)) fun p => k (.pointer p)
  | .next it isString => semR q (Instr.next (ρ it) isString o.type) (shOf (zeroOf P o.type)) fun x => k ((shOf (zeroOf P o.type)).val x)
  | .typeAssert x xt at_ ok => semT q P (Instr.typeAssert (ρ x) xt at_ ok) o.type k
  | .panic x => denSem q P (Instr.panic (ρ x)) k
  | _ => .stuck

/-! ## that it promises what the operation does -/
def NextK (q : Bool) (P : Program) (k : Value → T) (Q : Leaf → Heap → Prop) : Next → Heap → Prop
  | .value v, h => (k v).wp P Q h
  | .skip, h => (k undef).wp P Q h
  | .enter f args, h => q = false ∧ CallsH P f args.toList h fun e h' => match e with
    | .ret v => (k v).wp P Q h'
    | .pan c => Q (.pan c) h'
  | _, _ => False
def OpOk (q : Bool) (P : Program) (s : Sem Next) (k : Value → T) (Q : Leaf → Heap → Prop) (h : Heap) : Prop :=
  semWp P s (NextK q P k Q) (fun v h' => Q (.pan [{ v, recovered := false }]) h') h

section
variable {q : Bool} {P : Program} {ρ : Operand → Value} {k : Value → T} {Q : Leaf → Heap → Prop} {h : Heap}

theorem ok_v {s : Sem Value} (H : semWp P s (fun v h' => (k v).wp P Q h') (fun v h' => Q (.pan [{ v, recovered := false }]) h') h) :
    OpOk q P (do pure (.value (← s))) k Q h := semWp_bind s _ H
theorem ok_u {s : Sem Unit} (H : semWp P s (fun _ h' => (k undef).wp P Q h') (fun v h' => Q (.pan [{ v, recovered := false }]) h') h) :
    OpOk q P (do s; pure .skip) k Q h := semWp_bind s _ H
theorem ok_pure {v : Value} (H : (k v).wp P Q h) : OpOk q P (pure (.value v)) k Q h := H

theorem deref_ok {p : Option Addr} {f : Addr → T} (H : (deref p f).wp P Q h) : ∃ a, p = some a ∧ (f a).wp P Q h := by
  cases p with
  | none => exact H.elim
  | some a => exact ⟨a, rfl, H⟩
theorem chk_ok {p : Prop} [Decidable p] {t : T} (H : (chk p t).wp P Q h) : p ∧ t.wp P Q h := by
  exact H

theorem sem_ok {s : Sem Value} {sh : Sh} {f : sh.Ty → T} (H : (semR q s sh f).wp P Q h) :
    semWp P s (fun v h' => ∃ x : sh.Ty, v = sh.val x ∧ (f x).wp P Q h') (fun v h' => Q (.pan [{ v, recovered := false }]) h') h := by
  cases q with
  | true => exact H.elim
  | false =>
    simp only [semR, cond_false] at H
    simpa only [T.wp] using H
theorem semT_ok {s : Sem Value} {t : TypeId} (H : (semT q P s t k).wp P Q h) :
    semWp P s (fun v h' => (k v).wp P Q h') (fun v h' => Q (.pan [{ v, recovered := false }]) h') h :=
  semWp_mono s (fun _ _ ⟨_, hx, hk⟩ => hx ▸ hk) (fun _ _ hx => hx) (sem_ok H)

theorem bind_pure_unit (s : Sem Unit) : ∀ {K : Value → Heap → Prop} {X : Value → Heap → Prop} {h : Heap}, semWp P (s.bind fun _ => .pure undef) K X h →
    semWp P s (fun _ h' => K undef h') X h := by
  induction s with
  | pure a => intro K X h H; exact H
  | load m a k ih => intro K X h ⟨v, hv, H⟩; exact ⟨v, hv, ih v H⟩
  | store m a v k ih => intro K X h ⟨a, b, c, H⟩; exact ⟨a, b, c, ih H⟩
  | new o k ih => intro K X h H; exact ih _ H
  | shape r k ih => intro K X h H; exact ih _ H
  | freeze a n k ih => intro K X h H; exact ih H
  | frozen a k ih => intro K X h H; exact ih _ H
  | getObj r k ih => intro K X h ⟨o, a, b, H⟩; exact ⟨o, a, b, ih o H⟩
  | setObj r o k ih => intro K X h ⟨a, H⟩; exact ⟨a, ih H⟩
  | choose q k ih =>
    intro K X h H
    simp only [semWp, Sem.bind] at H ⊢
    split at H
    · rename_i hq; simp only [hq, if_true]; exact ih _ H
    · rename_i hq; simp only [hq]; exact fun t => ih _ (H t)
  | sys c k ih => intro K X h H; exact H
  | program k ih => intro K X h H; exact ih _ H
  | mark m k ih => intro K X h H; exact ih H
  | halt x => intro K X h H; cases x <;> exact H
theorem semU_ok {s : Sem Unit} (H : (semU q s k).wp P Q h) :
    semWp P s (fun _ h' => (k undef).wp P Q h') (fun v h' => Q (.pan [{ v, recovered := false }]) h') h :=
  semWp_mono s (fun _ _ ⟨_, _, hk⟩ => hk) (fun _ _ hx => hx) (bind_pure_unit s (sem_ok H))

theorem loadsT_ok (l : List Atom) : ∀ (a : Addr) (i : Nat) (acc : Array Value) {f : Array Value → T}, (loadsT l a i acc f).wp P Q h →
    semWp P (loadCellsFrom a i l.length acc) (fun cs h' => h' = h ∧ (f cs).wp P Q h') (fun _ _ => False) h := by
  induction l with
  | nil => intro a i acc f H; exact ⟨rfl, H⟩
  | cons s r ih =>
    intro a i acc f H
    obtain ⟨x, hx, H⟩ := H
    exact ⟨s.val x, hx, ih a (i + 1) (acc.push (s.val x)) H⟩

theorem underlying_run {t : TypeId} {d : TypeDesc} (hd : P.underlying t = some d) {α : Type} {f : TypeDesc → Sem α} {K : α → Heap → Prop} {X : Value → Heap → Prop}
    (H : semWp P (f d) K X h) : semWp P (do let d ← underlying t; f d) K X h := by
  show semWp P (Sem.bind (underlying t) f) K X h
  simp only [underlying, program, bind, Sem.bind, semWp, hd, pure]
  exact H
theorem typeInfo_run {t : TypeId} {i : TypeInfo} (hi : P.info? t = some i) {α : Type} {f : TypeInfo → Sem α} {K : α → Heap → Prop} {X : Value → Heap → Prop}
    (H : semWp P (f i) K X h) : semWp P (do let i ← typeInfo t; f i) K X h := by
  show semWp P (Sem.bind (typeInfo t) f) K X h
  simp only [typeInfo, program, bind, Sem.bind, semWp, hi, pure]
  exact H

theorem isAgg_run {t : TypeId} {d : TypeDesc} (hd : P.underlying t = some d) {α : Type} {f : Bool → Sem α} {K : α → Heap → Prop} {X : Value → Heap → Prop}
    (H : semWp P (f (isAggD d)) K X h) : semWp P (do let b ← isAgg t; f b) K X h := by
  show semWp P (Sem.bind (isAgg t) f) K X h
  simp only [isAgg, underlying, program, bind, Sem.bind, semWp, hd, pure]
  cases d <;> exact H
theorem sizeOf_run {t : TypeId} {i : TypeInfo} (hi : P.info? t = some i) {α : Type} {f : Nat → Sem α} {K : α → Heap → Prop} {X : Value → Heap → Prop}
    (H : semWp P (f i.size) K X h) : semWp P (do let n ← Go.sizeOf t; f n) K X h := by
  show semWp P (Sem.bind (Go.sizeOf t) f) K X h
  simp only [Go.sizeOf, typeInfo, program, bind, Sem.bind, semWp, hi, pure]
  exact H

theorem denLoad_ok {t : TypeId} {a : Addr} (H : (denLoad P t a k).wp P Q h) :
    semWp P (loadVar t a) (fun v h' => h' = h ∧ (k v).wp P Q h') (fun _ _ => False) h := by
  unfold denLoad at H
  split at H
  · rename_i d i hd hi
    split at H
    · rename_i l hag hsh
      split at H
      · rename_i hlen
        unfold loadVar
        refine isAgg_run hd ?_
        rw [hag]
        simp only [if_true]
        refine sizeOf_run hi ?_
        rw [← hlen]
        show semWp P (Sem.bind (loadCellsFrom a 0 l.length #[]) _) _ _ _
        refine semWp_bind _ _ (semWp_mono _ (fun cs h' hc => ?_) (fun _ _ x => x) (loadsT_ok l a 0 #[] H))
        exact ⟨hc.1, hc.2⟩
      · exact H.elim
    · rename_i s hag hsh
      unfold loadVar
      refine isAgg_run hd ?_
      rw [hag]
      obtain ⟨x, hx, H⟩ := H
      exact ⟨_, hx, rfl, H⟩
    · exact H.elim
  · exact H.elim
end
end Go.Eng

/-
  THE ENGINE, PART C: the tree of one operation promises what the model's own operation does.
  Conditions: none; it speaks of any program.
-/
namespace Go.Eng
open Go

section
variable {q : Bool} {P : Program} {ρ : Operand → Value} {k : Value → T} {Q : Leaf → Heap → Prop} {h : Heap}

def BinOk (P : Program) (op : BinOp) (t : TypeId) (x y : Operand) (a b : Value) (k : Value → T) (Q : Leaf → Heap → Prop) (h : Heap) : Prop :=
  semWp P (do eqGuard op t x y a b; binOp op t a b) (fun v h' => (k v).wp P Q h') (fun v h' => Q (.pan [{ v, recovered := false }]) h') h

theorem int_bin {op : BinOp} {t : TypeId} {x y : Operand} {j : IntKind} {m n : Int} {s : Sem Value} (he : op ≠ .shl) (he' : op ≠ .shr) (hs : (match op with
    | .add | .sub | .mul => Op.intArith op j m n
    | .quo | .rem => Op.intDiv op j m n
    | .and | .or | .xor | .andNot => Op.intBits op j m n
    | _ => Op.intCmp op m n) = s)
    (H : semWp P s (fun v h' => (k v).wp P Q h') (fun v h' => Q (.pan [{ v, recovered := false }]) h') h) : BinOk P op t x y (.int j m) (.int j n) k Q h := by
  subst hs
  unfold BinOk
  cases op <;> first | exact absurd rfl he | exact absurd rfl he' | (simpa [eqGuard, binOp, bind, Sem.bind, semWp, pure] using H)

theorem ite_ok {p : Prop} [Decidable p] {t : T} (H : (if p then t else T.stuck).wp P Q h) : p ∧ t.wp P Q h := by
  by_cases hp : p
  · rw [if_pos hp] at H; exact ⟨hp, H⟩
  · rw [if_neg hp] at H; exact H.elim
theorem under_ok {t : TypeId} {f : TypeDesc → T} (H : (denSem q P (underlying t) f).wp P Q h) : ∃ d, P.underlying t = some d ∧ (f d).wp P Q h := by
  simp only [underlying, program, bind, Sem.bind, denSem] at H
  cases hd : P.underlying t with
  | none => rw [hd] at H; exact H.elim
  | some d => rw [hd] at H; exact ⟨d, rfl, H⟩

theorem shl_ok {t : TypeId} {x y : Operand} {j j' : IntKind} {m n : Int} (hn : 0 ≤ n) (H : (k (.int j (j.wrap (m * 2 ^ (min n.toNat j.bits))))).wp P Q h) :
    BinOk P .shl t x y (.int j m) (.int j' n) k Q h := by
  show semWp P (Op.shift .shl j m j' n) _ _ h
  unfold Op.shift
  rw [if_neg (show ¬ n < 0 by omega)]
  exact H
theorem shr_ok {t : TypeId} {x y : Operand} {j j' : IntKind} {m n : Int} (hn : 0 ≤ n) (H : (k (.int j (m.fdiv (2 ^ (min n.toNat j.bits))))).wp P Q h) :
    BinOk P .shr t x y (.int j m) (.int j' n) k Q h := by
  show semWp P (Op.shift .shr j m j' n) _ _ h
  unfold Op.shift
  rw [if_neg (show ¬ n < 0 by omega)]
  exact H
theorem sadd_ok {t : TypeId} {x y : Operand} {m n : ByteArray} (hn : ((m.size + n.size : Nat) : Int) ≤ IntKind.i64.max) (H : (k (.string (m ++ n))).wp P Q h) :
    BinOk P .add t x y (.string m) (.string n) k Q h := by
  show semWp P (Op.stringOp .add m n) _ _ h
  simp only [Op.stringOp]
  rw [if_neg (show ¬ ((m.size + n.size : Nat) : Int) > IntKind.i64.max by omega)]
  exact H
theorem eql_of {t : TypeId} {x y : Operand} {a b : Value} {r : Bool} (hg : eqGuard .eql t x y a b = pure ()) (hb : binOp .eql t a b = (do pure (.bool (← Op.equal t a b))))
    (he : ∀ K X, K r h → semWp P (Op.equal t a b) K X h) (H : (k (.bool r)).wp P Q h) : BinOk P .eql t x y a b k Q h := by
  unfold BinOk
  rw [hg, hb]
  exact semWp_bind (Op.equal t a b) _ (he _ _ H)
theorem neq_of {t : TypeId} {x y : Operand} {a b : Value} {r : Bool} (hg : eqGuard .neq t x y a b = pure ()) (hb : binOp .neq t a b = (do pure (.bool (!(← Op.equal t a b)))))
    (he : ∀ K X, K r h → semWp P (Op.equal t a b) K X h) (H : (k (.bool !r)).wp P Q h) : BinOk P .neq t x y a b k Q h := by
  unfold BinOk
  rw [hg, hb]
  exact semWp_bind (Op.equal t a b) _ (he _ _ H)
theorem equal_ptr {t e : TypeId} (hd : P.underlying t = some (.pointer e)) (p : Option Addr) (K : Bool → Heap → Prop) (X : Value → Heap → Prop) (H : K p.isNone h) :
    semWp P (Op.equal t (.pointer p) (.pointer none)) K X h := by
  show semWp P (Op.equalIn (9999 + 1) t _ _) K X h
  rw [Op.equalIn]
  refine underlying_run hd ?_
  cases p <;> exact H
theorem equal_slice {t e : TypeId} (hd : P.underlying t = some (.slice e)) (p : Option Addr) (n c : Nat) (n' c' : Nat) (K : Bool → Heap → Prop) (X : Value → Heap → Prop) (H : K p.isNone h) :
    semWp P (Op.equal t (.slice p n c) (.slice none n' c')) K X h := by
  show semWp P (Op.equalIn (9999 + 1) t _ _) K X h
  rw [Op.equalIn]
  refine underlying_run hd ?_
  cases p <;> exact H
theorem equal_bool {t : TypeId} (hd : P.underlying t = some .bool) (a b : Bool) (K : Bool → Heap → Prop) (X : Value → Heap → Prop) (H : K (a == b) h) :
    semWp P (Op.equal t (.bool a) (.bool b)) K X h := by
  show semWp P (Op.equalIn (9999 + 1) t _ _) K X h
  rw [Op.equalIn]
  refine underlying_run hd ?_
  exact H

theorem leafEq_ok {d : Nat} {t : TypeId} {a b : Value} {r : Bool} (hl : leafEq P t a b = some r) (K : Bool → Heap → Prop) (X : Value → Heap → Prop) (H : K r h) : semWp P (Op.equalIn (d + 1) t a b) K X h := by
  unfold leafEq at hl
  split at hl
  · split at hl
    · rename_i hu
      split at hl
      · rename_i hj
        cases hl
        subst hj
        rw [Op.equalIn]
        refine underlying_run hu ?_
        simp only [if_true]
        exact H
      · cases hl
    · cases hl
  · split at hl
    · rename_i hu
      cases hl
      rw [Op.equalIn]
      exact underlying_run hu H
    · cases hl
  · split at hl
    · rename_i hu
      cases hl
      rw [Op.equalIn]
      exact underlying_run hu H
    · cases hl
  · cases hl
theorem leafPart {t : TypeId} {a b : Value} {r : Bool} (hl : leafEq P t a b = some r) {xs : Array Value} {i : Nat} {v : Value} (hv : xs[i]? = some v) {K : Value → Heap → Prop} {X : Value → Heap → Prop} (H : K v h) : semWp P (part t xs i) K X h := by
  have key : ∀ d, P.underlying t = some d → isAggD d = false → semWp P (part t xs i) K X h := fun d hu hd => by
    unfold part isAgg
    simp only [bind, Sem.bind, underlying, program, semWp, hu]
    cases d <;> first | (cases hd; done) | (simp only [hv]; exact H)
  unfold leafEq at hl
  split at hl
  · split at hl
    · rename_i hu; exact key _ hu rfl
    · cases hl
  · split at hl
    · rename_i hu; exact key _ hu rfl
    · cases hl
  · split at hl
    · rename_i hu; exact key _ hu rfl
    · cases hl
  · cases hl
theorem fieldsEq_ok {d : Nat} (xs ys : Array Value) (X : Value → Heap → Prop) : ∀ (fs : List Field) {r : Bool}, fieldsEq P xs ys fs = some r → ∀ (K : Bool → Heap → Prop), K r h → semWp P (Op.eqFields (d + 1) xs ys fs) K X h := by
  intro fs
  induction fs with
  | nil => intro r hr K H; cases hr; exact H
  | cons f fs ih =>
    intro r hr K H
    unfold fieldsEq at hr
    split at hr
    · cases hr
    · rename_i hn
      split at hr
      · rename_i a b ha hb
        split at hr
        · rename_i r1 r2 h1 h2
          cases hr
          unfold Op.eqFields
          rw [if_pos hn]
          refine semWp_bind _ _ (leafPart h1 ha ?_)
          refine semWp_bind _ _ (leafPart h1 hb ?_)
          refine semWp_bind _ _ (leafEq_ok h1 _ _ ?_)
          cases r1 with
          | false => exact H
          | true => exact ih h2 _ H
        · cases hr
      · cases hr
theorem equal_agg {d : Nat} {t : TypeId} {fs : Array Field} (hu : P.underlying t = some (.struct fs)) (hp : P.stoodInHeld t = false) {xs ys : Array Value} {K : Bool → Heap → Prop} {X : Value → Heap → Prop}
    (H : semWp P (Op.eqFields d xs ys fs.toList) K X h) : semWp P (Op.equalIn (d + 1) t (.agg xs) (.agg ys)) K X h := by
  rw [Op.equalIn]
  refine underlying_run hu ?_
  simp only [program, bind, Sem.bind, semWp, hp, Bool.false_eq_true, if_false]
  rw [← Array.forIn_toList]
  refine Eq.mpr (congrArg (fun s => semWp P s K X h) ?_) H
  generalize fs.toList = l
  clear H hu
  induction l with
  | nil => rfl
  | cons f l ih =>
    rw [List.forIn_cons]
    unfold Op.eqFields
    refine (Sem.bind_assoc' _ _ _).trans ?_
    split
    · refine (Sem.bind_assoc' _ _ _).trans ?_
      show Sem.bind _ _ = Sem.bind _ _
      congr 1
      funext a
      refine (Sem.bind_assoc' _ _ _).trans ?_
      show Sem.bind _ _ = Sem.bind _ _
      congr 1
      funext b
      refine (Sem.bind_assoc' _ _ _).trans ?_
      show Sem.bind _ _ = Sem.bind _ _
      congr 1
      funext r
      cases r with
      | false => rfl
      | true => exact ih
    · exact ih
theorem aggPart {t : TypeId} {gs : Array Field} {inf : TypeInfo} (hu : P.underlying t = some (.struct gs)) (hi : P.info? t = some inf) {xs : Array Value} {i : Nat} {K : Value → Heap → Prop} {X : Value → Heap → Prop} (H : K (.agg (xs.extract i (i + inf.size))) h) : semWp P (part t xs i) K X h := by
  unfold part isAgg
  simp only [bind, Sem.bind, underlying, program, semWp, hu, pure, Go.sizeOf, typeInfo, hi, if_true]
  exact H
theorem fieldsEq2_ok {d : Nat} (xs ys : Array Value) (X : Value → Heap → Prop) : ∀ (fs : List Field) {r : Bool}, fieldsEq2 P xs ys fs = some r → ∀ (K : Bool → Heap → Prop), K r h → semWp P (Op.eqFields (d + 2) xs ys fs) K X h := by
  intro fs
  induction fs with
  | nil => intro r hr K H; cases hr; exact H
  | cons f fs ih =>
    intro r hr K H
    unfold fieldsEq2 at hr
    split at hr
    · cases hr
    · rename_i hn
      split at hr
      · rename_i r1 r2 h1 h2
        cases hr
        unfold Op.eqFields
        rw [if_pos hn]
        have last : ∀ K2 : Bool → Heap → Prop, (K2 = fun r h => semWp P (if (!r) = true then pure false else Op.eqFields (d + 2) xs ys fs) K X h) → K2 r1 h := fun K2 e => by
          subst e
          cases r1 with
          | false => exact H
          | true => exact ih h2 _ H
        unfold fieldEq at h1
        split at h1
        · rename_i a b ha hb
          split at h1
          · rename_i r3 h3
            cases h1
            exact semWp_bind _ _ (leafPart h3 ha (semWp_bind _ _ (leafPart h3 hb (semWp_bind _ _ (leafEq_ok h3 _ _ (last _ rfl))))))
          · unfold nestEq at h1
            split at h1
            · rename_i gs inf hu hi hs
              exact semWp_bind _ _ (aggPart hu hi (semWp_bind _ _ (aggPart hu hi (semWp_bind _ _ (equal_agg hu hs (fieldsEq_ok _ _ _ _ h1 _ (last _ rfl)))))))
            · cases h1
        · cases h1
      · cases hr
theorem eqGuard_agg {op : BinOp} {t : TypeId} {x y : Operand} {xs ys : Array Value} {α : Type} {f : Unit → Sem α} {K : α → Heap → Prop} {X : Value → Heap → Prop} (hg : P.eqGuardType P.depth t = false) (ho : op = .eql ∨ op = .neq) (H : semWp P (f ()) K X h) :
    semWp P ((eqGuard op t x y (.agg xs) (.agg ys)).bind f) K X h := by
  have key : semWp P (eqGuard op t x y (.agg xs) (.agg ys)) (fun _ h' => h' = h) X h := by
    rcases ho with rfl | rfl
    · show semWp P (if (!P.eqGuardType P.depth t) = true then pure () else _) _ X h
      rw [hg]
      rfl
    · show semWp P (if (!P.eqGuardType P.depth t) = true then pure () else _) _ X h
      rw [hg]
      rfl
  exact semWp_bind _ _ (semWp_mono _ (fun a h' e => by subst e; exact H) (fun _ _ x => x) key)
theorem aggEq_eq {t : TypeId} {x y : Operand} {xs ys : Array Value} (H : (aggEq P t xs ys (fun r => k (.bool r)) (semR q (do eqGuard .eql t x y (.agg xs) (.agg ys); binOp .eql t (.agg xs) (.agg ys)) (.one (.atom .bool)) fun r => k (.bool r))).wp P Q h) : BinOk P .eql t x y (.agg xs) (.agg ys) k Q h := by
  unfold aggEq at H
  split at H
  · rename_i fs hu
    split at H
    · rename_i r hg hf
      rw [Bool.or_eq_false_iff] at hg
      refine eqGuard_agg hg.1 (.inl rfl) ?_
      exact semWp_bind (Op.equal t (.agg xs) (.agg ys)) _ (equal_agg (d := 9999) hu hg.2 (fieldsEq2_ok (d := 9997) xs ys _ _ hf _ H))
    · exact semWp_mono _ (fun v h' ⟨r, hr, hk⟩ => hr ▸ hk) (fun _ _ x => x) (sem_ok H)
  · exact semWp_mono _ (fun v h' ⟨r, hr, hk⟩ => hr ▸ hk) (fun _ _ x => x) (sem_ok H)
theorem aggEq_ne {t : TypeId} {x y : Operand} {xs ys : Array Value} (H : (aggEq P t xs ys (fun r => k (.bool !r)) (semR q (do eqGuard .neq t x y (.agg xs) (.agg ys); binOp .neq t (.agg xs) (.agg ys)) (.one (.atom .bool)) fun r => k (.bool r))).wp P Q h) : BinOk P .neq t x y (.agg xs) (.agg ys) k Q h := by
  unfold aggEq at H
  split at H
  · rename_i fs hu
    split at H
    · rename_i r hg hf
      rw [Bool.or_eq_false_iff] at hg
      refine eqGuard_agg hg.1 (.inr rfl) ?_
      exact semWp_bind (Op.equal t (.agg xs) (.agg ys)) _ (equal_agg (d := 9999) hu hg.2 (fieldsEq2_ok (d := 9997) xs ys _ _ hf _ H))
    · exact semWp_mono _ (fun v h' ⟨r, hr, hk⟩ => hr ▸ hk) (fun _ _ x => x) (sem_ok H)
  · exact semWp_mono _ (fun v h' ⟨r, hr, hk⟩ => hr ▸ hk) (fun _ _ x => x) (sem_ok H)
theorem denBin_ok {op : BinOp} {t : TypeId} {x y : Operand} {a b : Value} (H : (denBin q P op t x y a b k).wp P Q h) : BinOk P op t x y a b k Q h := by
  unfold denBin at H
  split at H
  case h_1 => obtain ⟨hj, H2⟩ := ite_ok H; subst hj; exact int_bin (by simp) (by simp) rfl H2
  case h_2 => obtain ⟨hj, H2⟩ := ite_ok H; subst hj; exact int_bin (by simp) (by simp) rfl H2
  case h_3 => obtain ⟨hj, H2⟩ := ite_ok H; subst hj; exact int_bin (by simp) (by simp) rfl H2
  case h_4 =>
    obtain ⟨hj, H2⟩ := ite_ok H
    subst hj
    obtain ⟨hn, H3⟩ := chk_ok H2
    refine int_bin (by simp) (by simp) rfl ?_
    simp only [Op.intDiv, if_neg hn]
    exact H3
  case h_5 =>
    obtain ⟨hj, H2⟩ := ite_ok H
    subst hj
    obtain ⟨hn, H3⟩ := chk_ok H2
    refine int_bin (by simp) (by simp) rfl ?_
    simp only [Op.intDiv, if_neg hn]
    exact H3
  case h_6 =>
    obtain ⟨hn, H2⟩ := chk_ok H
    exact shl_ok hn H2
  case h_7 =>
    obtain ⟨hn, H2⟩ := chk_ok H
    exact shr_ok hn H2
  case h_8 => obtain ⟨hj, H2⟩ := ite_ok H; subst hj; exact int_bin (by simp) (by simp) rfl H2
  case h_9 => obtain ⟨hj, H2⟩ := ite_ok H; subst hj; exact int_bin (by simp) (by simp) rfl H2
  case h_10 => obtain ⟨hj, H2⟩ := ite_ok H; subst hj; exact int_bin (by simp) (by simp) rfl H2
  case h_11 => obtain ⟨hj, H2⟩ := ite_ok H; subst hj; exact int_bin (by simp) (by simp) rfl H2
  case h_12 => obtain ⟨hj, H2⟩ := ite_ok H; subst hj; exact int_bin (by simp) (by simp) rfl H2
  case h_13 => obtain ⟨hj, H2⟩ := ite_ok H; subst hj; exact int_bin (by simp) (by simp) rfl H2
  case h_14 =>
    obtain ⟨hn, H2⟩ := chk_ok H
    exact sadd_ok hn H2
  case h_15 => exact H
  case h_16 => exact H
  case h_17 =>
    obtain ⟨d, hd, H2⟩ := under_ok H
    cases d <;> first | exact H2.elim | exact eql_of rfl rfl (equal_ptr hd _) H2
  case h_18 =>
    obtain ⟨d, hd, H2⟩ := under_ok H
    cases d <;> first | exact H2.elim | exact neq_of rfl rfl (equal_ptr hd _) H2
  case h_19 =>
    obtain ⟨d, hd, H2⟩ := under_ok H
    cases d <;> first | exact H2.elim | exact eql_of rfl rfl (equal_slice hd _ _ _ _ _) H2
  case h_20 =>
    obtain ⟨d, hd, H2⟩ := under_ok H
    cases d <;> first | exact H2.elim | exact neq_of rfl rfl (equal_slice hd _ _ _ _ _) H2
  case h_21 =>
    obtain ⟨d, hd, H2⟩ := under_ok H
    cases d <;> first | exact H2.elim | exact eql_of rfl rfl (equal_bool hd _ _) H2
  case h_22 =>
    obtain ⟨d, hd, H2⟩ := under_ok H
    cases d <;> first | exact H2.elim | exact neq_of rfl rfl (equal_bool hd _ _) H2
  case h_23 => exact aggEq_eq H
  case h_24 => exact aggEq_ne H
  case h_25 => exact semWp_mono _ (fun v h' ⟨r, hr, hk⟩ => hr ▸ hk) (fun _ _ x => x) (sem_ok H)
  case h_26 => exact semWp_mono _ (fun v h' ⟨r, hr, hk⟩ => hr ▸ hk) (fun _ _ x => x) (sem_ok H)
  case h_27 => exact denSem_ok _ H

theorem bound_ok {v : Option Value} {d l : Int} (hb : bound d v = some l) : (v = none ∧ l = d) ∨ ∃ j, v = some (.int j l) := by
  cases v with
  | none => simp [bound] at hb; exact .inl ⟨rfl, hb.symm⟩
  | some v =>
    cases v <;> simp [bound] at hb
    subst hb
    exact .inr ⟨_, rfl⟩

theorem sliceBound_ok {α : Type} {j : IntKind} {l : Int} {y : Nat} {code : BoundsCode} {f : Nat → Sem α} {K : α → Heap → Prop} {X : Value → Heap → Prop}
    (h0 : 0 ≤ l) (h1 : l ≤ y) (H : semWp P (f l.toNat) K X h) : semWp P (do let n ← Instr.sliceBound (.int j l) y code; f n) K X h := by
  show semWp P (Sem.bind (Instr.sliceBound (.int j l) y code) f) K X h
  have e : Instr.sliceBound (.int j l) y code = .pure l.toNat := by
    show (if 0 ≤ l ∧ l ≤ y then Sem.pure l.toNat else boundsPanic j l y code) = _
    rw [if_pos ⟨h0, h1⟩]
  rw [e]
  exact H

theorem sliceBounds_ok {b : Bool} {len cap : Nat} {lo hi : Option Value} {l hh : Int} (hl : bound 0 lo = some l) (hhi : bound len hi = some hh)
    (h0 : 0 ≤ l) (h1 : l ≤ hh) (h2 : hh ≤ cap) {α : Type} {f : Nat × Nat × Nat → Sem α} {K : α → Heap → Prop} {X : Value → Heap → Prop}
    (H : semWp P (f (l.toNat, hh.toNat, cap)) K X h) :
    semWp P (do let r ← Instr.sliceBounds b len cap lo hi none; f r) K X h := by
  show semWp P (Sem.bind (Instr.sliceBounds b len cap lo hi none) f) K X h
  refine semWp_bind _ _ ?_
  have h0' : l ≤ (hh.toNat : Int) := by omega
  rcases bound_ok hl with ⟨rfl, rfl⟩ | ⟨j, rfl⟩ <;> rcases bound_ok hhi with ⟨rfl, rfl⟩ | ⟨j', rfl⟩
  · exact H
  · exact sliceBound_ok (f := fun n => Sem.pure (0, n, cap)) (by omega) h2 H
  · refine sliceBound_ok (f := fun n => Sem.pure (n, len, cap)) h0 (by omega) H
  · refine sliceBound_ok (f := fun m => Sem.bind (Instr.sliceBound (.int j l) m .sliceB) fun n => Sem.pure (n, m, cap)) (by omega) h2 ?_
    exact sliceBound_ok (f := fun n => Sem.pure (n, hh.toNat, cap)) h0 h0' H

theorem denSlice_ok {t : TypeId} {x : Value} {lo hi mx : Option Value} (H : (denSlice q P t x lo hi mx k).wp P Q h) :
    semWp P (Instr.sliceAt t x lo hi mx) (fun v h' => (k v).wp P Q h') (fun v h' => Q (.pan [{ v, recovered := false }]) h') h := by
  unfold denSlice at H
  split at H
  · rename_i s hd
    split at H
    · rename_i l hh hl hhh
      obtain ⟨⟨h1, h2, h3⟩, H2⟩ := chk_ok H
      unfold Instr.sliceAt
      refine underlying_run hd ?_
      unfold Instr.slice
      refine underlying_run hd ?_
      exact sliceBounds_ok hl hhh h1 h2 h3 H2
    · exact H.elim
  · rename_i e p n c hd
    split at H
    · rename_i l hh i hl hhh hi
      obtain ⟨⟨h1, h2, h3⟩, H2⟩ := chk_ok H
      unfold Instr.sliceAt
      refine underlying_run hd ?_
      unfold Instr.slice
      refine underlying_run hd ?_
      refine sliceBounds_ok hl hhh h1 h2 h3 ?_
      exact sizeOf_run hi H2
    · exact H.elim
  · exact semT_ok H

theorem denCall_ok {c : Call} {t : TypeId} (H : (denCall q P ρ c t k).wp P Q h) :
    OpOk q P (do let d ← resolve ρ c t; invoke d.target d.args) k Q h := by
  unfold denCall at H
  split at H
  · rename_i b hc
    have e : resolve ρ c t = .pure { target := .builtin b c.argTypes t (c.args.map fun | .const _ => true | _ => false), args := c.args.map ρ } := by
      unfold resolve
      rw [hc]
      rfl
    rw [e]
    show OpOk q P (builtin b c.argTypes t _ (c.args.map ρ)) k Q h
    cases b <;> first | exact H.elim | skip
    case append => exact ok_v (semT_ok H)
    case cap =>
      dsimp only at H
      split at H <;> first | exact H.elim | skip
      rename_i at0 _ x _ h1 h2
      refine ok_v ?_
      have e1 : c.argTypes[0]? = some at0 := by rw [← Array.getElem?_toList, h1]; rfl
      have e2 : (c.args.map ρ)[0]? = some x := by rw [← Array.getElem?_toList, h2]; rfl
      split at H
      · rename_i hd
        show semWp P (Builtin.cap_ c.argTypes t (c.args.map ρ)) _ _ _
        unfold Builtin.cap_
        rw [e1, e2]
        exact underlying_run hd H
      · exact semT_ok H
    case clear => exact ok_v (semWp_mono _ (fun _ _ ⟨_, hx, hk⟩ => by subst hx; exact hk) (fun _ _ x => x) (sem_ok H))
    case copy => exact ok_v (semWp_mono _ (fun _ _ ⟨_, hx, hk⟩ => by subst hx; exact hk) (fun _ _ x => x) (sem_ok H))
    case delete => exact ok_v (semWp_mono _ (fun _ _ ⟨_, hx, hk⟩ => by subst hx; exact hk) (fun _ _ x => x) (sem_ok H))
    case len =>
      dsimp only at H
      split at H <;> first | exact H.elim | skip
      rename_i at0 _ x _ h1 h2
      refine ok_v ?_
      have e1 : c.argTypes[0]? = some at0 := by rw [← Array.getElem?_toList, h1]; rfl
      have e2 : (c.args.map ρ)[0]? = some x := by rw [← Array.getElem?_toList, h2]; rfl
      split at H
      · rename_i hd
        show semWp P (Builtin.len_ c.argTypes t (c.args.map ρ)) _ _ _
        unfold Builtin.len_
        rw [e1, e2]
        exact underlying_run hd H
      · rename_i hd
        show semWp P (Builtin.len_ c.argTypes t (c.args.map ρ)) _ _ _
        unfold Builtin.len_
        rw [e1, e2]
        exact underlying_run hd H
      · rename_i x _ _ n e hd
        show semWp P (Builtin.len_ c.argTypes t (c.args.map ρ)) _ _ _
        unfold Builtin.len_
        rw [e1, e2]
        refine underlying_run hd ?_
        cases x <;> exact H
      · exact semT_ok H
    case max => exact ok_v (denSem_ok _ H)
    case min => exact ok_v (denSem_ok _ H)
  · rename_i f hc
    unfold callV at H
    split at H
    · rename_i g first cap hf
      split at H
      · rename_i fn hfn
        split at H
        · rename_i hname hbody
          have e : resolve ρ c t = .pure { target := .fn (.func g) cap, args := first ++ c.args.map ρ } := by
            unfold resolve
            rw [hc]
            simp only [hf, Deferred.ofValue]
            rfl
          rw [e]
          show OpOk q P (callFunc g ((first ++ c.args.map ρ) ++ cap)) k Q h
          unfold OpOk callFunc
          simp only [program, bind, Sem.bind, semWp, hfn, hname, hbody, Bool.false_eq_true, if_false]
          cases q with
          | true => exact H.elim
          | false =>
          simp only [cond_false, T.wp] at H
          simp only [pure, semWp, NextK]
          refine ⟨trivial, CallsH.mono H fun e h' he => ?_⟩
          cases e with
          | ret v => obtain ⟨x, hx, hk⟩ := he; subst hx; exact hk
          | pan c => exact he
        · exact H.elim
      · exact H.elim
    · exact H.elim
  · exact H.elim

theorem denOp_ok {o : Oper} (H : (denOp q P ρ o k).wp P Q h) : OpOk q P (execOp ρ o) k Q h := by
  obtain ⟨dst, op, type, pos, after, guard⟩ := o
  cases op <;> simp only [denOp] at H <;> first | exact H.elim | skip
  case move x => exact H
  case assign x => exact H
  case pick c a b =>
    split at H
    · rename_i t ht
      show OpOk q P (do pure (.value (if ← asBool (ρ c) then ρ a else ρ b))) k Q h
      rw [ht]
      cases t <;> exact H
    · exact H.elim
  case alloc e => exact ok_v (denSem_ok _ H)
  case box e x => exact ok_v (denSem_ok _ H)
  case build t ps => exact ok_v (denSem_ok _ H)
  case buildSlice t n ps => exact ok_v (denSem_ok _ H)
  case insert t m key x => exact ok_u (semU_ok H)
  case load t a =>
    split at H
    · rename_i p ha
      obtain ⟨a', rfl, H2⟩ := deref_ok H
      refine ok_v ?_
      show semWp P (Instr.loadAt t (ρ a)) _ _ _
      rw [ha]
      exact semWp_mono _ (fun _ _ ⟨h1, h2⟩ => h1 ▸ h2) (fun _ _ hx => hx.elim) (denLoad_ok H2)
    · exact H.elim
  case store t a x =>
    refine ok_u ?_
    split at H
    · rename_i p ha
      obtain ⟨a', rfl, H2⟩ := deref_ok H
      rw [ha]
      exact denSem_ok _ H2
    · exact denSem_ok _ H
  case nilCheck x =>
    split at H
    · rename_i p hp
      obtain ⟨a, rfl, H2⟩ := deref_ok H
      simp only [execOp, hp]
      exact H2
    · rename_i f a b hp
      simp only [execOp, hp]
      exact H
    · rename_i t v hp
      simp only [execOp, hp]
      exact H
    · exact H.elim
  case binOp op xt x y yt => exact ok_v (denBin_ok H)
  case unOp op xt x => exact ok_v (denSem_ok _ H)
  case convert src dst x =>
    refine ok_v ?_
    split at H
    · exact denSem_ok _ H
    · exact denSem_ok _ H
    · exact semT_ok H
  case makeInterface t x => exact ok_v (denSem_ok _ H)
  case makeFunc fn first captured => exact H
  case makeMap t r => exact ok_v (denSem_ok _ H)
  case makeChan t s => exact ok_v (semT_ok H)
  case makeSlice t l c => exact ok_v (semT_ok H)
  case slice t x lo hi mx => exact ok_v (denSlice_ok H)
  case fieldAddr s x f =>
    refine ok_v ?_
    split at H
    · rename_i p hp
      obtain ⟨a, rfl, H2⟩ := deref_ok H
      rw [hp]
      exact denSem_ok _ H2
    · exact denSem_ok _ H
  case field t x f => exact ok_v (denSem_ok _ H)
  case indexAddr t x ix =>
    refine ok_v ?_
    show semWp P (Instr.indexAt t (ρ x) (ρ ix)) _ _ _
    split at H
    · rename_i e p n c j i hd hx hix
      split at H
      · rename_i info hinfo
        obtain ⟨a, rfl, H2⟩ := deref_ok H
        obtain ⟨hb, H3⟩ := chk_ok H2
        rw [hx, hix]
        simp only [Instr.indexAt, Instr.sureAddr, asIntOf, underlying, program, bind, Sem.bind, semWp, hd, pure, Go.sizeOf, typeInfo, hinfo, if_pos hb]
        exact H3
      · exact H.elim
    · rename_i n e a j i hd hx hix
      split at H
      · rename_i info hinfo
        obtain ⟨hb, H3⟩ := chk_ok H
        rw [hx, hix]
        simp only [Instr.indexAt, Instr.sureAddr, asIntOf, underlying, program, bind, Sem.bind, semWp, hd, pure, Go.sizeOf, typeInfo, hinfo, if_pos hb]
        exact H3
      · exact H.elim
    · exact H.elim
  case index t x ix =>
    refine ok_v ?_
    show semWp P (Instr.index t (ρ x) (ρ ix)) _ _ _
    split at H
    · rename_i s j i hd hx hix
      obtain ⟨hb, H3⟩ := chk_ok H
      rw [hx, hix]
      unfold Instr.index
      simp only [asIntOf]
      refine underlying_run hd ?_
      have e : (if 0 ≤ i then s[i.toNat]? else none) = some (byteAt s i.toNat) := by
        rw [if_pos hb.1]
        have hlt : i.toNat < s.size := by omega
        rw [getElem?_pos s i.toNat hlt]
        unfold byteAt
        have : i.toNat < s.data.toList.length := by simpa using hlt
        rw [List.getD_eq_getElem?_getD, List.getElem?_eq_getElem this]
        rfl
      dsimp only
      rw [e]
      exact H3
    · exact denSem_ok _ H
  case lookup t x ix ok => exact ok_v (semT_ok H)
  case mapUpdate t m key x => exact ok_u (semU_ok H)
  case range t x => exact ok_v (semWp_mono _ (fun _ _ ⟨_, hx, hk⟩ => by subst hx; exact hk) (fun _ _ x => x) (sem_ok H))
  case next it b => exact ok_v (semWp_mono _ (fun _ _ ⟨_, hx, hk⟩ => by subst hx; exact hk) (fun _ _ x => x) (sem_ok H))
  case typeAssert x xt at_ ok => exact ok_v (semT_ok H)
  case extract t ix => exact ok_v (denSem_ok _ H)
  case call c => exact denCall_ok H
  case panic x => exact ok_v (denSem_ok _ H)

end
end Go.Eng

/-
  THE ENGINE, PART D: a region whose order is the text's: its operations one by one; a select of one case with a default.
  Conditions: none; it speaks of any program.
-/
namespace Go.Eng
open Go

/-! ## what is known of the temporaries -/
abbrev Env := List (Nat × Value)
def Env.get? : Env → Nat → Option Value
  | [], _ => none
  | (i, v) :: r, t => bif Nat.beq i t then some v else Env.get? r t
def Env.put (e : Env) (dst : Option Tmp) (v : Value) : Env := match dst with
  | some d => (d, v) :: e
  | none => e
def Env.ev (e : Env) : Operand → Value
  | .tmp t => (e.get? t).getD undef
  | .const v => v
  | .global g => .pointer (some ⟨g, 0, none⟩)
  | .func f => .func (.func f) #[] #[]
def Env.has (e : Env) : Operand → Bool
  | .tmp t => (e.get? t).isSome
  | _ => true
def Agrees (e : Env) (tm : Array Value) : Prop := ∀ t v, e.get? t = some v → tm[t]? = some v

theorem Env.get?_cons (i : Nat) (v : Value) (r : Env) (t : Nat) : Env.get? ((i, v) :: r) t = if i = t then some v else Env.get? r t := by
  show (bif Nat.beq i t then some v else Env.get? r t) = _
  by_cases h : i = t
  · subst h; simp
  · have : Nat.beq i t = false := by
      cases hb : Nat.beq i t with
      | false => rfl
      | true => exact absurd (Nat.eq_of_beq_eq_true hb) h
    simp [this, h]

theorem Agrees.ev {e : Env} {a : Act} (h : Agrees e a.tmps) {x : Operand} (hx : e.has x = true) : a.eval x = e.ev x := by
  cases x with
  | tmp t =>
    obtain ⟨v, hv⟩ := Option.isSome_iff_exists.1 hx
    have := h t v hv
    simp [Act.eval, Env.ev, hv, this]
  | const v => rfl
  | global g => rfl
  | func f => rfl

theorem Agrees.put {e : Env} {a : Act} (h : Agrees e a.tmps) (dst : Option Tmp) (v : Value) (hd : ∀ d, dst = some d → d < a.tmps.size) : Agrees (e.put dst v) (a.put dst v).tmps := by
  cases dst with
  | none => exact h
  | some d =>
    intro t u hu
    simp only [Env.put, Env.get?_cons] at hu
    have hlt := hd d rfl
    by_cases hdt : d = t
    · subst hdt
      simp only [if_true, Option.some.injEq] at hu
      subst hu
      simp [Act.put, hlt]
    · simp only [hdt, if_false] at hu
      simp only [Act.put, Array.getElem?_setIfInBounds_ne hdt]
      exact h t u hu

theorem Act.put_size (a : Act) (dst : Option Tmp) (v : Value) : (a.put dst v).tmps.size = a.tmps.size := by
  cases dst <;> simp [Act.put]
theorem Act.put_defers' (a : Act) (dst : Option Tmp) (v : Value) : (a.put dst v).defers = a.defers := by
  cases dst <;> rfl

/-- What was written: all else is as it was. -/
def Fr (W : List Nat) (a a' : Act) : Prop := a'.tmps.size = a.tmps.size ∧ a'.defers = a.defers ∧ ∀ t, t ∉ W → a'.tmps[t]? = a.tmps[t]?
theorem Fr.refl (W : List Nat) (a : Act) : Fr W a a := ⟨rfl, rfl, fun _ _ => rfl⟩
theorem Fr.trans {W : List Nat} {a b c : Act} (h : Fr W a b) (k : Fr W b c) : Fr W a c := ⟨k.1.trans h.1, k.2.1.trans h.2.1, fun t ht => (k.2.2 t ht).trans (h.2.2 t ht)⟩
theorem Fr.mono {W W' : List Nat} {a b : Act} (h : Fr W a b) (hW : ∀ t, t ∈ W → t ∈ W') : Fr W' a b := ⟨h.1, h.2.1, fun t ht => h.2.2 t (fun h' => ht (hW t h'))⟩
theorem Fr.put (W : List Nat) (a : Act) (dst : Option Tmp) (v : Value) (h : ∀ d, dst = some d → d ∈ W) : Fr W a (a.put dst v) := by
  refine ⟨Act.put_size a dst v, Act.put_defers' a dst v, fun t ht => ?_⟩
  cases dst with
  | none => rfl
  | some d =>
    have : d ≠ t := fun e => ht (e ▸ h d rfl)
    simp [Act.put, Array.getElem?_setIfInBounds_ne this]

/-! ## inside a region -/
def IR (P : Program) (ops : Array Oper) (l : List Nat) (Q : Exit → Act → World → Prop) (a : Act) (w : World) : Prop :=
  ∀ (b : Frame) (k : List Item) (cs : List Frame),
    ∃ e a' w', Q e a' w' ∧ Arrives P (lone (b.at a (.inRegion ops l :: k)) cs w) b k cs e a' w'

section
variable {P : Program} {ops : Array Oper} {Q : Exit → Act → World → Prop} {a : Act} {w : World}

theorem ir_nil (h : Q .normal a w) : IR P ops [] Q a w := fun _ _ _ => ⟨.normal, a, w, h, .one step_region_end⟩

theorem ir_skip {i : Nat} {rest : List Nat} (h : ((ops[i]?).map (Region.wanted · (yielded ops a.tmps))).getD false = false)
    (H : IR P ops rest Q (a.put ((ops[i]?).bind (·.dst)) undef) w) : IR P ops (i :: rest) Q a w := fun b k cs => by
  obtain ⟨e, a', w', hq, harr⟩ := H b k cs
  exact ⟨e, a', w', hq, .of_steps (.one (step_op_skip h)) harr⟩

theorem ir_value {i : Nat} {rest : List Nat} {o : Oper} {v : Value} {w' : World} (ho : ops[i]? = some o) (hw : Region.wanted o (yielded ops a.tmps) = true)
    (hr : (execOp a.eval o).run P w = .ok (.value v) w') (H : IR P ops rest Q (a.put o.dst v) w') : IR P ops (i :: rest) Q a w := fun b k cs => by
  obtain ⟨e, a', w'', hq, harr⟩ := H b k cs
  refine ⟨e, a', w'', hq, .of_steps (.one (step_lone_go ?_)) harr⟩
  have hfin : (b.at a (.inRegion ops (i :: rest) :: k)).finish v = b.at (a.put o.dst v) (.inRegion ops rest :: k) := by rw [Frame.finish_at, ho]; rfl
  rw [stepG_op ho hw, ← hfin]; simp [stepG.apply, hr]

theorem ir_none {i : Nat} {rest : List Nat} {o : Oper} {w' : World} (ho : ops[i]? = some o) (hw : Region.wanted o (yielded ops a.tmps) = true)
    (hr : (execOp a.eval o).run P w = .ok .skip w') (H : IR P ops rest Q (a.put o.dst undef) w') : IR P ops (i :: rest) Q a w := fun b k cs => by
  obtain ⟨e, a', w'', hq, harr⟩ := H b k cs
  refine ⟨e, a', w'', hq, .of_steps (.one (step_lone_go ?_)) harr⟩
  have hfin : (b.at a (.inRegion ops (i :: rest) :: k)).finish undef = b.at (a.put o.dst undef) (.inRegion ops rest :: k) := by rw [Frame.finish_at, ho]; rfl
  rw [stepG_op ho hw, ← hfin]; simp [stepG.apply, hr]

theorem ir_panic {i : Nat} {rest : List Nat} {o : Oper} {v : Value} {w' : World} (ho : ops[i]? = some o) (hw : Region.wanted o (yielded ops a.tmps) = true)
    (hr : (execOp a.eval o).run P w = .halt (.panic v) w') (H : Q (.panic [{ v, recovered := false }]) a w') : IR P ops (i :: rest) Q a w := fun b k cs => by
  refine ⟨_, a, w', H, .inRegion ops (i :: rest) :: k, .one (step_lone_go ?_)⟩
  rw [stepG_op ho hw, ← Frame.raise_at]; simp [stepG.apply, hr]

theorem ir_enter {i : Nat} {rest : List Nat} {o : Oper} {f : FuncId} {args : Array Value} {w' : World} (ho : ops[i]? = some o) (hw : Region.wanted o (yielded ops a.tmps) = true)
    (hr : (execOp a.eval o).run P w = .ok (.enter f args) w')
    (H : Calls P f args w' fun e w'' => match e with
      | .returned v => IR P ops rest Q (a.put o.dst v) w''
      | .panicked chain => Q (.panic chain) a w''
      | .outgrown => False) : IR P ops (i :: rest) Q a w := fun b k cs => by
  obtain ⟨e, w'', fr, hR, hsteps, _, hleave⟩ := H (b.at a (.inRegion ops (i :: rest) :: k) :: cs)
  have henter : step P (lone (b.at a (.inRegion ops (i :: rest) :: k)) cs w) =
      .next (lone (Frame.enter P f args .normal) (b.at a (.inRegion ops (i :: rest) :: k) :: cs) w') :=
    step_lone_go (by rw [stepG_op ho hw]; simp [stepG.apply, hr, Frame.at])
  cases e with
  | returned v =>
    obtain ⟨e, a', w₃, hq, harr⟩ := hR b k cs
    refine ⟨e, a', w₃, hq, .of_steps (.head henter (hsteps.trans (.one ?_))) harr⟩
    have hfin : (b.at a (.inRegion ops (i :: rest) :: k)).finish v = b.at (a.put o.dst v) (.inRegion ops rest :: k) := by rw [Frame.finish_at, ho]; rfl
    rw [← hfin]; exact step_leave_returned hleave
  | panicked chain =>
    refine ⟨.panic chain, a, w'', hR, .inRegion ops (i :: rest) :: k, .head henter (hsteps.trans (.one ?_))⟩
    rw [← Frame.raise_at]; exact step_leave_panicked hleave
  | outgrown => exact hR.elim

theorem stepG_comm' {b : Frame} {k : List Item} {cs : List Frame} {i : Nat} {rest : List Nat} {o : Oper} {cases_ : Array CommCase} {blocking : Bool} {shape : CommShape} (ho : ops[i]? = some o)
    (hw : Region.wanted o (yielded ops a.tmps) = true) (hr : (execOp a.eval o).run P w = .ok (.comm cases_ blocking shape) w) :
    ∃ es, stepG P true (Conc.G (b.at a (.inRegion ops (i :: rest) :: k)) cs) w = .comm (Conc.G (b.at a (.inRegion ops (i :: rest) :: k)) cs) cases_ blocking shape w es := by
  have hg := stepG_op (P := P) (b := b) (k := k) (cs := cs) (w := w) (rest := rest) ho hw
  have : stepG P true (Conc.G (b.at a (.inRegion ops (i :: rest) :: k)) cs) w = stepG.apply P true (b.at a (.inRegion ops (i :: rest) :: k)) cs none (execOp a.eval o) w := hg
  rw [this]
  refine ⟨(stepG.apply P true (b.at a (.inRegion ops (i :: rest) :: k)) cs none (execOp a.eval o) w).es, ?_⟩
  simp [stepG.apply, hr, Conc.G, Frame.at, GStep.after, GStep.es]

/-- The value that a select of one case with a default yields. -/
def selVal (send : Option Value) (i : Int) (ok : Bool) (v : Value) : Value := match send with
  | some _ => .tuple #[goInt i, .bool ok]
  | none => .tuple #[goInt i, .bool ok, v]

theorem ir_select {i : Nat} {rest : List Nat} {o : Oper} {c : Nat} {send : Option Value} {zero : Value} (ho : ops[i]? = some o) (hw : Region.wanted o (yielded ops a.tmps) = true)
    (hr : (execOp a.eval o).run P w = .ok (.comm #[{ chan := .chan (some c), send, zero }] false .select) w)
    (H : selWp c send zero (fun j ok v h' => ∀ w', Same w w' → w'.heap = h' → IR P ops rest Q (a.put o.dst (selVal send j ok v)) w') w.heap) : IR P ops (i :: rest) Q a w := by
  intro b k cs
  obtain ⟨es, hst⟩ := stepG_comm' (b := b) (k := k) (cs := cs) (rest := rest) ho hw hr
  obtain ⟨cap, buf, s, r, hc, H⟩ := H
  have fin : ∀ v, (b.at a (.inRegion ops (i :: rest) :: k)).finish v = b.at (a.put o.dst v) (.inRegion ops rest :: k) := fun v => by rw [Frame.finish_at, ho]; rfl
  cases send with
  | none =>
    by_cases hh : 0 < buf.size
    · simp only [if_pos hh] at H
      have hs := Conc.step_lone_select_recv_buf hst hc hh
      obtain ⟨e, a', w', hq, harr⟩ := H (w.setChan c cap (buf.extract 1 buf.size) false s (r + 1) false) ⟨rfl, rfl, rfl, by unfold World.setChan; simp⟩ rfl b k cs
      refine ⟨e, a', w', hq, .of_steps (.one ?_) harr⟩
      rw [← fin]; exact hs
    · simp only [if_neg hh] at H
      have hb : buf = #[] := by
        have : buf.size = 0 := by omega
        exact Array.eq_empty_of_size_eq_zero this
      subst hb
      have hs := Conc.step_lone_select_default hst hc
      obtain ⟨e, a', w', hq, harr⟩ := H w (.refl w) rfl b k cs
      refine ⟨e, a', w', hq, .of_steps (.one ?_) harr⟩
      rw [← fin]; exact hs
  | some v =>
    by_cases hh : buf.size < cap
    · simp only [if_pos hh] at H
      have hs := Conc.step_lone_select_send_room hst hc hh
      obtain ⟨e, a', w', hq, harr⟩ := H (w.setChan c cap (buf.push v) false (s + 1) r false) ⟨rfl, rfl, rfl, by unfold World.setChan; simp⟩ rfl b k cs
      refine ⟨e, a', w', hq, .of_steps (.one ?_) harr⟩
      rw [← fin]; exact hs
    · simp only [if_neg hh] at H
      have hs := Conc.step_lone_select_send_full hst hc (by omega)
      obtain ⟨e, a', w', hq, harr⟩ := H w (.refl w) rfl b k cs
      refine ⟨e, a', w', hq, .of_steps (.one ?_) harr⟩
      rw [← fin]; exact hs
end
end Go.Eng

/-
  THE ENGINE, PART E: one step inside a region; the operations of a region in the text's order.
  Conditions: none; it speaks of any program.
-/
namespace Go.Eng
open Go

section
variable {P : Program} {ops : Array Oper}

/-- One step inside a region. -/
def StepTo (P : Program) (ops : Array Oper) (i : Nat) (a : Act) (w : World) (K : Act → World → Prop) (X : List PanicEntry → World → Prop) : Prop :=
  match ops[i]? with
  | none => K a w
  | some o =>
    (Region.wanted o (yielded ops a.tmps) = false ∧ K (a.put o.dst undef) w) ∨
    (Region.wanted o (yielded ops a.tmps) = true ∧
      ((∃ v w', (execOp a.eval o).run P w = .ok (.value v) w' ∧ K (a.put o.dst v) w') ∨
       (∃ w', (execOp a.eval o).run P w = .ok .skip w' ∧ K (a.put o.dst undef) w') ∨
       (∃ f args w', (execOp a.eval o).run P w = .ok (.enter f args) w' ∧ Calls P f args w' fun e w'' => match e with
          | .returned v => K (a.put o.dst v) w''
          | .panicked ch => X ch w''
          | .outgrown => False) ∨
       (∃ v w', (execOp a.eval o).run P w = .halt (.panic v) w' ∧ X [{ v, recovered := false }] w')))

theorem stepTo_mono {i : Nat} {a : Act} {w : World} {K K' : Act → World → Prop} {X X' : List PanicEntry → World → Prop} (hK : ∀ a w, K a w → K' a w) (hX : ∀ c w, X c w → X' c w)
    (H : StepTo P ops i a w K X) : StepTo P ops i a w K' X' := by
  unfold StepTo at *
  split
  · rename_i h; simp only [h] at H; exact hK _ _ H
  · rename_i o h
    simp only [h] at H
    rcases H with ⟨h1, h2⟩ | ⟨h1, h2⟩
    · exact .inl ⟨h1, hK _ _ h2⟩
    · refine .inr ⟨h1, ?_⟩
      rcases h2 with ⟨v, w', h3, h4⟩ | ⟨w', h3, h4⟩ | ⟨f, args, w', h3, h4⟩ | ⟨v, w', h3, h4⟩
      · exact .inl ⟨v, w', h3, hK _ _ h4⟩
      · exact .inr (.inl ⟨w', h3, hK _ _ h4⟩)
      · refine .inr (.inr (.inl ⟨f, args, w', h3, h4.mono fun e w'' he => ?_⟩))
        cases e <;> first | exact hK _ _ he | exact hX _ _ he | exact he
      · exact .inr (.inr (.inr ⟨v, w', h3, hX _ _ h4⟩))

theorem stepTo_fr {W : List Nat} (hW : ∀ o ∈ ops, ∀ d, o.dst = some d → d ∈ W) {i : Nat} {a : Act} {w : World} {K : Act → World → Prop} {X : List PanicEntry → World → Prop}
    (H : StepTo P ops i a w K X) : StepTo P ops i a w (fun a' w' => Fr W a a' ∧ K a' w') X := by
  unfold StepTo at *
  split
  · rename_i h; simp only [h] at H; exact ⟨.refl W a, H⟩
  · rename_i o h
    simp only [h] at H
    have hd : ∀ v, Fr W a (a.put o.dst v) := fun v => Fr.put W a o.dst v (hW o (Array.mem_of_getElem? h))
    rcases H with ⟨h1, h2⟩ | ⟨h1, h2⟩
    · exact .inl ⟨h1, hd _, h2⟩
    · refine .inr ⟨h1, ?_⟩
      rcases h2 with ⟨v, w', h3, h4⟩ | ⟨w', h3, h4⟩ | ⟨f, args, w', h3, h4⟩ | ⟨v, w', h3, h4⟩
      · exact .inl ⟨v, w', h3, hd _, h4⟩
      · exact .inr (.inl ⟨w', h3, hd _, h4⟩)
      · refine .inr (.inr (.inl ⟨f, args, w', h3, h4.mono fun e w'' he => ?_⟩))
        cases e <;> first | exact ⟨hd _, he⟩ | exact he
      · exact .inr (.inr (.inr ⟨v, w', h3, h4⟩))

theorem stepTo_ir {i : Nat} {rest : List Nat} {a : Act} {w : World} {Q : Exit → Act → World → Prop} (H : StepTo P ops i a w (IR P ops rest Q) (fun c w => Q (.panic c) a w)) :
    IR P ops (i :: rest) Q a w := by
  unfold StepTo at H
  split at H
  · rename_i h
    refine ir_skip (by simp [h]) ?_
    simpa [h, Act.put] using H
  · rename_i o h
    rcases H with ⟨h1, h2⟩ | ⟨h1, h2⟩
    · exact ir_skip (by simp [h, h1]) (by simpa [h] using h2)
    · rcases h2 with ⟨v, w', h3, h4⟩ | ⟨w', h3, h4⟩ | ⟨f, args, w', h3, h4⟩ | ⟨v, w', h3, h4⟩
      · exact ir_value h h1 h3 h4
      · exact ir_none h h1 h3 h4
      · exact ir_enter h h1 h3 h4
      · exact ir_panic h h1 h3 h4

theorem stepTo_wpOp {i : Nat} {a : Act} {w : World} {K : Act → World → Prop} {Q : Exit → Act → World → Prop} (H : StepTo P ops i a w K (fun c w => Q (.panic c) a w)) :
    wpOp P ops Q i K a w := by
  unfold StepTo at H
  unfold wpOp
  split at H
  · rename_i h; simp only [h]; exact H
  · rename_i o h
    simp only [h]
    rcases H with ⟨h1, h2⟩ | ⟨h1, h2⟩
    · simp only [h1, Bool.false_eq_true, if_false]; exact h2
    · simp only [h1, if_true]
      refine .inl ?_
      unfold Oper.wp
      rcases h2 with ⟨v, w', h3, h4⟩ | ⟨w', h3, h4⟩ | ⟨f, args, w', h3, h4⟩ | ⟨v, w', h3, h4⟩
      · rw [h3]; exact h4
      · rw [h3]; exact h4
      · rw [h3]
        exact Calls.mono h4 fun e w'' he => by cases e <;> first | exact he | exact he.elim
      · rw [h3]; exact h4

/-- One step, said of heaps alone. -/
def StepH (P : Program) (ops : Array Oper) (i : Nat) (K : Act → Heap → Prop) (X : List PanicEntry → Heap → Prop) (a : Act) (h : Heap) : Prop :=
  ∀ w, w.heap = h → StepTo P ops i a w (fun a' w' => Same w w' ∧ K a' w'.heap) (fun c w' => Same w w' ∧ X c w'.heap)

theorem stepH_mono {i : Nat} {a : Act} {h : Heap} {K K' : Act → Heap → Prop} {X X' : List PanicEntry → Heap → Prop} (hK : ∀ a h, K a h → K' a h) (hX : ∀ c h, X c h → X' c h)
    (H : StepH P ops i K X a h) : StepH P ops i K' X' a h := fun w hw => stepTo_mono (fun _ _ ⟨x, y⟩ => ⟨x, hK _ _ y⟩) (fun _ _ ⟨x, y⟩ => ⟨x, hX _ _ y⟩) (H w hw)

/-! ## the tree of a step -/
def gval (ops : Array Oper) (e : Env) (o : Oper) : Option Bool := match o.guard with
  | none => some true
  | some (j, want) => match (ops[j]?).bind (·.dst) with
    | none => none
    | some d => match e.get? d with
      | some (.bool b) => some (b == want)
      | some _ => some false
      | none => none
theorem gval_ok {e : Env} {a : Act} {o : Oper} {b : Bool} (h : Agrees e a.tmps) (hg : gval ops e o = some b) : Region.wanted o (yielded ops a.tmps) = b := by
  unfold gval at hg
  unfold Region.wanted
  split at hg
  · rename_i h1; cases hg; simp [h1]
  · rename_i j want h1
    simp only [h1]
    split at hg
    · cases hg
    · rename_i d h2
      split at hg
      · rename_i b' h3
        cases hg
        have := h d _ h3
        simp [yielded, h2, this]
      · rename_i v h3 h4
        cases hg
        have := h d _ h4
        have hy : yielded ops a.tmps j = none := by
          unfold yielded
          rw [h2]
          simp only [Option.bind_some, this]
          cases v <;> first | rfl | exact absurd rfl (h3 _)
        simp [hy]
      · cases hg

def splitG (g : Bool) (v : Value) (k : Value → T) : T := match g, v with
  | true, .bool b => cond b (k (.bool true)) (k (.bool false))
  | _, v => k v
theorem splitG_ok {g : Bool} {v : Value} {k : Value → T} {Q : Leaf → Heap → Prop} {h : Heap} (H : (splitG g v k).wp P Q h) : (k v).wp P Q h := by
  unfold splitG at H
  split at H
  · rename_i b; cases b <;> exact H
  · exact H

def denStep (q : Bool) (P : Program) (ops : Array Oper) (gs : List Nat) (e : Env) (i : Nat) (k : Env → T) : T := match ops[i]? with
  | none => k e
  | some o => match gval ops e o with
    | none => .stuck
    | some false => k (e.put o.dst undef)
    | some true => bif o.op.operands.toList.all e.has then denOp q P e.ev o fun v => splitG (gs.contains i) v fun v => k (e.put o.dst v) else .stuck

theorem notSelect {q : Bool} {P : Program} {ρ : Operand → Value} {o : Oper} {k : Value → T} {Q : Leaf → Heap → Prop} {h : Heap} (H : (denOp q P ρ o k).wp P Q h) (cs : Array SelectCase) (b : Bool) : o.op ≠ .select cs b := by
  intro he
  simp only [denOp, he] at H
  exact H

def Bound (W : List Nat) (a : Act) : Prop := ∀ d ∈ W, d < a.tmps.size
theorem Bound.fr {W W' : List Nat} {a a' : Act} (h : Bound W a) (f : Fr W' a a') : Bound W a' := fun d hd => by rw [f.1]; exact h d hd

theorem denStep_ok {q : Bool} {gs : List Nat} {e : Env} {i : Nat} {k : Env → T} {QT : Leaf → Heap → Prop} {a : Act} {h : Heap} {W : List Nat} (hag : Agrees e a.tmps) (hW : ∀ o ∈ ops, ∀ d, o.dst = some d → d ∈ W) (hb : Bound W a)
    (H : (denStep q P ops gs e i k).wp P QT h) :
    StepH P ops i (fun a' h' => ∃ e', Agrees e' a'.tmps ∧ Fr W a a' ∧ (k e').wp P QT h') (fun c h' => QT (.pan c) h') a h := by
  intro w hw
  subst hw
  unfold denStep at H
  unfold StepTo
  cases ho : ops[i]? with
  | none => rw [ho] at H; exact ⟨.refl w, e, hag, .refl W a, H⟩
  | some o =>
    rw [ho] at H
    have hdW : ∀ d, o.dst = some d → d ∈ W := hW o (Array.mem_of_getElem? ho)
    have hput : ∀ v, Agrees (e.put o.dst v) (a.put o.dst v).tmps := fun v => hag.put o.dst v fun d hd => hb d (hdW d hd)
    dsimp only at H ⊢
    cases hg : gval ops e o with
    | none => rw [hg] at H; exact H.elim
    | some b =>
      rw [hg] at H
      have hwt := gval_ok hag hg
      cases b with
      | false => exact .inl ⟨hwt, .refl w, _, hput undef, Fr.put W a o.dst undef hdW, H⟩
      | true =>
        refine .inr ⟨hwt, ?_⟩
        dsimp only at H
        cases hall : o.op.operands.toList.all e.has with
        | false => rw [hall] at H; exact H.elim
        | true =>
          rw [hall] at H
          simp only [cond_true] at H
          have hcong : execOp a.eval o = execOp e.ev o := execOp_congr o (notSelect H) fun x hx => hag.ev (List.all_eq_true.1 hall x (Array.mem_toList_iff.2 hx))
          rw [hcong]
          rcases semWp_run _ w (denOp_ok H) with ⟨nx, w', h1, h2, h3⟩ | ⟨v, w', h1, h2, h3⟩
          · cases nx <;> first | exact h3.elim | skip
            case value v => exact .inl ⟨v, w', h1, h2, _, hput v, Fr.put W a o.dst v hdW, splitG_ok h3⟩
            case skip => exact .inr (.inl ⟨w', h1, h2, _, hput undef, Fr.put W a o.dst undef hdW, splitG_ok h3⟩)
            case enter f args =>
              refine .inr (.inr (.inl ⟨f, args, w', h1, (by simpa using h3.2 w' rfl : Calls P f args w' _).mono fun e2 w'' he => ?_⟩))
              cases e2 with
              | returned v => exact ⟨h2.trans he.1, _, hput v, Fr.put W a o.dst v hdW, splitG_ok he.2⟩
              | panicked ch => exact ⟨h2.trans he.1, he.2⟩
              | outgrown => exact he.2
          · exact .inr (.inr (.inr ⟨v, w', h1, h2, h3⟩))

/-! ## the text's order -/
def selOf (ops : Array Oper) (i : Nat) : Option (Oper × SelectCase) := match ops[i]? with
  | some o => match o.guard, o.op with
    | none, .select cs false => match cs.toList with
      | [c] => some (o, c)
      | _ => none
    | _, _ => none
  | none => none
def derefN (p : Option Nat) (k : Nat → T) : T := match p with
  | some r => k r
  | none => .stuck
def denSel (P : Program) (e : Env) (c : SelectCase) (k : Value → T) : T :=
  bif e.has c.chan && c.send.toList.all e.has then
    match e.ev c.chan, (P.info? c.elem).bind (·.zero) with
    | .chan p, some z => derefN p fun r => .sel r (c.send.map e.ev) z fun j ok v => k (selVal (c.send.map e.ev) j ok v)
    | _, _ => .stuck
  else .stuck
def denOps (P : Program) (ops : Array Oper) (gs : List Nat) : List Nat → Env → (Env → T) → T
  | [], e, k => k e
  | i :: r, e, k => match selOf ops i with
    | some (o, c) => denSel P e c fun v => denOps P ops gs r (e.put o.dst v) k
    | none => denStep false P ops gs e i fun e' => denOps P ops gs r e' k

theorem denOps_irT {gs : List Nat} {QT : Leaf → Heap → Prop} {W : List Nat} {QC : Exit → Act → World → Prop} {k : Env → T} (hW : ∀ o ∈ ops, ∀ d, o.dst = some d → d ∈ W) (t : List Nat) (l : List Nat) :
    ∀ (e : Env) (a : Act) (w : World), Agrees e a.tmps → Bound W a → (denOps P ops gs l e k).wp P QT w.heap →
      (∀ e' a' w', Agrees e' a'.tmps → Fr W a a' → Same w w' → (k e').wp P QT w'.heap → IR P ops t QC a' w') →
      (∀ c a' w', Fr W a a' → Same w w' → QT (.pan c) w'.heap → QC (.panic c) a' w') → IR P ops (l ++ t) QC a w := by
  induction l with
  | nil => intro e a w hag hb H hn hp; exact hn e a w hag (.refl W a) (.refl w) H
  | cons i r ih =>
    intro e a w hag hb H hn hp
    unfold denOps at H
    split at H
    · rename_i o c hs
      unfold selOf at hs
      split at hs
      · rename_i o' ho
        split at hs
        · rename_i cs hgd hop
          split at hs
          · rename_i c' hcs
            simp only [Option.some.injEq, Prod.mk.injEq] at hs
            obtain ⟨rfl, rfl⟩ := hs
            unfold denSel at H
            cases hk : (e.has c'.chan && c'.send.toList.all e.has) with
            | false => rw [hk] at H; exact H.elim
            | true =>
              rw [hk] at H
              simp only [cond_true] at H
              split at H
              · rename_i p z hch hz
                cases p with
                | none => exact H.elim
                | some rr =>
                  have hdW : ∀ d, o'.dst = some d → d ∈ W := hW o' (Array.mem_of_getElem? ho)
                  rw [Bool.and_eq_true] at hk
                  have e1 : a.eval c'.chan = .chan (some rr) := by rw [hag.ev hk.1]; exact hch
                  have e2 : c'.send.map a.eval = c'.send.map e.ev := by
                    cases hsd : c'.send with
                    | none => rfl
                    | some x =>
                      have := hk.2
                      simp only [hsd, Option.toList_some, List.all_cons, List.all_nil, Bool.and_true] at this
                      simp [hag.ev this]
                  have e3 : cs = #[c'] := by cases cs; simp at hcs; subst hcs; rfl
                  obtain ⟨inf, hinf, hzero⟩ : ∃ i, P.info? c'.elem = some i ∧ i.zero = some z := by
                    cases hi : P.info? c'.elem with
                    | none => simp [hi] at hz
                    | some i => exact ⟨i, rfl, by simpa [hi] using hz⟩
                  have hrun : (execOp a.eval o').run P w = .ok (.comm #[{ chan := .chan (some rr), send := c'.send.map e.ev, zero := z }] false .select) w := by
                    simp [execOp, hop, e3, zeroValue, typeInfo, program, bind, Sem.bind, pure, hinf, hzero, Sem.run, e1, e2, Functor.map]
                  refine ir_select ho (by simp [Region.wanted, hgd]) hrun ?_
                  have H' : selWp rr (c'.send.map e.ev) z (fun j ok v h' => (denOps P ops gs r (e.put o'.dst (selVal (c'.send.map e.ev) j ok v)) k).wp P QT h') w.heap := H
                  obtain ⟨cap, buf, s, rc, hc, H'⟩ := H'
                  refine ⟨cap, buf, s, rc, hc, ?_⟩
                  have go : ∀ j ok v h', (denOps P ops gs r (e.put o'.dst (selVal (c'.send.map e.ev) j ok v)) k).wp P QT h' → ∀ w', Same w w' → w'.heap = h' →
                      IR P ops (r ++ t) QC (a.put o'.dst (selVal (c'.send.map e.ev) j ok v)) w' := fun j ok v h' hh w' hs hw' => by
                    subst hw'
                    have hf : Fr W a (a.put o'.dst (selVal (c'.send.map e.ev) j ok v)) := Fr.put W a _ _ hdW
                    exact ih _ _ _ (hag.put o'.dst _ fun d hd => hb d (hdW d hd)) (hb.fr hf) hh
                      (fun e' a' w'' h1 h2 h3 h4 => hn e' a' w'' h1 (hf.trans h2) (hs.trans h3) h4) (fun c a' w'' h2 h3 h4 => hp c a' w'' (hf.trans h2) (hs.trans h3) h4)
                  cases hsd : c'.send.map e.ev with
                  | none =>
                    rw [hsd] at H' go
                    by_cases hh : 0 < buf.size
                    · simp only [if_pos hh] at H' ⊢; exact go _ _ _ _ H'
                    · simp only [if_neg hh] at H' ⊢; exact go _ _ _ _ H'
                  | some x =>
                    rw [hsd] at H' go
                    by_cases hh : buf.size < cap
                    · simp only [if_pos hh] at H' ⊢; exact go _ _ _ _ H'
                    · simp only [if_neg hh] at H' ⊢; exact go _ _ _ _ H'
              · exact H.elim
          · cases hs
        · cases hs
      · cases hs
    · refine stepTo_ir (stepTo_mono (fun a' w' hx => ?_) (fun c w' hx => ?_) (denStep_ok hag hW hb H w rfl))
      · obtain ⟨h1, e', h2, h3, h4⟩ := hx
        exact ih e' a' w' h2 (hb.fr h3) h4 (fun e2 a2 w2 g1 g2 g3 g4 => hn e2 a2 w2 g1 (h3.trans g2) (h1.trans g3) g4) (fun c a2 w2 g2 g3 g4 => hp c a2 w2 (h3.trans g2) (h1.trans g3) g4)
      · exact hp c a w' (.refl W a) hx.1 hx.2
theorem denOps_ir {gs : List Nat} {QT : Leaf → Heap → Prop} {W : List Nat} {QC : Exit → Act → World → Prop} {k : Env → T} (hW : ∀ o ∈ ops, ∀ d, o.dst = some d → d ∈ W) (l : List Nat)
    (e : Env) (a : Act) (w : World) (hag : Agrees e a.tmps) (hb : Bound W a) (H : (denOps P ops gs l e k).wp P QT w.heap)
    (hn : ∀ e' a' w', Agrees e' a'.tmps → Fr W a a' → Same w w' → (k e').wp P QT w'.heap → QC .normal a' w')
    (hp : ∀ c a' w', Fr W a a' → Same w w' → QT (.pan c) w'.heap → QC (.panic c) a' w') : IR P ops l QC a w := by
  have := denOps_irT (QC := QC) hW [] l e a w hag hb H (fun e' a' w' h1 h2 h3 h4 => ir_nil (hn e' a' w' h1 h2 h3 h4)) hp
  rwa [List.append_nil] at this
end
end Go.Eng

/-
  THE ENGINE, PART F: a region whose order is open: quiet operations are taken as soon as they can be; what they read is asked again behind each loud one that they may come after.
  Conditions: none; it speaks of any program.
-/
namespace Go.Eng
open Go

section
variable {P : Program} {ops : Array Oper}

/-! ## what is forced before what -/
def maskOf (m : List Nat) (o : Oper) : Nat := o.after.toList.foldl (fun s e => bif Region.binds .any e then s ||| 2 ^ e.on ||| m.getD e.on 0 else s) 0
def befs (l : List Oper) : List Nat := l.foldl (fun m o => m ++ [maskOf m o]) []
/-- 'i' is always before 'j'. -/
def forced (ms : List Nat) (j i : Nat) : Bool := (ms.getD j 0).testBit i

theorem maskOf_spec (m : List Nat) (o : Oper) (i : Nat) (h : (maskOf m o).testBit i = true) :
    ∃ e ∈ o.after, Region.binds .any e = true ∧ (e.on = i ∨ (m.getD e.on 0).testBit i = true) := by
  unfold maskOf at h
  have key : ∀ (l : List Edge) (s : Nat), (l.foldl (fun s e => bif Region.binds .any e then s ||| 2 ^ e.on ||| m.getD e.on 0 else s) s).testBit i = true →
      s.testBit i = true ∨ ∃ e ∈ l, Region.binds .any e = true ∧ (e.on = i ∨ (m.getD e.on 0).testBit i = true) := by
    intro l
    induction l with
    | nil => intro s h; exact .inl h
    | cons x r ih =>
      intro s h
      rcases ih _ h with h1 | ⟨e, he, h1⟩
      · dsimp only at h1
        cases hx : Region.binds .any x with
        | false => rw [hx] at h1; exact .inl h1
        | true =>
          rw [hx] at h1
          simp only [cond_true, Nat.testBit_or, Bool.or_eq_true, Nat.testBit_two_pow, decide_eq_true_eq] at h1
          rcases h1 with (h1 | h1) | h1
          · exact .inl h1
          · exact .inr ⟨x, by simp, hx, .inl h1⟩
          · exact .inr ⟨x, by simp, hx, .inr h1⟩
      · exact .inr ⟨e, by simp [he], h1⟩
  rcases key o.after.toList 0 h with h1 | ⟨e, he, h1⟩
  · simp at h1
  · exact ⟨e, Array.mem_toList_iff.1 he, h1⟩

theorem snocInd {α : Type} {p : List α → Prop} (h0 : p []) (hs : ∀ l a, p l → p (l ++ [a])) (l : List α) : p l := by
  have key : ∀ r : List α, p r.reverse := by
    intro r
    induction r with
    | nil => exact h0
    | cons a r ih => rw [List.reverse_cons]; exact hs _ _ ih
  simpa using key l.reverse
theorem befs_snoc (l : List Oper) (o : Oper) : befs (l ++ [o]) = befs l ++ [maskOf (befs l) o] := by
  simp [befs]
theorem befs_length (l : List Oper) : (befs l).length = l.length := by
  refine snocInd (p := fun l => (befs l).length = l.length) rfl (fun l o ih => ?_) l
  rw [befs_snoc]; simp [ih]
theorem befs_spec (l : List Oper) : ∀ (j i : Nat), ((befs l).getD j 0).testBit i = true →
    ∃ o, l[j]? = some o ∧ ∃ e ∈ o.after, Region.binds .any e = true ∧ (e.on = i ∨ (e.on < j ∧ ((befs l).getD e.on 0).testBit i = true)) := by
  refine snocInd (p := fun l => ∀ (j i : Nat), ((befs l).getD j 0).testBit i = true →
    ∃ o, l[j]? = some o ∧ ∃ e ∈ o.after, Region.binds .any e = true ∧ (e.on = i ∨ (e.on < j ∧ ((befs l).getD e.on 0).testBit i = true))) (fun j i h => ?_) (fun l o ih => ?_) l
  · simp [befs] at h
  · intro j i h
    rw [befs_snoc] at h
    rcases Nat.lt_trichotomy j l.length with hj | hj | hj
    · have e1 : (befs l ++ [maskOf (befs l) o]).getD j 0 = (befs l).getD j 0 := by
        simp only [List.getD_eq_getElem?_getD]
        rw [List.getElem?_append_left (by rw [befs_length]; exact hj)]
      rw [e1] at h
      obtain ⟨o', ho', e, he, hb, hh⟩ := ih j i h
      refine ⟨o', by rw [List.getElem?_append_left hj]; exact ho', e, he, hb, hh.imp id fun ⟨h1, h2⟩ => ⟨h1, ?_⟩⟩
      rw [befs_snoc]
      simp only [List.getD_eq_getElem?_getD] at h2 ⊢
      rw [List.getElem?_append_left (by rw [befs_length]; omega)]
      exact h2
    · subst hj
      have e1 : (befs l ++ [maskOf (befs l) o]).getD l.length 0 = maskOf (befs l) o := by
        simp only [List.getD_eq_getElem?_getD]
        rw [List.getElem?_append_right (by rw [befs_length]; omega), befs_length]
        simp
      rw [e1] at h
      obtain ⟨e, he, hb, hh⟩ := maskOf_spec _ _ _ h
      refine ⟨o, by simp, e, he, hb, hh.imp id fun h2 => ?_⟩
      have hlt : e.on < l.length := by
        rcases Nat.lt_or_ge e.on l.length with h3 | h3
        · exact h3
        · rw [List.getD_eq_getElem?_getD, List.getElem?_eq_none (by rw [befs_length]; exact h3)] at h2
          simp at h2
      refine ⟨hlt, ?_⟩
      rw [befs_snoc]
      simp only [List.getD_eq_getElem?_getD] at h2 ⊢
      rw [List.getElem?_append_left (by rw [befs_length]; exact hlt)]
      exact h2
    · rw [List.getD_eq_getElem?_getD, List.getElem?_eq_none (by simp [befs_length]; omega)] at h
      simp at h

/-- With each operation that is listed all that is forced before it is. -/
def Closed (ops : Array Oper) (listed : Array Bool) : Prop := ∀ j o, ops[j]? = some o → listed.getD j false = true → ∀ e ∈ o.after, Region.binds .any e = true → listed.getD e.on false = true

theorem closed_forced {listed : Array Bool} (hc : Closed ops listed) : ∀ (j i : Nat), listed.getD j false = true → forced (befs ops.toList) j i = true → listed.getD i false = true := by
  intro j
  induction j using Nat.strongRecOn with
  | _ j ih =>
    intro i hj hf
    obtain ⟨o, ho, e, he, hb, hh⟩ := befs_spec ops.toList j i hf
    have ho' : ops[j]? = some o := by rw [← Array.getElem?_toList]; exact ho
    have h1 := hc j o ho' hj e he hb
    rcases hh with rfl | ⟨hlt, h2⟩
    · exact h1
    · exact ih e.on hlt i h1 h2
theorem ready_forced {listed : Array Bool} (hc : Closed ops listed) {j i : Nat} (hr : j ∈ Region.ready .any ops listed) (hf : forced (befs ops.toList) j i = true) : listed.getD i false = true := by
  obtain ⟨o, ho, e, he, hb, hh⟩ := befs_spec ops.toList j i hf
  have ho' : ops[j]? = some o := by rw [← Array.getElem?_toList]; exact ho
  obtain ⟨_, o2, ho2, hall⟩ := mem_ready.1 hr
  rw [ho'] at ho2
  cases ho2
  have h1 := hall e he hb
  rcases hh with rfl | ⟨_, h2⟩
  · exact h1
  · exact closed_forced hc e.on i h1 h2

theorem closed_set {listed : Array Bool} {j : Nat} (hc : Closed ops listed) (hr : j ∈ Region.ready .any ops listed) : Closed ops (listed.setIfInBounds j true) := by
  intro m o ho hm e he hb
  by_cases hjm : j = m
  · subst hjm
    obtain ⟨_, o2, ho2, hall⟩ := mem_ready.1 hr
    rw [ho] at ho2
    cases ho2
    exact getD_set_true (hall e he hb)
  · rw [getD_set_ne false hjm] at hm
    exact getD_set_true (hc m o ho hm e he hb)

/-! ## the game of all orders, on heaps -/
abbrev Pins := List (Nat × (Heap → Prop))
def GH (P : Program) (ops : Array Oper) (Qh : Act → Heap → Prop) (X : List PanicEntry → Heap → Prop) : Nat → Array Bool → Pins → Act → Heap → Prop
  | 0, listed, _, a, h => Region.ready .any ops listed = [] ∧ Qh a h
  | n + 1, listed, pend, a, h => (Region.ready .any ops listed = [] → Qh a h) ∧
    ∀ j ∈ Region.ready .any ops listed, StepH P ops j (fun a' h' => (∀ p ∈ pend, forced (befs ops.toList) j p.1 = false → p.2 h') ∧
      GH P ops Qh X n (listed.setIfInBounds j true) (pend.filter fun p => !forced (befs ops.toList) j p.1) a' h') X a h

variable {Qh : Act → Heap → Prop} {X : List PanicEntry → Heap → Prop}

theorem gh_wpAny {Q : Exit → Act → World → Prop} {w0 : World} {a0 : Act} {W : List Nat} (hW : ∀ o ∈ ops, ∀ d, o.dst = some d → d ∈ W) (hn : ∀ a w, Same w0 w → Qh a w.heap → Q .normal a w) (hp : ∀ c a w, Fr W a0 a → Same w0 w → X c w.heap → Q (.panic c) a w) :
    ∀ (n : Nat) (listed : Array Bool) (pend : Pins) (a : Act) (w : World), Fr W a0 a → Same w0 w → GH P ops Qh X n listed pend a w.heap → wpAny P .any ops Q n listed a w := by
  intro n
  induction n with
  | zero => intro listed pend a w hd hs H; exact ⟨H.1, hn a w hs H.2⟩
  | succ n ih =>
    intro listed pend a w hd hs H
    refine ⟨fun h0 => hn a w hs (H.1 h0), fun j hj => stepTo_wpOp (stepTo_mono (fun a' w' hx => ?_) (fun c w' hx => ?_) (stepTo_fr hW (H.2 j hj w rfl)))⟩
    · exact ih _ _ a' w' (hd.trans hx.1) (hs.trans hx.2.1) hx.2.2.2
    · exact hp c a w' hd (hs.trans hx.1) hx.2

theorem gh_mono : ∀ (n : Nat) (listed : Array Bool) (pend pend' : Pins) (a : Act) (h : Heap), (∀ p ∈ pend', p ∈ pend) → GH P ops Qh X n listed pend a h → GH P ops Qh X n listed pend' a h := by
  intro n
  induction n with
  | zero => intro listed pend pend' a h hs H; exact H
  | succ n ih =>
    intro listed pend pend' a h hs H
    refine ⟨H.1, fun j hj => stepH_mono (fun a' h' ⟨h1, h2⟩ => ⟨fun p hp hf => h1 p (hs p hp) hf, ih _ _ _ a' h' (fun p hp => ?_) h2⟩) (fun _ _ x => x) (H.2 j hj)⟩
    rw [List.mem_filter] at hp ⊢
    exact ⟨hs p hp.1, hp.2⟩

/-- A quiet operation's run: a value, and nothing done. -/
def QRun (P : Program) (s : Sem Next) (v : Value) (h : Heap) : Prop :=
  ∀ w, w.heap = h → ∃ w', (s.run P w = .ok (.value v) w' ∨ (s.run P w = .ok .skip w' ∧ v = undef)) ∧ Same w w' ∧ w'.heap = h

theorem step_put {j : Nat} {oi oj : Oper} {v : Value} {a : Act} {h : Heap} {K : Act → Heap → Prop} (hj : ops[j]? = some oj) (hap : oi.apart ops oj = true)
    (hsj : ∀ cs b, oj.op ≠ .select cs b) (H : StepH P ops j K X (a.put oi.dst v) h) :
    StepH P ops j (fun a' h' => (∃ u, a' = a.put oj.dst u) ∧ K (a'.put oi.dst v) h') X a h := by
  obtain ⟨h1, h2, h3⟩ := Oper.apart_spec hap
  intro w hw
  have H := H w hw
  unfold StepTo at *
  simp only [hj] at H ⊢
  rw [wanted_put oj a oi.dst v h1, execOp_put oj hsj a oi.dst v h1] at H
  have cm : ∀ u, (a.put oi.dst v).put oj.dst u = (a.put oj.dst u).put oi.dst v := fun u => Act.put_comm a v u h2
  rcases H with ⟨g1, g2⟩ | ⟨g1, g2⟩
  · exact .inl ⟨g1, g2.1, ⟨_, rfl⟩, by rw [← cm]; exact g2.2⟩
  · refine .inr ⟨g1, ?_⟩
    rcases g2 with ⟨u, w', h3, h4⟩ | ⟨w', h3, h4⟩ | ⟨f, args, w', h3, h4⟩ | ⟨u, w', h3, h4⟩
    · exact .inl ⟨u, w', h3, h4.1, ⟨_, rfl⟩, by rw [← cm]; exact h4.2⟩
    · exact .inr (.inl ⟨w', h3, h4.1, ⟨_, rfl⟩, by rw [← cm]; exact h4.2⟩)
    · refine .inr (.inr (.inl ⟨f, args, w', h3, h4.mono fun e w'' he => ?_⟩))
      cases e with
      | returned u => exact ⟨he.1, ⟨_, rfl⟩, by rw [← cm]; exact he.2⟩
      | panicked c => exact he
      | outgrown => exact he
    · exact .inr (.inr (.inr ⟨u, w', h3, h4⟩))

/-- A quiet operation that can be taken may be taken first. -/
theorem gh_first {i : Nat} {oi : Oper} {v : Value} {s : Sem Next} {b : Bool} {R : Heap → Prop} (hi : ops[i]? = some oi) (hsel : ∀ (j : Nat) (o : Oper) cs b, ops[j]? = some o → o.op ≠ .select cs b)
    (hR : ∀ h, R h → b = true → QRun P s v h) (hv : b = false → v = undef) :
    ∀ (n : Nat) (listed : Array Bool) (pend : Pins) (a : Act) (h : Heap), Closed ops listed →
      (∀ j oj, ops[j]? = some oj → j ≠ i → listed.getD j true = false → (∀ e ∈ oj.after, Region.binds .any e = true → e.on ≠ i) → oi.apart ops oj = true) →
      i ∈ Region.ready .any ops listed → execOp a.eval oi = s → Region.wanted oi (yielded ops a.tmps) = b → R h → (∀ p ∈ pend, p.2 h) →
      GH P ops Qh X n (listed.setIfInBounds i true) ((i, R) :: pend) (a.put oi.dst v) h → GH P ops Qh X (n + 1) listed pend a h := by
  intro n
  have own : ∀ (n : Nat) (listed : Array Bool) (pend : Pins) (a : Act) (h : Heap), execOp a.eval oi = s → Region.wanted oi (yielded ops a.tmps) = b → R h → (∀ p ∈ pend, p.2 h) →
      GH P ops Qh X n (listed.setIfInBounds i true) ((i, R) :: pend) (a.put oi.dst v) h →
      StepH P ops i (fun a' h' => (∀ p ∈ pend, forced (befs ops.toList) i p.1 = false → p.2 h') ∧
        GH P ops Qh X n (listed.setIfInBounds i true) (pend.filter fun p => !forced (befs ops.toList) i p.1) a' h') X a h := by
    intro n listed pend a h he hb hr hpend H w hw
    unfold StepTo
    simp only [hi]
    have H' := gh_mono n _ _ (pend.filter fun p => !forced (befs ops.toList) i p.1) _ h (fun p hp => List.mem_cons_of_mem _ (List.mem_filter.1 hp).1) H
    cases b with
    | false =>
      refine .inl ⟨hb, .refl w, ?_⟩
      rw [hw]
      have := hv rfl
      subst this
      exact ⟨fun p hp _ => hpend p hp, H'⟩
    | true =>
      refine .inr ⟨hb, ?_⟩
      obtain ⟨w', h1, h2, h3⟩ := hR h hr rfl w hw
      rw [he]
      rcases h1 with h1 | ⟨h1, rfl⟩
      · refine .inl ⟨v, w', h1, h2, ?_⟩
        rw [h3]
        exact ⟨fun p hp _ => hpend p hp, H'⟩
      · refine .inr (.inl ⟨w', h1, h2, ?_⟩)
        rw [h3]
        exact ⟨fun p hp _ => hpend p hp, H'⟩
  induction n with
  | zero =>
    intro listed pend a h hcl hfree hr he hb hRh hpend H
    refine ⟨fun h0 => (by rw [h0] at hr; cases hr), fun j hj => ?_⟩
    by_cases hji : j = i
    · subst hji; exact own 0 listed pend a h he hb hRh hpend H
    · have := ready_mono hj hji
      rw [H.1] at this
      cases this
  | succ n ih =>
    intro listed pend a h hcl hfree hr he hb hRh hpend H
    refine ⟨fun h0 => (by rw [h0] at hr; cases hr), fun j hj => ?_⟩
    by_cases hji : j = i
    · subst hji; exact own (n + 1) listed pend a h he hb hRh hpend H
    · have h1 := H.2 j (ready_mono hj hji)
      obtain ⟨hjun, oj, hoj, hall⟩ := mem_ready.1 hj
      have hiun : listed.getD i false = false := by
        have h0 := (mem_ready.1 hr).1
        rcases Nat.lt_or_ge i listed.size with h' | h'
        · simpa [h'] using h0
        · simp [Array.getElem?_eq_none h']
      have hnot : ∀ e ∈ oj.after, Region.binds .any e = true → e.on ≠ i := fun e he hb heq => by
        have h1 := hall e he hb
        rw [heq, hiun] at h1
        cases h1
      have hnf : forced (befs ops.toList) j i = false := by
        cases hf : forced (befs ops.toList) j i with
        | false => rfl
        | true => have := ready_forced hcl hj hf; rw [hiun] at this; cases this
      have hap := hfree j oj hoj hji hjun hnot
      obtain ⟨q1, q2, q3⟩ := Oper.apart_spec hap
      have h2 := step_put hoj hap (fun cs b => hsel j oj cs b hoj) h1
      have hfree' : ∀ k ok, ops[k]? = some ok → k ≠ i → (listed.setIfInBounds j true).getD k true = false →
          (∀ e ∈ ok.after, Region.binds .any e = true → e.on ≠ i) → oi.apart ops ok = true := fun k ok hk hki hun hno => by
        refine hfree k ok hk hki ?_ hno
        by_cases hjk : j = k
        · subst hjk; exact hjun
        · rw [getD_set_ne true hjk] at hun; exact hun
      refine stepH_mono (fun a' h' hx => ?_) (fun _ _ x => x) h2
      obtain ⟨⟨u, rfl⟩, h3, h4⟩ := hx
      refine ⟨fun p hp hf => h3 p (List.mem_cons_of_mem _ hp) hf, ?_⟩
      refine ih (listed.setIfInBounds j true) _ (a.put oj.dst u) h' (closed_set hcl hj) hfree' (ready_mono hr (Ne.symm hji)) ?_ ?_ (h3 (i, R) (List.mem_cons_self ..) hnf) ?_ ?_
      · rw [execOp_put oi (fun cs b => hsel i oi cs b hi) a oj.dst u q3]; exact he
      · rw [wanted_put oi a oj.dst u q3]; exact hb
      · intro p hp
        rw [List.mem_filter] at hp
        exact h3 p (List.mem_cons_of_mem _ hp.1) (by simpa using hp.2)
      · rw [Array.setIfInBounds_comm _ _ hji]
        rw [List.filter_cons_of_pos (by simp [hnf])] at h4
        exact h4
end
end Go.Eng

/-
  THE ENGINE, PART G: the tree of a region whose order is open, and that it holds in whatever order.
  Conditions: none; it speaks of any program.
-/
namespace Go.Eng
open Go

section
variable {P : Program} {ops : Array Oper}

/-! ## quiet operations -/
def outT (u : Value) : T := .out [u]
def QV (v : Value) (h' : Heap) (l : Leaf) (hh : Heap) : Prop := l = .out [v] ∧ hh = h'
def PureD (P : Program) (D : (Value → T) → T) : Prop := ∀ (k : Value → T) (Q : Leaf → Heap → Prop) (h : Heap), (D k).wp P Q h → ∃ v, (k v).wp P Q h ∧ ∀ h', (D outT).wp P (QV v h') h'

theorem pure_k (v : Value) : PureD P (fun k => k v) := fun _ _ _ H => ⟨v, H, fun _ => ⟨rfl, rfl⟩⟩
theorem pure_stuck : PureD P (fun _ => .stuck) := fun _ _ _ H => H.elim
theorem pure_deref {p : Option Addr} {D : Addr → (Value → T) → T} (hD : ∀ a, PureD P (D a)) : PureD P (fun k => deref p fun a => D a k) := by
  cases p with
  | none => exact pure_stuck
  | some a => exact hD a
theorem pure_chk {c : Prop} [Decidable c] {D : (Value → T) → T} (hD : PureD P D) : PureD P (fun k => chk c (D k)) := by
  intro k Q h H
  obtain ⟨v, h1, h2⟩ := hD k Q h H.2
  exact ⟨v, h1, fun h' => ⟨H.1, h2 h'⟩⟩
theorem pure_ite {c : Prop} [Decidable c] {D D' : (Value → T) → T} (hD : PureD P D) (hD' : PureD P D') : PureD P (fun k => if c then D k else D' k) := by
  by_cases hc : c
  · simp only [if_pos hc]; exact hD
  · simp only [if_neg hc]; exact hD'
theorem pure_cond {b : Bool} {D D' : (Value → T) → T} (hD : PureD P D) (hD' : PureD P D') : PureD P (fun k => cond b (D k) (D' k)) := by
  cases b
  · exact hD'
  · exact hD
theorem pure_sem {α : Type} (s : Sem α) {f : α → (Value → T) → T} (hf : ∀ a, PureD P (f a)) : PureD P (fun k => denSem true P s fun a => f a k) := by
  induction s with
  | pure a => exact hf a
  | program g ih => exact ih _
  | mark m g ih => exact ih
  | halt x => cases x <;> exact pure_stuck
  | load m a g ih => exact pure_stuck
  | store m a v g ih => exact pure_stuck
  | new o g ih => exact pure_stuck
  | shape r g ih => exact pure_stuck
  | freeze a n g ih => exact pure_stuck
  | frozen a g ih => exact pure_stuck
  | getObj r g ih => exact pure_stuck
  | setObj r o g ih => exact pure_stuck
  | choose q g ih => exact pure_stuck
  | sys c g ih => exact pure_stuck
theorem pure_sem' (s : Sem Value) : PureD P (fun k => denSem true P s k) := pure_sem s (f := fun a k => k a) fun a => pure_k a

theorem pure_agg {t : TypeId} {xs ys : Array Value} {f : Bool → (Value → T) → T} (hf : ∀ r, PureD P (f r)) : PureD P (fun k => aggEq P t xs ys (fun r => f r k) .stuck) := by
  unfold aggEq
  split
  · split
    · exact hf _
    · exact pure_stuck
  · exact pure_stuck
theorem pure_bin (op : BinOp) (t : TypeId) (x y : Operand) (a b : Value) : PureD P (fun k => denBin true P op t x y a b k) := by
  unfold denBin
  split
  case h_1 => exact pure_ite (pure_k _) pure_stuck
  case h_2 => exact pure_ite (pure_k _) pure_stuck
  case h_3 => exact pure_ite (pure_k _) pure_stuck
  case h_4 => exact pure_ite (pure_chk (pure_k _)) pure_stuck
  case h_5 => exact pure_ite (pure_chk (pure_k _)) pure_stuck
  case h_6 => exact pure_chk (pure_k _)
  case h_7 => exact pure_chk (pure_k _)
  case h_8 => exact pure_ite (pure_k _) pure_stuck
  case h_9 => exact pure_ite (pure_k _) pure_stuck
  case h_10 => exact pure_ite (pure_k _) pure_stuck
  case h_11 => exact pure_ite (pure_k _) pure_stuck
  case h_12 => exact pure_ite (pure_k _) pure_stuck
  case h_13 => exact pure_ite (pure_k _) pure_stuck
  case h_14 => exact pure_chk (pure_k _)
  case h_15 => exact pure_k _
  case h_16 => exact pure_k _
  case h_17 p => exact pure_sem _ (f := fun (d : TypeDesc) (k : Value → T) => match d with | .pointer _ => k (.bool p.isNone) | _ => .stuck) fun d => by cases d <;> first | exact pure_k _ | exact pure_stuck
  case h_18 p => exact pure_sem _ (f := fun (d : TypeDesc) (k : Value → T) => match d with | .pointer _ => k (.bool !p.isNone) | _ => .stuck) fun d => by cases d <;> first | exact pure_k _ | exact pure_stuck
  case h_19 p _ _ _ _ => exact pure_sem _ (f := fun (d : TypeDesc) (k : Value → T) => match d with | .slice _ => k (.bool p.isNone) | _ => .stuck) fun d => by cases d <;> first | exact pure_k _ | exact pure_stuck
  case h_20 p _ _ _ _ => exact pure_sem _ (f := fun (d : TypeDesc) (k : Value → T) => match d with | .slice _ => k (.bool !p.isNone) | _ => .stuck) fun d => by cases d <;> first | exact pure_k _ | exact pure_stuck
  case h_21 m n => exact pure_sem _ (f := fun (d : TypeDesc) (k : Value → T) => match d with | .bool => k (.bool (m == n)) | _ => .stuck) fun d => by cases d <;> first | exact pure_k _ | exact pure_stuck
  case h_22 m n => exact pure_sem _ (f := fun (d : TypeDesc) (k : Value → T) => match d with | .bool => k (.bool !(m == n)) | _ => .stuck) fun d => by cases d <;> first | exact pure_k _ | exact pure_stuck
  case h_23 => exact pure_agg (f := fun r k => k (.bool r)) fun r => pure_k _
  case h_24 => exact pure_agg (f := fun r k => k (.bool !r)) fun r => pure_k _
  case h_25 => exact pure_stuck
  case h_26 => exact pure_stuck
  case h_27 => exact pure_sem' _

theorem pure_slice (t : TypeId) (x : Value) (lo hi mx : Option Value) : PureD P (fun k => denSlice true P t x lo hi mx k) := by
  unfold denSlice
  split
  · split
    · exact pure_chk (pure_k _)
    · exact pure_stuck
  · split
    · exact pure_chk (pure_k _)
    · exact pure_stuck
  · exact pure_stuck

theorem pure_call (ρ : Operand → Value) (c : Call) (t : TypeId) : PureD P (fun k => denCall true P ρ c t k) := by
  unfold denCall
  split
  · rename_i b hc
    cases b <;> first | exact pure_stuck | exact pure_sem' _ | skip
    case len =>
      dsimp only
      split
      · split <;> first | exact pure_k _ | exact pure_stuck
      · exact pure_stuck
    case cap =>
      dsimp only
      split
      · split <;> first | exact pure_k _ | exact pure_stuck
      · exact pure_stuck
  · unfold callV
    split
    · split
      · split <;> exact pure_stuck
      · exact pure_stuck
    · exact pure_stuck
  · exact pure_stuck

/-- What a load has read: the cells, and what they held. -/
def cellsAt (a : Addr) (v : Value) : List (Addr × Value) := match v with
  | .agg cs => cs.toList.zipIdx.map fun c => (a.add c.2, c.1)
  | v => [(a, v)]
def pinOf (ρ : Operand → Value) (o : Oper) (v : Value) : List (Addr × Value) := match o.op with
  | .load _ x => match ρ x with
    | .pointer (some a) => cellsAt a v
    | _ => []
  | _ => []
def Holds (l : List (Addr × Value)) (h : Heap) : Prop := ∀ c ∈ l, cellH h c.1 = some c.2

theorem loads_pure (l : List Atom) (a : Addr) {f : Array Value → (Value → T) → T} (hf : ∀ cs k, f cs k = k (.agg cs)) : ∀ (i : Nat) (acc : Array Value) (k : Value → T) (Q : Leaf → Heap → Prop) (h : Heap),
    (loadsT l a i acc fun cs => f cs k).wp P Q h → ∃ r : List Value, r.length = l.length ∧ (k (.agg (acc ++ r.toArray))).wp P Q h ∧ (∀ j v, r[j]? = some v → cellH h (a.add (i + j)) = some v) ∧
      ∀ h', (∀ j v, r[j]? = some v → cellH h' (a.add (i + j)) = some v) → (loadsT l a i acc fun cs => f cs outT).wp P (QV (.agg (acc ++ r.toArray)) h') h' := by
  induction l with
  | nil =>
    intro i acc k Q h H
    refine ⟨[], rfl, ?_, ?_, ?_⟩
    · simpa [loadsT, hf] using H
    · intro j v hj; simp at hj
    · intro h' _; simp [loadsT, hf, outT, T.wp, QV]
  | cons s r ih =>
    intro i acc k Q h H
    obtain ⟨x, hx, H⟩ := H
    obtain ⟨rr, h1, h2, h3, h4⟩ := ih (i + 1) (acc.push (s.val x)) k Q h H
    refine ⟨s.val x :: rr, by simp [h1], ?_, ?_, ?_⟩
    · have e : acc ++ (s.val x :: rr).toArray = acc.push (s.val x) ++ rr.toArray := by
        apply Array.ext'
        simp
      rw [e]; exact h2
    · intro j v hj
      cases j with
      | zero => simp at hj; subst hj; exact hx
      | succ j =>
        simp at hj
        have := h3 j v hj
        rw [show i + (j + 1) = i + 1 + j by omega]; exact this
    · intro h' hh
      refine ⟨x, by simpa using hh 0 (s.val x) (by simp), ?_⟩
      have e : acc ++ (s.val x :: rr).toArray = acc.push (s.val x) ++ rr.toArray := by
        apply Array.ext'
        simp
      rw [e]
      refine h4 h' fun j v hj => ?_
      have := hh (j + 1) v (by simpa using hj)
      rw [show i + 1 + j = i + (j + 1) by omega]; exact this

theorem load_pure {t : TypeId} {a : Addr} {k : Value → T} {Q : Leaf → Heap → Prop} {h : Heap} (H : (denLoad P t a k).wp P Q h) :
    ∃ v, (k v).wp P Q h ∧ Holds (cellsAt a v) h ∧ ∀ h', Holds (cellsAt a v) h' → (denLoad P t a outT).wp P (QV v h') h' := by
  unfold denLoad at H ⊢
  split at H
  · rename_i d i hd hi
    split at H
    · rename_i l hag hsh
      split at H
      · rename_i hlen
        obtain ⟨r, h1, h2, h3, h4⟩ := loads_pure (P := P) l a (f := fun cs k => k (.agg cs)) (fun _ _ => rfl) 0 #[] k Q h H
        refine ⟨.agg (#[] ++ r.toArray), h2, ?_, fun h' hh => ?_⟩
        · intro c hc
          simp only [cellsAt, List.mem_map] at hc
          obtain ⟨⟨v, j⟩, hm, rfl⟩ := hc
          have := List.mem_zipIdx_iff_getElem?.1 hm
          simpa using h3 j v (by simpa using this)
        · simp only [if_pos hlen]
          refine h4 h' fun j v hj => ?_
          have := hh (a.add j, v) (by
            simp only [cellsAt, List.mem_map]
            exact ⟨(v, j), List.mem_zipIdx_iff_getElem?.2 (by simpa using hj), rfl⟩)
          simpa using this
      · exact H.elim
    · rename_i s hag hsh
      obtain ⟨x, hx, H⟩ := H
      have hc : cellsAt a (s.val x) = [(a, s.val x)] := by
        have := Atom.val_plain s x
        cases hv : s.val x <;> simp_all [cellsAt, Value.plain]
      refine ⟨s.val x, H, ?_, fun h' hh => ?_⟩
      · rw [hc]; intro c hcm; simp at hcm; subst hcm; exact hx
      · exact ⟨x, hh (a, s.val x) (by rw [hc]; simp), rfl, rfl⟩
    · exact H.elim
  · exact H.elim

theorem quiet_spec {ρ : Operand → Value} {o : Oper} {k : Value → T} {Q : Leaf → Heap → Prop} {h : Heap} (H : (denOp true P ρ o k).wp P Q h) :
    ∃ v, (k v).wp P Q h ∧ Holds (pinOf ρ o v) h ∧ ∀ h', Holds (pinOf ρ o v) h' → (denOp true P ρ o outT).wp P (QV v h') h' := by
  obtain ⟨dst, op, type, pos, after, guard⟩ := o
  have fin : ∀ {D : (Value → T) → T}, PureD P D → (∀ k, denOp true P ρ ⟨dst, op, type, pos, after, guard⟩ k = D k) → (∀ v, pinOf ρ ⟨dst, op, type, pos, after, guard⟩ v = []) →
      ∃ v, (k v).wp P Q h ∧ Holds (pinOf ρ ⟨dst, op, type, pos, after, guard⟩ v) h ∧ ∀ h', Holds (pinOf ρ ⟨dst, op, type, pos, after, guard⟩ v) h' → (denOp true P ρ ⟨dst, op, type, pos, after, guard⟩ outT).wp P (QV v h') h' := by
    intro D hD hk hp
    rw [hk] at H
    obtain ⟨v, h1, h2⟩ := hD k Q h H
    refine ⟨v, h1, ?_, fun h' _ => ?_⟩
    · rw [hp]; intro c hc; cases hc
    · rw [hk]; exact h2 h'
  cases op <;> first | exact H.elim | skip
  case move x => exact fin (pure_k (ρ x)) (fun _ => rfl) (fun _ => rfl)
  case assign x => exact fin (pure_k (ρ x)) (fun _ => rfl) (fun _ => rfl)
  case pick c a b =>
    cases hc : ρ c with
    | bool t => exact fin (pure_cond (b := t) (pure_k (ρ a)) (pure_k (ρ b))) (fun k => by simp only [denOp, hc]) (fun _ => rfl)
    | _ => simp only [denOp, hc] at H; exact H.elim
  case alloc e => exact fin (pure_sem' _) (fun _ => rfl) (fun _ => rfl)
  case build t ps => exact fin (pure_sem' _) (fun _ => rfl) (fun _ => rfl)
  case buildSlice t n ps => exact fin (pure_sem' _) (fun _ => rfl) (fun _ => rfl)
  case load t x =>
    simp only [denOp] at H
    cases hx : ρ x with
    | pointer p =>
      cases p with
      | none => rw [hx] at H; exact H.elim
      | some a =>
        rw [hx] at H
        obtain ⟨v, h1, h2, h3⟩ := load_pure H
        refine ⟨v, h1, by simpa [pinOf, hx] using h2, fun h' hh => ?_⟩
        simp only [denOp, hx]
        exact h3 h' (by simpa [pinOf, hx] using hh)
    | _ => rw [hx] at H; exact H.elim
  case store t a x =>
    refine fin (D := fun k => denOp true P ρ ⟨_, .store t a x, type, pos, after, guard⟩ k) ?_ (fun _ => rfl) (fun _ => rfl)
    simp only [denOp]
    split
    · exact pure_deref (D := fun b k => denSem true P (Instr.storeAt t (.pointer (some b)) (ρ x)) fun _ => k undef) fun b => pure_sem (Instr.storeAt t (.pointer (some b)) (ρ x)) (f := fun _ k => k undef) fun _ => pure_k undef
    · exact pure_sem (Instr.storeAt t _ (ρ x)) (f := fun _ k => k undef) fun _ => pure_k undef
  case nilCheck x =>
    cases hx : ρ x with
    | pointer p => exact fin (pure_deref (p := p) (D := fun a k => k (.pointer (some a))) fun a => pure_k _) (fun k => by simp only [denOp, hx]) (fun _ => rfl)
    | func f a b =>
      cases f with
      | func g => exact fin (pure_k (.func (.func g) a b)) (fun k => by simp only [denOp, hx]) (fun _ => rfl)
      | _ => simp only [denOp, hx] at H; exact H.elim
    | iface t v => exact fin (pure_k (.iface t v)) (fun k => by simp only [denOp, hx]) (fun _ => rfl)
    | _ => simp only [denOp, hx] at H; exact H.elim
  case binOp op xt x y yt => exact fin (pure_bin op xt x y (ρ x) (ρ y)) (fun _ => rfl) (fun _ => rfl)
  case unOp op xt x => exact fin (pure_sem' _) (fun _ => rfl) (fun _ => rfl)
  case convert src dst x =>
    refine fin (D := fun k => denOp true P ρ ⟨_, .convert src dst x, type, pos, after, guard⟩ k) ?_ (fun _ => rfl) (fun _ => rfl)
    simp only [denOp]
    split
    · exact pure_sem' _
    · exact pure_sem' _
    · exact pure_stuck
  case makeInterface t x => exact fin (pure_sem' _) (fun _ => rfl) (fun _ => rfl)
  case makeFunc fn first captured => exact fin (pure_k _) (fun _ => rfl) (fun _ => rfl)
  case makeMap t r => exact fin (pure_sem' _) (fun _ => rfl) (fun _ => rfl)
  case slice t x lo hi mx => exact fin (pure_slice t (ρ x) _ _ _) (fun _ => rfl) (fun _ => rfl)
  case fieldAddr s x f =>
    refine fin (D := fun k => denOp true P ρ ⟨_, .fieldAddr s x f, type, pos, after, guard⟩ k) ?_ (fun _ => rfl) (fun _ => rfl)
    simp only [denOp]
    split
    · exact pure_deref (D := fun a k => denSem true P (Instr.fieldAt s (.pointer (some a)) f) k) fun a => pure_sem' _
    · exact pure_sem' _
  case field t x f => exact fin (pure_sem' _) (fun _ => rfl) (fun _ => rfl)
  case indexAddr t x ix =>
    refine fin (D := fun k => denOp true P ρ ⟨_, .indexAddr t x ix, type, pos, after, guard⟩ k) ?_ (fun _ => rfl) (fun _ => rfl)
    simp only [denOp]
    split
    · split
      · exact pure_deref (D := fun a k => chk _ (k (.pointer (some (a.add _))))) fun a => pure_chk (pure_k _)
      · exact pure_stuck
    · split
      · exact pure_chk (pure_k _)
      · exact pure_stuck
    · exact pure_stuck
  case index t x ix =>
    refine fin (D := fun k => denOp true P ρ ⟨_, .index t x ix, type, pos, after, guard⟩ k) ?_ (fun _ => rfl) (fun _ => rfl)
    simp only [denOp]
    split
    · exact pure_chk (pure_k _)
    · exact pure_sem' _
  case extract t ix => exact fin (pure_sem' _) (fun _ => rfl) (fun _ => rfl)
  case call c => exact fin (pure_call ρ c type) (fun _ => rfl) (fun _ => rfl)
  case panic x => exact fin (pure_sem' _) (fun _ => rfl) (fun _ => rfl)

theorem quiet_run {ρ : Operand → Value} {o : Oper} {v : Value} {h : Heap} (H : (denOp true P ρ o outT).wp P (QV v h) h) : QRun P (execOp ρ o) v h := by
  intro w hw
  subst hw
  rcases semWp_run _ w (denOp_ok H) with ⟨nx, w', h1, h2, h3⟩ | ⟨u, w', h1, h2, h3⟩
  · cases nx <;> first | exact h3.elim | skip
    case value u =>
      obtain ⟨h4, h5⟩ := h3
      simp only [Leaf.out.injEq, List.cons.injEq, and_true] at h4
      subst h4
      exact ⟨w', .inl h1, h2, h5⟩
    case skip =>
      obtain ⟨h4, h5⟩ := h3
      simp only [Leaf.out.injEq, List.cons.injEq, and_true] at h4
      exact ⟨w', .inr ⟨h1, h4.symm⟩, h2, h5⟩
    case enter f args => cases h3.1
  · cases h3.1
end
end Go.Eng

/-
  THE ENGINE, PART H: the tree of a region whose order is open holds in whatever order.
  Conditions: the program follows 'mixedOrders' (each loaded program of the kit does).
-/
namespace Go.Eng
open Go

def isQuiet (P : Program) (o : Oper) : Bool := match o.op with
  | .move _ | .assign _ | .pick _ _ _ | .load _ _ | .nilCheck _ | .binOp _ _ _ _ _ | .unOp _ _ _ | .slice _ _ _ _ _ | .index _ _ _ | .indexAddr _ _ _
  | .makeInterface _ _ | .makeFunc _ _ _ | .fieldAddr _ _ _ | .field _ _ _ | .extract _ _ | .build _ _ => true
  | .convert src dst _ => match P.underlying src, P.underlying dst with
    | some (.int _), some (.int _) => true
    | some .string, some .string => true
    | _, _ => false
  | .call c => match c.callee with
    | .builtin .min | .builtin .max => true
    | .builtin .len | .builtin .cap => match c.argTypes[0]? with
      | some t => match P.underlying t with
        | some .string | some (.slice _) | some (.array _ _) => true
        | _ => false
      | none => false
    | _ => false
  | _ => false
def quietAt (P : Program) (ops : Array Oper) (i : Nat) : Bool := match ops[i]? with
  | some o => isQuiet P o
  | none => false
def stills : List (Addr × Value) → T → T
  | [], t => t
  | (a, v) :: r, t => .still a v (stills r t)
def bothAll : List T → T
  | [] => .stuck
  | [t] => t
  | t :: r => .both t (bothAll r)
def guardsOf (ops : Array Oper) : List Nat := ops.toList.filterMap fun o => o.guard.map (·.1)

def denDraw (P : Program) (ops : Array Oper) (gs ms : List Nat) : Nat → Array Bool → List (Nat × List (Addr × Value)) → Env → (Env → T) → T
  | 0, listed, _, e, k => match Region.ready .any ops listed with
    | [] => k e
    | _ => .stuck
  | n + 1, listed, pend, e, k => match Region.ready .any ops listed with
    | [] => k e
    | r => match r.find? fun i => quietAt P ops i && Region.free .any ops listed i with
      | some i => match ops[i]? with
        | none => .stuck
        | some o => match gval ops e o with
          | none => .stuck
          | some false => denDraw P ops gs ms n (listed.setIfInBounds i true) ((i, []) :: pend) (e.put o.dst undef) k
          | some true => bif o.op.operands.toList.all e.has then
              denOp true P e.ev o fun v => splitG (gs.contains i) v fun v => denDraw P ops gs ms n (listed.setIfInBounds i true) ((i, pinOf e.ev o v) :: pend) (e.put o.dst v) k
            else .stuck
      | none => bothAll (r.map fun j => denStep false P ops gs e j fun e' =>
          stills ((pend.filter fun p => !forced ms j p.1).flatMap (·.2)) (denDraw P ops gs ms n (listed.setIfInBounds j true) (pend.filter fun p => !forced ms j p.1) e' k))

section
variable {P : Program} {ops : Array Oper}

theorem stills_ok {l : List (Addr × Value)} {t : T} {Q : Leaf → Heap → Prop} {h : Heap} (H : (stills l t).wp P Q h) : Holds l h ∧ t.wp P Q h := by
  induction l with
  | nil => exact ⟨fun c hc => (by cases hc), H⟩
  | cons x r ih =>
    obtain ⟨a, v⟩ := x
    obtain ⟨h1, h2⟩ := H
    obtain ⟨h3, h4⟩ := ih h2
    refine ⟨fun c hc => ?_, h4⟩
    rcases List.mem_cons.1 hc with rfl | hc
    · exact h1
    · exact h3 c hc
theorem bothAll_ok {l : List T} {Q : Leaf → Heap → Prop} {h : Heap} (H : (bothAll l).wp P Q h) : ∀ t ∈ l, t.wp P Q h := by
  induction l with
  | nil => exact H.elim
  | cons t r ih =>
    cases r with
    | nil => intro t' ht; simp at ht; subst ht; exact H
    | cons t2 r =>
      obtain ⟨h1, h2⟩ := H
      intro t' ht
      rcases List.mem_cons.1 ht with rfl | ht
      · exact h1
      · exact ih h2 t' ht

theorem denDraw_gh {gs : List Nat} {k : Env → T} {QT : Leaf → Heap → Prop} {W : List Nat} {a0 : Act} (hsel : Region.noSelect ops = true) (hW : ∀ o ∈ ops, ∀ d, o.dst = some d → d ∈ W) :
    ∀ (n : Nat) (listed : Array Bool) (pend : List (Nat × List (Addr × Value))) (e : Env) (a : Act) (h : Heap), Agrees e a.tmps → Bound W a → Fr W a0 a → Closed ops listed → (∀ p ∈ pend, Holds p.2 h) →
      (denDraw P ops gs (befs ops.toList) n listed pend e k).wp P QT h →
      GH P ops (fun a' h' => ∃ e', Agrees e' a'.tmps ∧ Fr W a0 a' ∧ (k e').wp P QT h') (fun c h' => QT (.pan c) h') n listed (pend.map fun p => (p.1, Holds p.2)) a h := by
  intro n
  induction n with
  | zero =>
    intro listed pend e a h hag hb hfr hcl hp H
    unfold denDraw at H
    split at H
    · rename_i hr; exact ⟨hr, e, hag, hfr, H⟩
    · exact H.elim
  | succ n ih =>
    intro listed pend e a h hag hb hfr hcl hp H
    unfold denDraw at H
    split at H
    · rename_i hr
      refine ⟨fun _ => ⟨e, hag, hfr, H⟩, fun j hj => ?_⟩
      rw [hr] at hj
      cases hj
    · rename_i hne
      split at H
      · rename_i i hf
        have hmem := List.mem_of_find?_eq_some hf
        have hq := List.find?_some hf
        rw [Bool.and_eq_true] at hq
        split at H
        · exact H.elim
        · rename_i o ho
          have hdW : ∀ d, o.dst = some d → d ∈ W := hW o (Array.mem_of_getElem? ho)
          have hput : ∀ v, Agrees (e.put o.dst v) (a.put o.dst v).tmps := fun v => hag.put o.dst v fun d hd => hb d (hdW d hd)
          have hfree := fun j oj hoj hne hun hno => Region.free_spec ho hq.2 j oj hoj hne hun hno
          split at H
          · exact H.elim
          · rename_i hg
            have hf1 : Fr W a (a.put o.dst undef) := Fr.put W a _ _ hdW
            refine gh_first (b := false) (v := undef) (s := execOp a.eval o) (R := Holds []) ho (Region.noSelect_spec hsel) (fun _ _ hh => by cases hh) (fun _ => rfl) n listed _ a h hcl hfree hmem rfl (gval_ok hag hg)
              (fun c hc => by cases hc) (fun p hpm => ?_) (ih _ ((i, []) :: pend) _ _ h (hput undef) (hb.fr hf1) (hfr.trans hf1) (closed_set hcl hmem) (fun p hpm => ?_) H)
            · obtain ⟨p', hp', rfl⟩ := List.mem_map.1 hpm; exact hp p' hp'
            · rcases List.mem_cons.1 hpm with rfl | hpm
              · exact fun c hc => by cases hc
              · exact hp p hpm
          · rename_i hg
            cases hall : o.op.operands.toList.all e.has with
            | false => rw [hall] at H; exact H.elim
            | true =>
              rw [hall] at H
              simp only [cond_true] at H
              have hcong : execOp a.eval o = execOp e.ev o := execOp_congr o (notSelect H) fun x hx => hag.ev (List.all_eq_true.1 hall x (Array.mem_toList_iff.2 hx))
              obtain ⟨v, h1, h2, h3⟩ := quiet_spec H
              have h1 := splitG_ok h1
              have hf1 : Fr W a (a.put o.dst v) := Fr.put W a _ _ hdW
              refine gh_first (b := true) (v := v) (s := execOp e.ev o) (R := Holds (pinOf e.ev o v)) ho (Region.noSelect_spec hsel) (fun h' hh _ => quiet_run (h3 h' hh)) (fun hh => by cases hh) n listed _ a h hcl hfree hmem hcong (gval_ok hag hg)
                h2 (fun p hpm => ?_) (ih _ ((i, pinOf e.ev o v) :: pend) _ _ h (hput v) (hb.fr hf1) (hfr.trans hf1) (closed_set hcl hmem) (fun p hpm => ?_) h1)
              · obtain ⟨p', hp', rfl⟩ := List.mem_map.1 hpm; exact hp p' hp'
              · rcases List.mem_cons.1 hpm with rfl | hpm
                · exact h2
                · exact hp p hpm
      · refine ⟨fun h0 => absurd h0 (by simpa using hne), fun j hj => ?_⟩
        have Hj := bothAll_ok H _ (List.mem_map.2 ⟨j, hj, rfl⟩)
        refine stepH_mono (fun a' h' hx => ?_) (fun _ _ x => x) (denStep_ok hag hW hb Hj)
        obtain ⟨e', g1, g2, g3⟩ := hx
        obtain ⟨g4, g5⟩ := stills_ok g3
        have hpp : ∀ p ∈ pend.filter (fun p => !forced (befs ops.toList) j p.1), Holds p.2 h' := fun p hpm c hc => g4 c (List.mem_flatMap.2 ⟨p, hpm, hc⟩)
        refine ⟨fun p hpm hf => ?_, ?_⟩
        · obtain ⟨p', hp', rfl⟩ := List.mem_map.1 hpm
          exact hpp p' (List.mem_filter.2 ⟨hp', by simpa using hf⟩)
        · have := ih _ _ e' a' h' g1 (hb.fr g2) (hfr.trans g2) (closed_set hcl hj) hpp g5
          have e2 : (pend.filter fun p => !forced (befs ops.toList) j p.1).map (fun p => (p.1, Holds p.2)) = (pend.map fun p => (p.1, Holds p.2)).filter fun p => !forced (befs ops.toList) j p.1 := by
            rw [List.filter_map]; rfl
          rw [← e2]; exact this

/-- A region, whether its order is the text's or open. -/
def denRegion (P : Program) (ops : Array Oper) (draw : Bool) (e : Env) (k : Env → T) : T := match draw with
  | false => denOps P ops (guardsOf ops) (List.range ops.size) e k
  | true => bif Region.noSelect ops then denDraw P ops (guardsOf ops) (befs ops.toList) ops.size (Array.replicate ops.size false) [] e k else .stuck

theorem denRegion_ok {id : Nat} {draw : Bool} {k : Env → T} {QT : Leaf → Heap → Prop} {W : List Nat} {QC : Exit → Act → World → Prop} {e : Env} {a : Act} {w : World} (hm : P.follows .mixedOrders = true)
    (hW : ∀ o ∈ ops, ∀ d, o.dst = some d → d ∈ W) (hag : Agrees e a.tmps) (hb : Bound W a) (H : (denRegion P ops draw e k).wp P QT w.heap)
    (hn : ∀ e' a' w', Agrees e' a'.tmps → Fr W a a' → Same w w' → (k e').wp P QT w'.heap → QC .normal a' w')
    (hp : ∀ c a' w', Fr W a a' → Same w w' → QT (.pan c) w'.heap → QC (.panic c) a' w') : (Code.region id ops draw).wp P QC a w := by
  cases draw with
  | false =>
    intro b k' cs
    obtain ⟨ex, a', w', hq, harr⟩ := denOps_ir (QC := QC) hW (List.range ops.size) e a w hag hb H hn hp b k' cs
    exact ⟨ex, a', w', hq, .of_steps (.one step_region) harr⟩
  | true =>
    unfold denRegion at H
    cases hs : Region.noSelect ops with
    | false => rw [hs] at H; exact H.elim
    | true =>
      rw [hs] at H
      simp only [cond_true] at H
      have h0 : ∀ j, (Array.replicate ops.size false).getD j false = false := fun j => by
        rw [Array.getD_eq_getD_getElem?, Array.getElem?_replicate]
        split <;> rfl
      have g := denDraw_gh (a0 := a) hs hW ops.size (Array.replicate ops.size false) [] e a w.heap hag hb (.refl W a) (fun j o ho hj => by rw [h0] at hj; cases hj) (fun p hpm => by cases hpm) H
      have hs0 : Same w { w with drawn := w.drawn + 1 } := ⟨rfl, rfl, rfl, Nat.le_refl _⟩
      refine wp_region_any hm (gh_wpAny (Q := QC) (w0 := w) (a0 := a) hW (fun a' w' hsm hq => ?_) (fun c a' w' hd hsm hq => hp c a' w' hd hsm hq) _ _ _ _ _ (.refl W a) hs0 g)
      obtain ⟨e', g1, g2, g3⟩ := hq
      exact hn e' a' w' g1 g2 hsm g3
end
end Go.Eng

/-
  THE ENGINE, PART I: the tree of a piece of code, and of a function; what it promises the function does.
  Conditions: the program follows 'mixedOrders' (each loaded program of the kit does).
-/
namespace Go.Eng
open Go

def writes : Code → List Nat
  | .region _ ops _ => ops.toList.filterMap (·.dst)
  | .seq x y => writes x ++ writes y
  | .cond _ x y => writes x ++ writes y
  | .block _ x => writes x
  | .loop x => writes x
  | .scope x => writes x
  | _ => []
/-- May a piece of code come to its own end? (That a piece is asked here changes how its tree is laid out, not what it promises.) -/
def exits (id : Nat) : Code → Bool
  | .seq x y => exits id x || exits id y
  | .cond _ x y => exits id x || exits id y
  | .block _ x => exits id x
  | .loop x => exits id x
  | .scope x => exits id x
  | .exit j => Nat.beq j id
  | _ => false
def falls : Code → Bool
  | .seq x y => falls x && falls y
  | .cond _ x y => falls x || falls y
  | .block id x => falls x || exits id x
  | .scope x => falls x
  | .loop _ => false
  | .exit _ => false
  | .ret => false
  | _ => true
/-- Does a piece of code hold nothing? -/
def empty : Code → Bool
  | .skip => true
  | _ => false

def Env.kill (e : Env) (W : List Nat) : Env := e.filter fun p => !W.contains p.1
def Env.puts (e : Env) (S : List Nat) (vs : List Value) : Env := S.zip vs ++ e
def Env.outs (e : Env) (S : List Nat) : List Value := S.map fun t => (e.get? t).getD undef
/-- The slots that are known and may be written: those that a join hands on. -/
def Env.slots (e : Env) (W : List Nat) : List Nat := ((e.map (·.1)).filter W.contains).eraseDups
def Env.shapes (e : Env) (S : List Nat) : List Sh1 := (e.outs S).map sh1Of

/-- What a region with guards hands on: what it assigns, and what its last operation yields. -/
def regionOuts (P : Program) (ops : Array Oper) : List (Nat × Sh1) :=
  ops.toList.zipIdx.filterMap fun (o, i) => match o.dst with
    | some d => match o.op, Nat.beq (i + 1) ops.size with
      | .assign _, _ => some (d, sh1Of (zeroOf P o.type))
      | _, true => some (d, sh1Of (zeroOf P o.type))
      | _, _ => none
    | none => none

def denCode (P : Program) (rt : Env → T) : Code → List (Nat × List Nat) → Env → (Env → T) → T
  | .skip, _, e, k => k e
  | .region _ ops draw, _, e, k => match guardsOf ops with
    | [] => denRegion P ops draw e k
    | _ => .join ((regionOuts P ops).map (·.2)) (denRegion P ops draw e fun e' => .out (e'.outs ((regionOuts P ops).map (·.1)))) fun y =>
        k ((e.kill (ops.toList.filterMap (·.dst))).puts ((regionOuts P ops).map (·.1)) (Shs.vals _ y))
  | .seq x y, c, e, k => denCode P rt x c e fun e' => denCode P rt y c e' k
  | .cond b x y, c, e, k => bif e.has b then (match e.ev b with
      | .bool t => match falls x && falls y && !(empty x && empty y) with
        | true =>
          .join (e.shapes (e.slots (writes x ++ writes y)))
            (cond t (denCode P rt x c e fun e' => .out (e'.outs (e.slots (writes x ++ writes y)))) (denCode P rt y c e fun e' => .out (e'.outs (e.slots (writes x ++ writes y))))) fun z =>
            k ((e.kill (writes x ++ writes y)).puts (e.slots (writes x ++ writes y)) (Shs.vals _ z))
        | false => cond t (denCode P rt x c e k) (denCode P rt y c e k)
      | _ => .stuck) else .stuck
  | .block id x, c, e, k => match exits id x with
    | false => denCode P rt x (c.filter fun p => !Nat.beq p.1 id) e k
    | true => .block id (e.shapes (e.slots (writes x)))
        (denCode P rt x ((id, e.slots (writes x)) :: c) e fun e' => .out (e'.outs (e.slots (writes x)))) fun z =>
        k ((e.kill (writes x)).puts (e.slots (writes x)) (Shs.vals _ z))
  | .loop x, c, e, _ => .loop (e.shapes (e.slots (writes x))) (e.outs (e.slots (writes x))) fun z =>
      denCode P rt x c ((e.kill (writes x)).puts (e.slots (writes x)) (Shs.vals _ z)) fun e' => .out (e'.outs (e.slots (writes x)))
  | .exit id, c, e, _ => match c.find? fun p => Nat.beq p.1 id with
    | some p => .brk id (e.outs p.2)
    | none => .stuck
  | .ret, _, e, _ => rt e
  | .scope x, c, e, k => denCode P rt x c e k
  | .label _, _, e, k => k e
  | _, _, _, _ => .stuck

section
variable {P : Program}

theorem sh1_undef (s : Sh1) : s.of undef = none := by
  cases s with
  | atom a => cases a <;> rfl
  | agg l => rfl

/-- What a leaf hands on is there. -/
theorem outs_spec {e : Env} {tm : Array Value} (hag : Agrees e tm) : ∀ (S : List Nat) (ss : List Sh1) (y : Shs.Ty ss), Shs.of ss (e.outs S) = some y →
    S.map (fun t => tm[t]?) = (Shs.vals ss y).map some := by
  intro S
  induction S with
  | nil =>
    intro ss y h
    cases ss with
    | nil => rfl
    | cons s r => simp [Env.outs, Shs.of] at h
  | cons t r ih =>
    intro ss y h
    cases ss with
    | nil => simp [Env.outs, Shs.of] at h
    | cons s ss =>
      simp only [Env.outs, List.map_cons, Shs.of] at h
      split at h
      · rename_i x1 y1 h1 h2
        cases h
        cases hg : e.get? t with
        | none => rw [hg] at h1; simp only [Option.getD_none] at h1; rw [sh1_undef] at h1; cases h1
        | some v =>
          rw [hg] at h1
          simp only [Option.getD_some] at h1
          have := hag t v hg
          simp only [List.map_cons, Shs.vals, this, Sh1.of_val s v x1 h1]
          rw [ih ss y1 h2]
      · cases h

theorem kill_get? {e : Env} {W : List Nat} : ∀ {t : Nat} {v : Value}, (e.kill W).get? t = some v → t ∉ W ∧ e.get? t = some v := by
  induction e with
  | nil => intro t v h; simp [Env.kill, Env.get?] at h
  | cons p r ih =>
    obtain ⟨i, u⟩ := p
    intro t v h
    unfold Env.kill at h
    by_cases hi : W.contains i = true
    · rw [List.filter_cons_of_neg (by simpa using hi)] at h
      obtain ⟨h1, h2⟩ := ih h
      refine ⟨h1, ?_⟩
      rw [Env.get?_cons]
      have : i ≠ t := fun e => h1 (e ▸ List.contains_iff_mem.1 hi)
      simp [this, h2]
    · rw [List.filter_cons_of_pos (by simpa using hi)] at h
      rw [Env.get?_cons] at h ⊢
      by_cases hit : i = t
      · subst hit
        simp only [if_true] at h ⊢
        exact ⟨fun hm => hi (List.contains_iff_mem.2 hm), h⟩
      · simp only [hit, if_false] at h ⊢
        exact ih h

theorem agrees_kill {e : Env} {a a' : Act} {W : List Nat} (hag : Agrees e a.tmps) (hf : Fr W a a') : Agrees (e.kill W) a'.tmps := by
  intro t v h
  obtain ⟨h1, h2⟩ := kill_get? h
  rw [hf.2.2 t h1]
  exact hag t v h2

theorem agrees_puts {e : Env} {tm : Array Value} (hag : Agrees e tm) : ∀ (S : List Nat) (vs : List Value), S.map (fun t => tm[t]?) = vs.map some → Agrees (e.puts S vs) tm := by
  intro S
  induction S with
  | nil => intro vs h; simpa [Env.puts] using hag
  | cons t r ih =>
    intro vs h
    cases vs with
    | nil => simp at h
    | cons v vs =>
      simp only [List.map_cons, List.cons.injEq] at h
      intro t' v' hg
      simp only [Env.puts, List.zip_cons_cons, List.cons_append, Env.get?_cons] at hg
      by_cases ht : t = t'
      · subst ht
        simp only [if_true, Option.some.injEq] at hg
        subst hg
        exact h.1
      · simp only [ht, if_false] at hg
        exact ih vs h.2 t' v' hg

/-- Behind a join: what is known. -/
theorem agrees_join {e e' : Env} {a a' : Act} {W S : List Nat} {ss : List Sh1} {y : Shs.Ty ss} (hag : Agrees e a.tmps) (hf : Fr W a a') (hag' : Agrees e' a'.tmps) (hy : Shs.of ss (e'.outs S) = some y) :
    Agrees ((e.kill W).puts S (Shs.vals ss y)) a'.tmps := agrees_puts (agrees_kill hag hf) S _ (outs_spec hag' S ss y hy)

theorem map_getD {tm : Array Value} : ∀ (S : List Nat) (vs : List Value), S.map (fun t => tm[t]?) = vs.map some → S.map (fun t => tm.getD t undef) = vs := by
  intro S
  induction S with
  | nil => intro vs h; cases vs <;> simp_all
  | cons t r ih =>
    intro vs h
    cases vs with
    | nil => simp at h
    | cons v vs =>
      simp only [List.map_cons, List.cons.injEq] at h ⊢
      refine ⟨?_, ih vs h.2⟩
      rw [Array.getD_eq_getD_getElem?, h.1]
      rfl

structure Ends (P : Program) (rt : Env → T) (c : List (Nat × List Nat)) (QT : Leaf → Heap → Prop) (W : List Nat) (a : Act) (w : World) (QC : Exit → Act → World → Prop) : Prop where
  brk : ∀ id p, c.find? (fun p => Nat.beq p.1 id) = some p → ∀ e' a' w', Agrees e' a'.tmps → Fr W a a' → Same w w' → QT (.brk id (e'.outs p.2)) w'.heap → QC (.exit id) a' w'
  ret : ∀ e' a' w', Agrees e' a'.tmps → Fr W a a' → Same w w' → (rt e').wp P QT w'.heap → QC .ret a' w'
  pan : ∀ ch a' w', Fr W a a' → Same w w' → QT (.pan ch) w'.heap → QC (.panic ch) a' w'

theorem Ends.step {rt : Env → T} {c : List (Nat × List Nat)} {QT : Leaf → Heap → Prop} {W W' : List Nat} {a a' : Act} {w w' : World} {QC : Exit → Act → World → Prop} (E : Ends P rt c QT W a w QC)
    (hf : Fr W a a') (hs : Same w w') (hW : ∀ t, t ∈ W' → t ∈ W) : Ends P rt c QT W' a' w' QC :=
  ⟨fun id p hp e2 a2 w2 h1 h2 h3 h4 => E.brk id p hp e2 a2 w2 h1 (hf.trans (h2.mono hW)) (hs.trans h3) h4,
   fun e2 a2 w2 h1 h2 h3 h4 => E.ret e2 a2 w2 h1 (hf.trans (h2.mono hW)) (hs.trans h3) h4,
   fun ch a2 w2 h2 h3 h4 => E.pan ch a2 w2 (hf.trans (h2.mono hW)) (hs.trans h3) h4⟩

/-- A tree that only comes back. -/
def Rets (P : Program) (rt : Env → T) : Prop := ∀ (e : Env) (Q Q' : Leaf → Heap → Prop) (h : Heap), (∀ v h, Q (.ret v) h → Q' (.ret v) h) → (rt e).wp P Q h → (rt e).wp P Q' h

theorem Ends.inner {rt : Env → T} {c : List (Nat × List Nat)} {QT QT' : Leaf → Heap → Prop} {W : List Nat} {a : Act} {w : World} {QC : Exit → Act → World → Prop} (E : Ends P rt c QT W a w QC) (hrt : Rets P rt)
    (hb : ∀ id vs h, QT' (.brk id vs) h → QT (.brk id vs) h) (hr : ∀ v h, QT' (.ret v) h → QT (.ret v) h) (hp : ∀ v h, QT' (.pan v) h → QT (.pan v) h) : Ends P rt c QT' W a w QC :=
  ⟨fun id p hf e2 a2 w2 h1 h2 h3 h4 => E.brk id p hf e2 a2 w2 h1 h2 h3 (hb _ _ _ h4),
   fun e2 a2 w2 h1 h2 h3 h4 => E.ret e2 a2 w2 h1 h2 h3 (hrt e2 _ _ _ hr h4),
   fun ch a2 w2 h2 h3 h4 => E.pan ch a2 w2 h2 h3 (hp _ _ h4)⟩

theorem find_filter {c : List (Nat × List Nat)} {id id' : Nat} {p : Nat × List Nat} (h : (c.filter fun p => !Nat.beq p.1 id).find? (fun p => Nat.beq p.1 id') = some p) :
    id' ≠ id ∧ c.find? (fun p => Nat.beq p.1 id') = some p := by
  have hm := List.mem_of_find?_eq_some h
  have hp := List.find?_some h
  rw [List.mem_filter] at hm
  have e1 : p.1 = id' := Nat.eq_of_beq_eq_true hp
  have e2 : p.1 ≠ id := fun e => by have := hm.2; rw [e] at this; simp at this
  have hne : id' ≠ id := e1 ▸ e2
  refine ⟨hne, ?_⟩
  clear hm hp
  induction c with
  | nil => simp at h
  | cons x r ih =>
    by_cases hx : x.1 = id
    · have : (!Nat.beq x.1 id) = false := by rw [hx]; simp
      rw [List.filter_cons_of_neg (by simp [this])] at h
      rw [List.find?_cons]
      have hx' : Nat.beq x.1 id' = false := by
        cases hb : Nat.beq x.1 id' with
        | false => rfl
        | true => exact absurd ((Nat.eq_of_beq_eq_true hb).symm.trans hx) hne
      rw [hx']
      exact ih h
    · have : (!Nat.beq x.1 id) = true := by
        cases hb : Nat.beq x.1 id with
        | false => rfl
        | true => exact absurd (Nat.eq_of_beq_eq_true hb) hx
      rw [List.filter_cons_of_pos (by simp [this])] at h
      rw [List.find?_cons] at h ⊢
      split
      · rename_i hb; rw [hb] at h; exact h
      · rename_i hb; rw [hb] at h; exact ih h

theorem denCode_ok {rt : Env → T} (hm : P.follows .mixedOrders = true) (hrt : Rets P rt) (code : Code) :
    ∀ (c : List (Nat × List Nat)) (e : Env) (k : Env → T) (QT : Leaf → Heap → Prop) (a : Act) (w : World) (QC : Exit → Act → World → Prop),
      Agrees e a.tmps → Bound (writes code) a → (denCode P rt code c e k).wp P QT w.heap →
      (∀ e' a' w', Agrees e' a'.tmps → Fr (writes code) a a' → Same w w' → (k e').wp P QT w'.heap → QC .normal a' w') →
      Ends P rt c QT (writes code) a w QC → code.wp P QC a w := by
  induction code with
  | skip => intro c e k QT a w QC hag hb H hn E; exact wp_skip (hn e a w hag (.refl _ a) (.refl w) H)
  | region id ops draw =>
    intro c e k QT a w QC hag hb H hn E
    have hW : ∀ o ∈ ops, ∀ d, o.dst = some d → d ∈ ops.toList.filterMap (·.dst) := fun o ho d hd => List.mem_filterMap.2 ⟨o, Array.mem_toList_iff.2 ho, hd⟩
    simp only [denCode] at H
    split at H
    · exact denRegion_ok hm hW hag hb H hn (fun ch a' w' => E.pan ch a' w')
    · simp only [T.wp] at H
      refine denRegion_ok hm hW hag hb H (fun e' a' w' h1 h2 h3 h4 => ?_) (fun ch a' w' h1 h2 h3 => E.pan ch a' w' h1 h2 h3)
      simp only [T.wp] at h4
      split at h4
      · rename_i y hy
        exact hn _ a' w' (agrees_join hag h2 h1 hy) h2 h3 h4
      · exact h4.elim
  | seq x y ihx ihy =>
    intro c e k QT a w QC hag hb H hn E
    refine wp_seq (ihx c e _ QT a w _ hag (fun d hd => hb d (List.mem_append_left _ hd)) H (fun e' a' w' h1 h2 h3 h4 => ?_) ?_)
    · have hf : Fr (writes x ++ writes y) a a' := h2.mono fun t ht => List.mem_append_left _ ht
      exact ihy c e' k QT a' w' QC h1 ((show Bound (writes y) a from fun d hd => hb d (List.mem_append_right _ hd)).fr hf) h4
        (fun e2 a2 w2 g1 g2 g3 g4 => hn e2 a2 w2 g1 (hf.trans (g2.mono fun t ht => List.mem_append_right _ ht)) (h3.trans g3) g4)
        (E.step hf h3 fun t ht => List.mem_append_right _ ht)
    · exact ⟨fun id p hp e2 a2 w2 h1 h2 h3 h4 => E.brk id p hp e2 a2 w2 h1 (h2.mono fun t ht => List.mem_append_left _ ht) h3 h4, fun e2 a2 w2 h1 h2 => E.ret e2 a2 w2 h1 (h2.mono fun t ht => List.mem_append_left _ ht), fun ch a2 w2 h2 => E.pan ch a2 w2 (h2.mono fun t ht => List.mem_append_left _ ht)⟩
  | cond b x y ihx ihy =>
    intro c e k QT a w QC hag hb H hn E
    simp only [denCode] at H
    cases hhas : e.has b with
    | false => rw [hhas] at H; exact H.elim
    | true =>
      rw [hhas] at H
      simp only [cond_true] at H
      have hev := hag.ev hhas
      split at H
      · rename_i t ht
        have hc : a.eval b = .bool t := hev.trans ht
        have hbx : Bound (writes x) a := fun d hd => hb d (List.mem_append_left _ hd)
        have hby : Bound (writes y) a := fun d hd => hb d (List.mem_append_right _ hd)
        have hl : ∀ t, t ∈ writes x → t ∈ writes x ++ writes y := fun t ht => List.mem_append_left _ ht
        have hr : ∀ t, t ∈ writes y → t ∈ writes x ++ writes y := fun t ht => List.mem_append_right _ ht
        split at H
        · simp only [T.wp] at H
          refine wp_cond hc ?_
          cases t with
          | true =>
            simp only [cond_true] at H
            simp only [if_true]
            refine ihx c e _ _ a w QC hag hbx H (fun e' a' w' h1 h2 h3 h4 => ?_) ((E.step (.refl _ a) (.refl w) hl).inner hrt (fun _ _ _ h => h) (fun _ _ h => h) (fun _ _ h => h))
            simp only [T.wp] at h4
            split at h4
            · rename_i z hz
              exact hn _ a' w' (agrees_join hag (h2.mono hl) h1 hz) (h2.mono hl) h3 h4
            · exact h4.elim
          | false =>
            simp only [cond_false] at H
            simp only [Bool.false_eq_true, if_false]
            refine ihy c e _ _ a w QC hag hby H (fun e' a' w' h1 h2 h3 h4 => ?_) ((E.step (.refl _ a) (.refl w) hr).inner hrt (fun _ _ _ h => h) (fun _ _ h => h) (fun _ _ h => h))
            simp only [T.wp] at h4
            split at h4
            · rename_i z hz
              exact hn _ a' w' (agrees_join hag (h2.mono hr) h1 hz) (h2.mono hr) h3 h4
            · exact h4.elim
        · refine wp_cond hc ?_
          cases t with
          | true => exact ihx c e k QT a w QC hag hbx H (fun e' a' w' h1 h2 => hn e' a' w' h1 (h2.mono hl)) (E.step (.refl _ a) (.refl w) hl)
          | false => exact ihy c e k QT a w QC hag hby H (fun e' a' w' h1 h2 => hn e' a' w' h1 (h2.mono hr)) (E.step (.refl _ a) (.refl w) hr)
      · exact H.elim
  | block id x ih =>
    intro c e k QT a w QC hag hb H hn E
    simp only [denCode] at H
    refine wp_block ?_
    split at H
    · refine ih _ e k QT a w _ hag hb H hn ⟨fun id' p hp e2 a2 w2 h1 h2 h3 h4 => ?_, E.ret, E.pan⟩
      obtain ⟨hne, hp'⟩ := find_filter hp
      simp only [Exit.inBlock, if_neg hne]
      exact E.brk id' p hp' e2 a2 w2 h1 h2 h3 h4
    · simp only [T.wp] at H
      refine ih _ e _ _ a w _ hag hb H (fun e' a' w' h1 h2 h3 h4 => ?_) ⟨fun id' p hp e2 a2 w2 h1 h2 h3 h4 => ?_, fun e2 a2 w2 h1 h2 h3 h4 => ?_, fun ch a2 w2 h2 h3 h4 => E.pan ch a2 w2 h2 h3 h4⟩
      · simp only [T.wp] at h4
        split at h4
        · rename_i z hz
          exact hn _ a' w' (agrees_join hag h2 h1 hz) h2 h3 h4
        · exact h4.elim
      · rw [List.find?_cons] at hp
        by_cases hid : id' = id
        · subst hid
          have e1 : Nat.beq id' id' = true := by simp
          simp only [e1, Option.some.injEq] at hp
          subst hp
          simp only [e1, cond_true] at h4
          simp only [Exit.inBlock, if_true]
          split at h4
          · rename_i z hz
            exact hn _ a2 w2 (agrees_join hag h2 h1 hz) h2 h3 h4
          · exact h4.elim
        · have e1 : Nat.beq id id' = false := by
            cases hbq : Nat.beq id id' with
            | false => rfl
            | true => exact absurd (Nat.eq_of_beq_eq_true hbq).symm hid
          have e2' : Nat.beq id' id = false := by
            cases hbq : Nat.beq id' id with
            | false => rfl
            | true => exact absurd (Nat.eq_of_beq_eq_true hbq) hid
          simp only [e1] at hp
          simp only [e2', cond_false] at h4
          simp only [Exit.inBlock, if_neg hid]
          exact E.brk id' p hp e2 a2 w2 h1 h2 h3 h4
      · refine E.ret e2 a2 w2 h1 h2 h3 (hrt e2 _ QT w2.heap ?_ h4)
        exact fun _ _ h => h
  | loop x ih =>
    intro c e k QT a w QC hag hb H hn E
    simp only [denCode, T.wp] at H
    obtain ⟨I, μ, ⟨y0, hy0, hI0⟩, hround⟩ := H
    refine wp_loop (fun a' w' => Fr (writes x) a a' ∧ Same w w' ∧ ∃ y, (e.slots (writes x)).map (fun t => a'.tmps[t]?) = (Shs.vals _ y).map some ∧
        Shs.of (e.shapes (e.slots (writes x))) (Shs.vals _ y) = some y ∧ I y w'.heap)
      (fun a' w' => match Shs.of (e.shapes (e.slots (writes x))) ((e.slots (writes x)).map fun t => a'.tmps.getD t undef) with
        | some y => μ y w'.heap
        | none => 0) ?_ ?_
    · exact ⟨.refl _ a, .refl w, y0, outs_spec hag _ _ y0 hy0, by rw [← Shs.of_vals _ _ _ hy0]; exact hy0, hI0⟩
    · rintro a' w' ⟨hf, hs, y, hv, hof, hI⟩
      have hag' : Agrees ((e.kill (writes x)).puts (e.slots (writes x)) (Shs.vals _ y)) a'.tmps := agrees_puts (agrees_kill hag hf) _ _ hv
      refine ih c _ _ _ a' w' _ hag' (Bound.fr hb hf) (hround y w'.heap hI) (fun e2 a2 w2 h1 h2 h3 h4 => ?_) ?_
      · simp only [T.wp] at h4
        split at h4
        · rename_i y2 hy2
          refine ⟨⟨hf.trans h2, hs.trans h3, y2, outs_spec h1 _ _ y2 hy2, by rw [← Shs.of_vals _ _ _ hy2]; exact hy2, h4.1⟩, ?_⟩
          have g1 := map_getD _ _ (outs_spec h1 _ _ y2 hy2)
          have g2 := map_getD _ _ hv
          have g3 : Shs.of (e.shapes (e.slots (writes x))) (Shs.vals _ y2) = some y2 := by rw [← Shs.of_vals _ _ _ hy2]; exact hy2
          simp only [g1, g2, g3, hof]
          exact h4.2
        · exact h4.elim
      · have E' : Ends P rt c QT (writes x) a' w' QC := E.step hf hs fun t ht => ht
        refine ⟨fun id p hp e2 a2 w2 h1 h2 h3 h4 => E'.brk id p hp e2 a2 w2 h1 h2 h3 h4, fun e2 a2 w2 h1 h2 h3 h4 => E'.ret e2 a2 w2 h1 h2 h3 (hrt e2 _ QT w2.heap ?_ h4), fun ch a2 w2 h2 h3 h4 => E'.pan ch a2 w2 h2 h3 h4⟩
        exact fun _ _ h => h
  | exit id =>
    intro c e k QT a w QC hag hb H hn E
    simp only [denCode] at H
    split at H
    · rename_i p hp
      exact wp_exit (E.brk id p hp e a w hag (.refl _ a) (.refl w) H)
    · exact H.elim
  | ret => intro c e k QT a w QC hag hb H hn E; exact wp_ret (E.ret e a w hag (.refl _ a) (.refl w) H)
  | rangeFunc f ps x y ihx ihy => intro c e k QT a w QC hag hb H hn E; exact H.elim
  | scope x ih =>
    intro c e k QT a w QC hag hb H hn E
    exact wp_scope_straight (ih c e k QT a w (Exit.noGoto QC) hag hb H hn ⟨E.brk, E.ret, E.pan⟩)
  | label l => intro c e k QT a w QC hag hb H hn E; exact wp_label (hn e a w hag (.refl _ a) (.refl w) H)
  | goto l => intro c e k QT a w QC hag hb H hn E; exact H.elim
  | refuse s => intro c e k QT a w QC hag hb H hn E; exact H.elim

/-! ## a function -/
def retVals (P : Program) : List ResultVar → Env → List Value → (List Value → T) → T
  | [], _, acc, k => k acc.reverse
  | .tmp t :: r, e, acc, k => match e.get? t with
    | some v => retVals P r e (v :: acc) k
    | none => .stuck
  | .cell a t :: r, e, acc, k => match e.get? a with
    | some (.pointer (some ad)) => denLoad P t ad fun v => retVals P r e (v :: acc) k
    | _ => .stuck
def oneOf : List Value → Value
  | [v] => v
  | vs => .tuple vs.toArray
def retT (P : Program) (fn : Func) (e : Env) : T := retVals P fn.results.toList e [] fun vs => .ret (oneOf vs)

def envOf : Nat → List Value → Env
  | _, [] => []
  | i, v :: r => (i, v) :: envOf (i + 1) r
def denFun (P : Program) (fn : Func) (args : List Value) : T := match fn.body with
  | some c => bif (writes c).all fun d => Nat.blt d fn.ntmps then denCode P (retT P fn) c [] (envOf 0 args) (retT P fn) else .stuck
  | none => .stuck

theorem loadsT_rets (l : List Atom) (a : Addr) {f : Array Value → T} {Q Q' : Leaf → Heap → Prop} (hf : ∀ cs h, (f cs).wp P Q h → (f cs).wp P Q' h) : ∀ (i : Nat) (acc : Array Value) (h : Heap),
    (loadsT l a i acc f).wp P Q h → (loadsT l a i acc f).wp P Q' h := by
  induction l with
  | nil => intro i acc h H; exact hf _ _ H
  | cons s r ih => intro i acc h H; obtain ⟨x, hx, H⟩ := H; exact ⟨x, hx, ih _ _ _ H⟩
theorem denLoad_rets {t : TypeId} {a : Addr} {k : Value → T} {Q Q' : Leaf → Heap → Prop} {h : Heap} (hk : ∀ v h, (k v).wp P Q h → (k v).wp P Q' h) (H : (denLoad P t a k).wp P Q h) : (denLoad P t a k).wp P Q' h := by
  unfold denLoad at H ⊢
  split at H
  · split at H
    · split at H
      · rename_i hlen; simp only [if_pos hlen]; exact loadsT_rets _ _ (fun cs h => hk _ h) _ _ _ H
      · exact H.elim
    · obtain ⟨x, hx, H⟩ := H; exact ⟨x, hx, hk _ _ H⟩
    · exact H.elim
  · exact H.elim

theorem retT_rets (fn : Func) : Rets P (retT P fn) := by
  intro e Q Q' h hq H
  have key : ∀ (l : List ResultVar) (acc : List Value) (h : Heap), (retVals P l e acc fun vs => .ret (oneOf vs)).wp P Q h → (retVals P l e acc fun vs => .ret (oneOf vs)).wp P Q' h := by
    intro l
    induction l with
    | nil => intro acc h H; exact hq _ _ H
    | cons x r ih =>
      intro acc h H
      cases x with
      | tmp t =>
        simp only [retVals] at H ⊢
        split at H
        · exact ih _ _ H
        · exact H.elim
      | cell a t =>
        simp only [retVals] at H ⊢
        split at H
        · exact denLoad_rets (fun v h => ih _ _) H
        · exact H.elim
  exact key _ _ _ H

theorem loads_run (l : List Atom) (a : Addr) {f : Array Value → T} {Q : Leaf → Heap → Prop} (w : World) : ∀ (i : Nat) (acc : Array Value), (loadsT l a i acc f).wp P Q w.heap →
    ∃ cs, (loadCellsFrom a i l.length acc).run P w = .ok cs w ∧ (f cs).wp P Q w.heap := by
  induction l with
  | nil => intro i acc H; exact ⟨acc, rfl, H⟩
  | cons s r ih =>
    intro i acc H
    obtain ⟨x, hx, H⟩ := H
    obtain ⟨cs, h1, h2⟩ := ih (i + 1) _ H
    refine ⟨cs, ?_, h2⟩
    have hx' : w.cell? (a.add i) = some (s.val x) := hx
    simp only [List.length_cons, loadCellsFrom, load, bind, Sem.bind, Sem.run, hx']
    exact h1
theorem run_bind {α β : Type} (s : Sem α) (f : α → Sem β) {w w' : World} {a : α} (h : s.run P w = .ok a w') : (s.bind f).run P w = (f a).run P w' := by
  induction s generalizing w with
  | pure b => cases h; rfl
  | load m ad k ih =>
    simp only [Sem.bind, Sem.run] at h ⊢
    split
    · rename_i v hv; rw [hv] at h; exact ih _ h
    · rename_i hv
      rw [hv] at h
      simp only at h
      split
      · rename_i v t he; rw [he] at h; exact ih _ h
      · rename_i x he; rw [he] at h; cases h
  | store m ad v k ih =>
    cases v <;> simp only [Sem.bind, Sem.run] at h ⊢ <;> first
      | cases h
      | (split <;> rename_i hv <;> rw [hv] at h <;> simp only at h
         · split <;> rename_i hf <;> simp only [hf] at h <;> first
             | (simp only [if_true] at h; cases h)
             | (simp only [Bool.false_eq_true, if_false] at h; exact ih h)
             | exact ih (by simpa using h)
             | simp at h
         · split <;> rename_i he <;> rw [he] at h <;> first | exact ih h | cases h)
  | new o k ih => simp only [Sem.bind, Sem.run] at h ⊢; exact ih _ h
  | shape r k ih => simp only [Sem.bind, Sem.run] at h ⊢; exact ih _ h
  | freeze a n k ih => simp only [Sem.bind, Sem.run] at h ⊢; exact ih h
  | frozen a k ih => simp only [Sem.bind, Sem.run] at h ⊢; exact ih _ h
  | getObj r k ih =>
    simp only [Sem.bind, Sem.run] at h ⊢
    split <;> rename_i hv <;> rw [hv] at h <;> simp only at h <;> first | cases h | exact ih _ h
  | setObj r o k ih =>
    simp only [Sem.bind, Sem.run] at h ⊢
    split <;> rename_i hv <;> rw [hv] at h <;> simp only at h <;> first | cases h | exact ih h
  | choose q k ih =>
    simp only [Sem.bind, Sem.run] at h ⊢
    split <;> rename_i hv <;> simp only [hv] at h
    · exact ih _ (by simpa using h)
    · exact ih _ (by simpa using h)
  | sys c k ih => simp only [Sem.bind, Sem.run] at h ⊢; exact ih _ h
  | program k ih => simp only [Sem.bind, Sem.run] at h ⊢; exact ih _ h
  | mark m k ih => simp only [Sem.bind, Sem.run] at h ⊢; exact ih h
  | halt x => simp only [Sem.run] at h; cases h

theorem loadVar_run {t : TypeId} {a : Addr} {k : Value → T} {Q : Leaf → Heap → Prop} (w : World) (H : (denLoad P t a k).wp P Q w.heap) :
    ∃ v, (loadVar t a).run P w = .ok v w ∧ (k v).wp P Q w.heap := by
  unfold denLoad at H
  split at H
  · rename_i d i hd hi
    have e1 : (isAgg t).run P w = .ok (isAggD d) w := by
      simp only [isAgg, underlying, program, bind, Sem.bind, hd, pure, Sem.run]
      cases d <;> rfl
    have e2 : (Go.sizeOf t).run P w = .ok i.size w := by simp only [Go.sizeOf, typeInfo, program, bind, Sem.bind, hi, pure, Sem.run]
    split at H
    · rename_i l hag hsh
      split at H
      · rename_i hlen
        obtain ⟨cs, h1, h2⟩ := loads_run l a w 0 #[] H
        refine ⟨.agg cs, ?_, h2⟩
        unfold loadVar
        refine (run_bind _ _ e1).trans ?_
        rw [hag]
        simp only [if_true]
        refine (run_bind _ _ e2).trans ?_
        rw [← hlen]
        exact (run_bind _ _ h1).trans rfl
      · exact H.elim
    · rename_i s hag hsh
      obtain ⟨x, hx, H⟩ := H
      refine ⟨s.val x, ?_, H⟩
      unfold loadVar
      refine (run_bind _ _ e1).trans ?_
      rw [hag]
      have hx' : w.cell? a = some (s.val x) := hx
      simp only [Bool.false_eq_true, if_false, load, Sem.run, hx']
    · exact H.elim
  · exact H.elim

/-- How one result variable is read. -/
def readVar (tmps : Array Value) : ResultVar → Sem Value
  | .tmp t => pure (tmps.getD t undef)
  | .cell a t => do loadVar t (← asAddr (tmps.getD a undef))
theorem results_eq (fn : Func) (tmps : Array Value) : results fn tmps = (fn.results.mapM (readVar tmps)).bind fun vs => .pure (if h : vs.size = 1 then vs[0] else .tuple vs) := rfl

theorem retT_ok {fn : Func} {e : Env} {a : Act} {w : World} {QT : Leaf → Heap → Prop} (hag : Agrees e a.tmps) (H : (retT P fn e).wp P QT w.heap) :
    ∃ v, (results fn a.tmps).run P w = .ok v w ∧ QT (.ret v) w.heap := by
  have key : ∀ (l : List ResultVar) (acc : List Value), (retVals P l e acc fun vs => .ret (oneOf vs)).wp P QT w.heap →
      ∃ vs, (l.mapM (readVar a.tmps)).run P w = .ok vs w ∧ QT (.ret (oneOf (acc.reverse ++ vs))) w.heap := by
    intro l
    induction l with
    | nil => intro acc H; exact ⟨[], rfl, by simpa [retVals, T.wp] using H⟩
    | cons x r ih =>
      intro acc H
      rw [List.mapM_cons]
      cases x with
      | tmp t =>
        simp only [retVals] at H
        split at H
        · rename_i v hv
          obtain ⟨vs, h1, h2⟩ := ih _ H
          refine ⟨v :: vs, ?_, by simpa using h2⟩
          have e1 : (readVar a.tmps (.tmp t)).run P w = .ok v w := by
            have := hag t v hv
            simp [readVar, pure, Array.getD_eq_getD_getElem?, this]
          refine (run_bind _ _ e1).trans ((run_bind _ _ h1).trans rfl)
        · exact H.elim
      | cell ad t =>
        simp only [retVals] at H
        split at H
        · rename_i b hb
          obtain ⟨v, h0, H⟩ := loadVar_run w H
          obtain ⟨vs, h1, h2⟩ := ih _ H
          refine ⟨v :: vs, ?_, by simpa using h2⟩
          have e1 : (readVar a.tmps (.cell ad t)).run P w = .ok v w := by
            have := hag ad _ hb
            have e2 : a.tmps.getD ad undef = .pointer (some b) := by rw [Array.getD_eq_getD_getElem?, this]; rfl
            simp only [readVar, e2]
            exact h0
          refine (run_bind _ _ e1).trans ((run_bind _ _ h1).trans rfl)
        · exact H.elim
  obtain ⟨vs, h1, h2⟩ := key fn.results.toList [] H
  refine ⟨oneOf vs, ?_, by simpa using h2⟩
  rw [results_eq]
  have e1 : (fn.results.mapM (readVar a.tmps)).run P w = .ok vs.toArray w := by
    rw [Array.mapM_eq_mapM_toList]
    show (Sem.bind (fn.results.toList.mapM (readVar a.tmps)) fun l => .pure l.toArray).run P w = _
    exact (run_bind _ _ h1).trans rfl
  refine (run_bind _ _ e1).trans ?_
  show Result.ok _ w = _
  congr 1
  cases vs with
  | nil => rfl
  | cons v r =>
    cases r with
    | nil => rfl
    | cons v2 r => simp [oneOf]

theorem envOf_agrees (args : List Value) : ∀ (i : Nat) (pre rest : List Value), pre.length = i → Agrees (envOf i args) (pre ++ args ++ rest).toArray := by
  induction args with
  | nil => intro i pre rest _ t v h; simp [envOf, Env.get?] at h
  | cons x r ih =>
    intro i pre rest hi t v h
    simp only [envOf, Env.get?_cons] at h
    by_cases hit : i = t
    · subst hit
      simp only [if_true, Option.some.injEq] at h
      subst h
      simp [← hi]
    · simp only [hit, if_false] at h
      have := ih (i + 1) (pre ++ [x]) rest (by simp [hi]) t v h
      simpa using this

/-- How a tree's end reads as a call's end. -/
def finOf (R : Fin → Heap → Prop) : Leaf → Heap → Prop
  | .ret v, h => R (.ret v) h
  | .pan c, h => R (.pan c) h
  | _, _ => False

theorem calls_of {f : FuncId} {fn : Func} {args : List Value} {h : Heap} {R : Fin → Heap → Prop} (hm : P.follows .mixedOrders = true) (hf : P.funcs[f]? = some fn)
    (H : (denFun P fn args).wp P (finOf R) h) : CallsH P f args h R := by
  intro w hw
  subst hw
  unfold denFun at H
  split at H
  · rename_i c hc
    cases hall : (writes c).all fun d => Nat.blt d fn.ntmps with
    | false => rw [hall] at H; exact H.elim
    | true =>
      rw [hall] at H
      simp only [cond_true] at H
      refine calls_of_wp hf hc ?_
      have hag : Agrees (envOf 0 args) (args.toArray ++ Array.replicate (fn.ntmps - args.toArray.size) undef) := by
        have := envOf_agrees args 0 [] (List.replicate (fn.ntmps - args.toArray.size) undef) rfl
        have e : ([] ++ args ++ List.replicate (fn.ntmps - args.toArray.size) undef).toArray = args.toArray ++ Array.replicate (fn.ntmps - args.toArray.size) undef := by
          apply Array.ext'
          simp
        rw [← e]; exact this
      have hb : Bound (writes c) { tmps := args.toArray ++ Array.replicate (fn.ntmps - args.toArray.size) undef, defers := [] } := by
        intro d hd
        have := List.all_eq_true.1 hall d hd
        have hlt : d < fn.ntmps := by simpa [Nat.blt_eq] using this
        simp
        omega
      refine denCode_ok hm (retT_rets fn) c [] _ _ (finOf R) _ w _ hag hb H (fun e' a' w' h1 h2 h3 h4 => ?_) ⟨fun id p hp => (by cases hp), fun e' a' w' h1 h2 h3 h4 => ?_, fun ch a' w' h1 h2 h3 => ⟨h1.2.1, h2, h3⟩⟩
      · obtain ⟨v, g1, g2⟩ := retT_ok h1 h4
        exact ⟨h2.2.1, v, g1, h3, g2⟩
      · obtain ⟨v, g1, g2⟩ := retT_ok h1 h4
        exact ⟨h2.2.1, v, g1, h3, g2⟩
  · exact H.elim
end
end Go.Eng

/-
  THE ENGINE, PART J: a function that defers one call on its straight road; a deferred function; one that recovers first of all.
  Conditions: the program follows 'mixedOrders' (each loaded program of the kit does).
-/
namespace Go.Eng
open Go

/-- The call that a region's last operation defers. -/
def deferOf (P : Program) (ops : Array Oper) (e : Env) : Option (FuncId × List Value) := match ops[ops.size - 1]? with
  | some o => match o.op, o.guard, o.dst with
    | .defer c, none, none => match c.callee with
      | .value x => match e.has x && c.args.toList.all e.has, e.ev x with
        | true, .func (.func f) first cap => match P.funcs[f]? with
          | some fn => match fn.name == "runtime.NumGoroutine", fn.body.isNone with
            | false, false => some (f, ((first ++ c.args.map e.ev) ++ cap).toList)
            | _, _ => none
          | none => none
        | _, _ => none
      | _ => none
    | _, _, _ => none
  | none => none
def defers (ops : Array Oper) : Bool := match ops[ops.size - 1]? with
  | some o => match o.op with
    | .defer _ => true
    | _ => false
  | none => false
def deferRegion : Code → Option (Array Oper)
  | .region _ ops false => match defers ops, guardsOf ops with
    | true, [] => some ops
    | _, _ => none
  | _ => none
def quiet0 : Env → T := fun _ => .ret .nilIface
def denD (P : Program) (fn : Func) : Code → Env → T
  | .seq x y, e => match deferRegion x with
    | some ops => denOps P ops [] (List.range (ops.size - 1)) e fun e' => match deferOf P ops e' with
        | some (f, args) => .later f args (denCode P quiet0 y [] e' quiet0) (retT P fn (e'.kill (writes y)))
        | none => .stuck
    | none => denCode P (retT P fn) x [] e fun e' => denD P fn y e'
  | c, e => denCode P (retT P fn) c [] e (retT P fn)
def denFunD (P : Program) (fn : Func) (args : List Value) : T := match fn.body with
  | some c => bif (writes c).all fun d => Nat.blt d fn.ntmps then denD P fn c (envOf 0 args) else .stuck
  | none => .stuck
/-- A deferred function's body whose first operation recovers: v is what it recovers. -/
def denRec (P : Program) (fn : Func) (v : Value) : Code → Env → T
  | .seq (.region _ ops false) y, e => match ops[0]?, guardsOf ops with
    | some o, [] => match o.op, o.guard with
      | .call c, none => match c.callee with
        | .builtin .recover => denOps P ops [] (List.range' 1 (ops.size - 1)) (e.put o.dst v) fun e' => denCode P (retT P fn) y [] e' (retT P fn)
        | _ => .stuck
      | _, _ => .stuck
    | _, _ => .stuck
  | _, _ => .stuck
def denFunRec (P : Program) (fn : Func) (v : Value) (args : List Value) : T := match fn.body with
  | some c => bif (writes c).all fun d => Nat.blt d fn.ntmps then denRec P fn v c (envOf 0 args) else .stuck
  | none => .stuck

section
variable {P : Program} {ops : Array Oper}

theorem ir_defer {Q : Exit → Act → World → Prop} {a : Act} {w : World} {i : Nat} {rest : List Nat} {o : Oper} {d : Deferred} {w' : World} (ho : ops[i]? = some o) (hw : Region.wanted o (yielded ops a.tmps) = true)
    (hr : (execOp a.eval o).run P w = .ok (.defer d) w') (H : IR P ops rest Q ({ a with defers := d :: a.defers }.put o.dst undef) w') : IR P ops (i :: rest) Q a w := fun b k cs => by
  obtain ⟨e, a', w'', hq, harr⟩ := H b k cs
  refine ⟨e, a', w'', hq, .of_steps (.one (step_lone_go ?_)) harr⟩
  have : ({ b.at a (.inRegion ops (i :: rest) :: k) with defers := d :: a.defers } : Frame).finish undef =
      b.at ({ a with defers := d :: a.defers }.put o.dst undef) (.inRegion ops rest :: k) := by
    have := Frame.finish_at b { a with defers := d :: a.defers } ops i rest k undef
    rw [ho] at this; exact this
  rw [stepG_op ho hw]
  simp only [stepG.apply, Sem.runT_eq, hr, GStep.bare_after]
  exact congrArg (fun fr => GStep.go { frame := fr, callers := cs, status := .running, dying := none } w') this

/-- A call's ends, read as heaps. -/
def endOf (w0 : World) (R : Fin → Heap → Prop) : Ending → World → Prop := fun e w' => Same w0 w' ∧ match e with
  | .returned v => R (.ret v) w'.heap
  | .panicked c => R (.pan c) w'.heap
  | .outgrown => False

theorem deferOf_ok {e : Env} {a : Act} {f : FuncId} {args : List Value} (hag : Agrees e a.tmps) (hd : deferOf P ops e = some (f, args)) :
    ∃ o d fv cap, ops[ops.size - 1]? = some o ∧ o.dst = none ∧ o.guard = none ∧ (∀ w, (execOp a.eval o).run P w = .ok (.defer d) w) ∧ d.target = .fn fv cap ∧
      ∀ w, (invoke d.target d.args).run P w = .ok (.enter f args.toArray) w := by
  unfold deferOf at hd
  split at hd
  case h_2 => cases hd
  rename_i o ho
  split at hd
  case h_2 => cases hd
  rename_i c hop hg hds
  split at hd
  case h_2 => cases hd
  rename_i x hx
  split at hd
  case h_2 => cases hd
  rename_i g first cap hall hev
  split at hd
  case h_2 => cases hd
  rename_i fn hfn
  split at hd
  case h_2 => cases hd
  rename_i hname hbody
  simp only [Option.some.injEq, Prod.mk.injEq] at hd
  obtain ⟨rfl, rfl⟩ := hd
  rw [Bool.and_eq_true] at hall
  have e1 : a.eval x = .func (.func g) first cap := by rw [hag.ev hall.1]; exact hev
  have e2 : c.args.map a.eval = c.args.map e.ev := by
    apply Array.map_congr_left
    intro y hy
    exact hag.ev (List.all_eq_true.1 hall.2 y (Array.mem_toList_iff.2 hy))
  refine ⟨o, { target := .fn (.func g) cap, args := first ++ c.args.map e.ev }, .func g, cap, ho, hds, hg, fun w => ?_, rfl, fun w => ?_⟩
  · simp only [execOp, hop, resolve, hx, e1, e2, Deferred.ofValue, bind, pure, Sem.bind, Sem.run]
  · simp only [invoke, callFunc, program, bind, Sem.bind, pure, Sem.run, hfn, hname, hbody, Bool.false_eq_true, if_false]

theorem quiet0_rets : Rets P quiet0 := fun _ _ _ _ hq H => hq _ _ H

theorem denD_ok {fn : Func} {R : Fin → Heap → Prop} {w0 : World} (hm : P.follows .mixedOrders = true) (code : Code) :
    ∀ (e : Env) (a : Act) (w : World), Agrees e a.tmps → Bound (writes code) a → a.defers = [] → Same w0 w → (denD P fn code e).wp P (finOf R) w.heap →
      code.wp P (bodyPostD P fn (endOf w0 R)) a w := by
  have fin : ∀ (e' : Env) (a' : Act) (w' : World), Agrees e' a'.tmps → a'.defers = [] → Same w0 w' → (retT P fn e').wp P (finOf R) w'.heap → Leaves P fn a'.tmps (endOf w0 R) a'.defers .returning w' := by
    intro e' a' w' h1 hd hs h4
    obtain ⟨v, g1, g2⟩ := retT_ok h1 h4
    rw [hd]
    exact ⟨v, g1, hs, g2⟩
  have finp : ∀ (ch : List PanicEntry) (a' : Act) (w' : World), a'.defers = [] → Same w0 w' → finOf R (.pan ch) w'.heap → Leaves P fn a'.tmps (endOf w0 R) a'.defers (.panicking ch) w' := by
    intro ch a' w' hd hs h4
    rw [hd]
    exact ⟨hs, h4⟩
  have base : ∀ (code : Code) (e : Env) (a : Act) (w : World), Agrees e a.tmps → Bound (writes code) a → a.defers = [] → Same w0 w → (denCode P (retT P fn) code [] e (retT P fn)).wp P (finOf R) w.heap →
      code.wp P (bodyPostD P fn (endOf w0 R)) a w := by
    intro code e a w hag hb hd hs H
    exact denCode_ok hm (retT_rets fn) code [] e _ (finOf R) a w _ hag hb H (fun e' a' w' h1 h2 h3 h4 => fin e' a' w' h1 (h2.2.1.trans hd) (hs.trans h3) h4)
      ⟨fun id p hp => (by cases hp), fun e' a' w' h1 h2 h3 h4 => fin e' a' w' h1 (h2.2.1.trans hd) (hs.trans h3) h4, fun ch a' w' h1 h2 h3 => finp ch a' w' (h1.2.1.trans hd) (hs.trans h2) h3⟩
  induction code with
  | seq x y ihx ihy =>
    intro e a w hag hb hd hs H
    have hbx : Bound (writes x) a := fun d hd => hb d (List.mem_append_left _ hd)
    have hby : Bound (writes y) a := fun d hd => hb d (List.mem_append_right _ hd)
    simp only [denD] at H
    split at H
    · rename_i ops hdr
      cases x with
      | region id ops' draw =>
        cases draw with
        | true => simp [deferRegion] at hdr
        | false =>
          simp only [deferRegion] at hdr
          split at hdr
          case h_2 => cases hdr
          rename_i hdf hgs
          cases hdr
          have hW : ∀ o ∈ ops, ∀ d, o.dst = some d → d ∈ ops.toList.filterMap (·.dst) := fun o ho d hd => List.mem_filterMap.2 ⟨o, Array.mem_toList_iff.2 ho, hd⟩
          have hsz : ops.size ≠ 0 := by
            intro h0
            unfold defers at hdf
            simp [h0] at hdf
          have hrange : List.range ops.size = List.range (ops.size - 1) ++ [ops.size - 1] := by
            have : ops.size = (ops.size - 1) + 1 := by omega
            rw [this, List.range_succ]
            simp
          refine wp_seq fun b k' cs => ?_
          have hir : IR P ops (List.range ops.size) (Exit.then (y.wp P (bodyPostD P fn (endOf w0 R))) (bodyPostD P fn (endOf w0 R))) a w := by
            rw [hrange]
            refine denOps_irT hW [ops.size - 1] (List.range (ops.size - 1)) e a w hag hbx H (fun e' a' w' h1 h2 h3 h4 => ?_) (fun ch a' w' h1 h2 h3 => ?_)
            · split at h4
              case h_2 => exact h4.elim
              rename_i f args hdo
              obtain ⟨o, d, fv, cap, ho, hds, hg, hex, htar, hinv⟩ := deferOf_ok h1 hdo
              refine ir_defer ho (by simp [Region.wanted, hg]) (hex w') (ir_nil ?_)
              rw [hds]
              show y.wp P (bodyPostD P fn (endOf w0 R)) { a' with defers := d :: a'.defers } w'
              have hd' : a'.defers = [] := h2.2.1.trans hd
              simp only [T.wp] at h4
              have hb' : Bound (writes y) a' := hby.fr h2
              have fin2 : ∀ (u : FrameMode) (a3 : Act) (w3 : World), u ≠ .run → Fr (writes y) { a' with defers := d :: a'.defers } a3 → Same w' w3 →
                  CallsDH P f args u w3.heap (fun e u h'' => match e with
                    | .ret _ => (match settle u with
                        | .returning => (retT P fn (e'.kill (writes y))).wp P (finOf R) h''
                        | .panicking c => finOf R (.pan c) h''
                        | .run => False)
                    | .pan _ => False) → Leaves P fn a3.tmps (endOf w0 R) a3.defers u w3 := by
                intro u a3 w3 hu hf h3' hcd
                have ed : a3.defers = [d] := by rw [hf.2.1, hd']
                rw [ed]
                refine ⟨hu, fv, cap, f, args.toArray, htar, hinv w3, (hcd w3 rfl).mono fun e2 u' w4 he => ?_⟩
                obtain ⟨s4, he⟩ := he
                cases e2 with
                | panicked c => exact he.elim
                | outgrown => exact he.elim
                | returned v =>
                  dsimp only at he ⊢
                  have s5 : Same w0 w4 := hs.trans (h3.trans (h3'.trans s4))
                  generalize settle u' = m at he ⊢
                  cases m with
                  | run => exact he.elim
                  | returning =>
                    have hk : Agrees (e'.kill (writes y)) a3.tmps := agrees_kill (a := { a' with defers := d :: a'.defers }) h1 hf
                    obtain ⟨v, g1, g2⟩ := retT_ok hk he
                    exact ⟨v, g1, s5, g2⟩
                  | panicking c => exact ⟨s5, he⟩
              have fin3 : ∀ (a3 : Act) (w3 : World), Fr (writes y) { a' with defers := d :: a'.defers } a3 → Same w' w3 →
                  CallsDH P f args .returning w3.heap (fun e u h'' => match e with
                    | .ret _ => settle u = .returning ∧ (retT P fn (e'.kill (writes y))).wp P (finOf R) h''
                    | .pan _ => False) → Leaves P fn a3.tmps (endOf w0 R) a3.defers .returning w3 := fun a3 w3 hf h3' hcd =>
                fin2 .returning a3 w3 (by simp) hf h3' (hcd.mono fun e2 u' h' he => by
                  cases e2 with
                  | ret v => dsimp only at he ⊢; rw [he.1]; exact he.2
                  | pan c => exact he)
              refine denCode_ok hm quiet0_rets y [] e' quiet0 _ { a' with defers := d :: a'.defers } w' _ h1 hb' h4 (fun e3 a3 w3 g1 g2 g3 g4 => ?_) ⟨fun id p hp => (by cases hp), fun e3 a3 w3 g1 g2 g3 g4 => ?_, fun ch a3 w3 g1 g2 g3 => ?_⟩
              · exact fin3 a3 w3 g2 g3 g4
              · exact fin3 a3 w3 g2 g3 g4
              · exact fin2 (.panicking ch) a3 w3 (by simp) g1 g2 g3
            · exact finp ch a' w' (h1.2.1.trans hd) (hs.trans h2) h3
          obtain ⟨ex, a', w', hq, harr⟩ := hir b k' cs
          exact ⟨ex, a', w', hq, .of_steps (.one step_region) harr⟩
      | _ => simp [deferRegion] at hdr
    · refine wp_seq (denCode_ok hm (retT_rets fn) x [] e _ (finOf R) a w _ hag hbx H (fun e' a' w' h1 h2 h3 h4 => ?_)
        ⟨fun id p hp => (by cases hp), fun e' a' w' h1 h2 h3 h4 => fin e' a' w' h1 (h2.2.1.trans hd) (hs.trans h3) h4, fun ch a' w' h1 h2 h3 => finp ch a' w' (h1.2.1.trans hd) (hs.trans h2) h3⟩)
      exact ihy e' a' w' h1 (hby.fr h2) (h2.2.1.trans hd) (hs.trans h3) h4
  | _ => exact base _

theorem args_agree {fn : Func} (args : List Value) : Agrees (envOf 0 args) (args.toArray ++ Array.replicate (fn.ntmps - args.toArray.size) undef) := by
  have := envOf_agrees args 0 [] (List.replicate (fn.ntmps - args.toArray.size) undef) rfl
  have e : ([] ++ args ++ List.replicate (fn.ntmps - args.toArray.size) undef).toArray = args.toArray ++ Array.replicate (fn.ntmps - args.toArray.size) undef := by
    apply Array.ext'
    simp
  rw [← e]; exact this
theorem args_bound {fn : Func} {c : Code} (args : List Value) (hall : ((writes c).all fun d => Nat.blt d fn.ntmps) = true) :
    Bound (writes c) { tmps := args.toArray ++ Array.replicate (fn.ntmps - args.toArray.size) undef, defers := [] } := by
  intro d hd
  have := List.all_eq_true.1 hall d hd
  have hlt : d < fn.ntmps := by simpa [Nat.blt_eq] using this
  simp
  omega

/-- A call of a function that may defer one. -/
theorem calls_ofD {f : FuncId} {fn : Func} {args : List Value} {h : Heap} {R : Fin → Heap → Prop} (hm : P.follows .mixedOrders = true) (hf : P.funcs[f]? = some fn)
    (H : (denFunD P fn args).wp P (finOf R) h) : CallsH P f args h R := by
  intro w hw
  subst hw
  unfold denFunD at H
  split at H
  · rename_i c hc
    cases hall : (writes c).all fun d => Nat.blt d fn.ntmps with
    | false => rw [hall] at H; exact H.elim
    | true =>
      rw [hall] at H
      simp only [cond_true] at H
      exact calls_of_wp_defers hf hc (denD_ok hm c _ _ w (args_agree args) (args_bound args hall) rfl (.refl w) H)
  · exact H.elim

/-- A deferred call of a function that defers and recovers nothing. -/
theorem callsDH_of {f : FuncId} {fn : Func} {args : List Value} {u : FrameMode} {h : Heap} {R : Fin → FrameMode → Heap → Prop} (hm : P.follows .mixedOrders = true) (hf : P.funcs[f]? = some fn)
    (H : (denFun P fn args).wp P (finOf fun e h' => R e u h') h) : CallsDH P f args u h R := by
  intro w hw
  subst hw
  unfold denFun at H
  split at H
  · rename_i c hc
    cases hall : (writes c).all fun d => Nat.blt d fn.ntmps with
    | false => rw [hall] at H; exact H.elim
    | true =>
      rw [hall] at H
      simp only [cond_true] at H
      refine CallsD.mono (callsD_of_wp (R := endOf w fun e h' => R e u h') hf hc ?_) (fun e u' w' he => ?_)
      · refine denCode_ok hm (retT_rets fn) c [] _ _ (finOf fun e h' => R e u h') _ w _ (args_agree args) (args_bound args hall) H (fun e' a' w' h1 h2 h3 h4 => ?_) ⟨fun id p hp => (by cases hp), fun e' a' w' h1 h2 h3 h4 => ?_, fun ch a' w' h1 h2 h3 => ⟨h1.2.1, h2, h3⟩⟩
        · obtain ⟨v, g1, g2⟩ := retT_ok h1 h4
          exact ⟨h2.2.1, v, g1, h3, g2⟩
        · obtain ⟨v, g1, g2⟩ := retT_ok h1 h4
          exact ⟨h2.2.1, v, g1, h3, g2⟩
      · obtain ⟨rfl, s, he⟩ := he
        refine ⟨s, ?_⟩
        cases e <;> exact he
  · exact H.elim

theorem wpS_rec {Q : Exit → Act → List Frame → World → Prop} {id : Nat} {o : Oper} {rest : List Nat} {a : Act} {cs cs' : List Frame} {w : World} {v : Value} (hr : List.range ops.size = 0 :: rest) (ho : ops[0]? = some o)
    (hw : Region.wanted o (yielded ops a.tmps) = true) (hx : (execOp a.eval o).run P w = .ok .recover w) (hrec : recoverD cs = some (v, cs') ∨ (recoverD cs = none ∧ v = .nilIface ∧ cs' = cs))
    (H : IR P ops rest (fun e a' w' => Q e a' cs' w') (a.put o.dst v) w) : (Code.region id ops false).wpS P Q a cs w := fun b k hb hro => by
  obtain ⟨e, a', w', hq, harr⟩ := H b k cs'
  refine ⟨e, a', cs', w', hq, .of_steps (.head step_region (.one (step_lone_go ?_))) harr⟩
  have hg := stepG_op (P := P) (b := b) (k := k) (cs := cs) (w := w) (rest := rest) ho hw
  have hfin : ∀ v, (b.at a (.inRegion ops (0 :: rest) :: k)).finish v = b.at (a.put o.dst v) (.inRegion ops rest :: k) := by
    intro v; rw [Frame.finish_at, ho]; rfl
  have hk : (b.at a (.inRegion ops (0 :: rest) :: k)).kind = .deferred := hb
  have htr := tryRecover_deferred hk cs
  rw [hr, hg, ← hfin]
  rcases hrec with hrec | ⟨hrec, rfl, rfl⟩
  · rw [hrec] at htr
    simp only [Frame.at] at htr ⊢
    simp [stepG.apply, hx, htr]
  · rw [hrec] at htr
    simp only [Frame.at] at htr ⊢
    simp [stepG.apply, hx, htr]

/-- A deferred call of a function that recovers first of all. -/
theorem callsDH_rec {f : FuncId} {fn : Func} {args : List Value} {u u' : FrameMode} {v : Value} {h : Heap} {R : Fin → FrameMode → Heap → Prop} (hm : P.follows .mixedOrders = true) (hf : P.funcs[f]? = some fn)
    (hu : (∃ older, u = .panicking ({ v, recovered := false } :: older) ∧ u' = .panicking ({ v, recovered := true } :: older)) ∨ (u = .returning ∧ v = .nilIface ∧ u' = u))
    (H : (denFunRec P fn v args).wp P (finOf fun e h' => R e u' h') h) : CallsDH P f args u h R := by
  intro w hw
  subst hw
  unfold denFunRec at H
  split at H
  · rename_i c hc
    cases hall : (writes c).all fun d => Nat.blt d fn.ntmps with
    | false => rw [hall] at H; exact H.elim
    | true =>
      rw [hall] at H
      simp only [cond_true] at H
      refine callsD_of_wpS hf hc fun c₀ cs hmode => ?_
      have hag := args_agree (fn := fn) args
      have hb := args_bound args hall
      generalize hA : ({ tmps := args.toArray ++ Array.replicate (fn.ntmps - args.toArray.size) undef, defers := [] } : Act) = A at hb ⊢
      have hag' : Agrees (envOf 0 args) A.tmps := by rw [← hA]; exact hag
      have hAd : A.defers = [] := by rw [← hA]
      have hrec : recoverD (c₀ :: cs) = some (v, { c₀ with mode := u' } :: cs) ∨ (recoverD (c₀ :: cs) = none ∧ v = .nilIface ∧ ({ c₀ with mode := u' } :: cs) = c₀ :: cs) := by
        rcases hu with ⟨older, rfl, rfl⟩ | ⟨rfl, rfl, rfl⟩
        · left; simp [recoverD, hmode]
        · right; refine ⟨by simp [recoverD, hmode], rfl, ?_⟩
          rw [← hmode]
      unfold denRec at H
      split at H
      case h_2 => exact H.elim
      rename_i id ops y
      split at H
      case h_2 => exact H.elim
      rename_i o ho hgs
      split at H
      case h_2 => exact H.elim
      rename_i cl hop hgd
      split at H
      case h_2 => exact H.elim
      rename_i hcl
      have hW : ∀ o ∈ ops, ∀ d, o.dst = some d → d ∈ ops.toList.filterMap (·.dst) := fun o ho d hd => List.mem_filterMap.2 ⟨o, Array.mem_toList_iff.2 ho, hd⟩
      have hbx : Bound (ops.toList.filterMap (·.dst)) A := fun d hd => hb d (List.mem_append_left _ hd)
      have hby : Bound (writes y) A := fun d hd => hb d (List.mem_append_right _ hd)
      have hdW : ∀ d, o.dst = some d → d ∈ ops.toList.filterMap (·.dst) := hW o (Array.mem_of_getElem? ho)
      have hsz : ops.size = (ops.size - 1) + 1 := by
        have : 0 < ops.size := by
          rcases Nat.eq_zero_or_pos ops.size with h0 | h0
          · simp [h0] at ho
          · exact h0
        omega
      have hrange : List.range ops.size = 0 :: List.range' 1 (ops.size - 1) := by
        rw [List.range_eq_range', hsz, List.range'_succ]
        simp
      have fin : ∀ (e' : Env) (a' : Act) (w' : World), Agrees e' a'.tmps → a'.defers = [] → Same w w' → (retT P fn e').wp P (finOf fun e h' => R e u' h') w'.heap →
          a'.defers = [] ∧ ∃ u2, ({ c₀ with mode := u' } :: cs : List Frame) = { c₀ with mode := u2 } :: cs ∧ ∃ v, (results fn a'.tmps).run P w' = .ok v w' ∧ (Same w w' ∧ R (.ret v) u2 w'.heap) := by
        intro e' a' w' h1 hd hs h4
        obtain ⟨v, g1, g2⟩ := retT_ok h1 h4
        exact ⟨hd, u', rfl, v, g1, hs, g2⟩
      have f0 : Fr (ops.toList.filterMap (·.dst)) A (A.put o.dst v) := Fr.put _ A _ _ hdW
      refine wpS_seq (wpS_rec hrange ho (by simp [Region.wanted, hgd]) (by simp only [execOp, hop, resolve, hcl, bind, pure, Sem.bind, Sem.run, invoke, builtin]) hrec ?_)
      refine denOps_ir hW (List.range' 1 (ops.size - 1)) _ _ w (hag'.put o.dst v fun d hd => hbx d (hdW d hd)) (hbx.fr f0) H (fun e' a' w' h1 h2 h3 h4 => ?_) (fun ch a' w' h1 h2 h3 => ?_)
      · have hd' : a'.defers = [] := h2.2.1.trans (f0.2.1.trans hAd)
        refine wpS_of_wp (denCode_ok hm (retT_rets fn) y [] e' _ (finOf fun e h' => R e u' h') a' w' _ h1 (hby.fr (f0.trans h2)) h4 (fun e2 a2 w2 g1 g2 g3 g4 => ?_) ⟨fun id p hp => (by cases hp), fun e2 a2 w2 g1 g2 g3 g4 => ?_, fun ch a2 w2 g2 g3 g4 => ?_⟩)
        · exact fin e2 a2 w2 g1 (g2.2.1.trans hd') (h3.trans g3) g4
        · exact fin e2 a2 w2 g1 (g2.2.1.trans hd') (h3.trans g3) g4
        · exact ⟨g2.2.1.trans hd', u', rfl, h3.trans g3, g4⟩
      · exact ⟨h1.2.1.trans (f0.2.1.trans hAd), u', rfl, h2, h3⟩
  · exact H.elim
end
end Go.Eng

namespace Go.Proofs.YteligkemohngiaaGreatDoor
open Go Go.Eng
set_option linter.unusedVariables false
set_option maxRecDepth 100000

/-- tronage/parse.New -/
noncomputable def parse_New_T (u_0 : Option Addr) (text_1 : ByteArray) (q_2 : Int × Int × Int × Int × Int × Int × Unit) : T :=
  T.new (.cells #[(.int .i64 q_2.1), (.int .i64 q_2.2.1), (.int .i64 q_2.2.2.1), (.int .i64 q_2.2.2.2.1), (.int .i64 q_2.2.2.2.2.1), (.int .i64 q_2.2.2.2.2.2.1)] 37 (0, 0)) fun r1 =>
  T.load (.int .i64) ⟨r1, 4, none⟩ fun (t2 : Int) =>
  T.load (.int .i64) ⟨r1, 0, none⟩ fun (t3 : Int) =>
  T.load (.int .i64) ⟨r1, 3, none⟩ fun (t4 : Int) =>
  T.load (.int .i64) ⟨r1, 5, none⟩ fun (t5 : Int) =>
  T.call 20 [(.int .i64 t3)] (.one (.atom .pointer)) fun (t6 : Option Addr) =>
  T.still ⟨r1, 5, none⟩ (.int .i64 t5) <|
  T.still ⟨r1, 3, none⟩ (.int .i64 t4) <|
  T.still ⟨r1, 4, none⟩ (.int .i64 t2) <|
  T.call 20 [(.int .i64 t4)] (.one (.atom .pointer)) fun (t7 : Option Addr) =>
  T.still ⟨r1, 5, none⟩ (.int .i64 t5) <|
  T.still ⟨r1, 4, none⟩ (.int .i64 t2) <|
  T.call 20 [(.int .i64 t5)] (.one (.atom .pointer)) fun (t8 : Option Addr) =>
  T.still ⟨r1, 4, none⟩ (.int .i64 t2) <|
  T.new (.cells #[(.pointer u_0), (.string text_1), (.int .i64 t2), (.pointer t6), (.pointer t7), (.pointer t8), (.pointer none), (.slice none 0 0), (.pointer none), (.pointer none), .nilFunc, (.int .i64 (0 : Int)), (.int .i64 (0 : Int)), (.int .i64 (0 : Int)), (.int .i64 (0 : Int)), (.int .i64 (0 : Int)), (.string { data := #[] }), (.slice none 0 0), (.slice none 0 0), (.int .i64 (0 : Int)), (.int .i64 (0 : Int))] 61 (0, 0)) fun r9 =>
  cond (Option.isNone u_0)
  (T.store ⟨r9, 11, none⟩ (.int .i64 (10 : Int)) <|
  T.store ⟨r9, 12, none⟩ (.int .i64 (0 : Int)) <|
  T.store ⟨r9, 13, none⟩ (.int .i64 (0 : Int)) <|
  T.store ⟨r9, 14, none⟩ (.int .i64 (0 : Int)) <|
  T.store ⟨r9, 15, none⟩ (.int .i64 (0 : Int)) <|
  T.store ⟨r9, 16, none⟩ (.string { data := #[] }) <|
  T.store ⟨r9, 17, none⟩ (.slice none 0 0) <|
  T.store ⟨r9, 18, none⟩ (.slice none 0 0) <|
  T.store ⟨r9, 19, none⟩ (.int .i64 (0 : Int)) <|
  T.store ⟨r9, 20, none⟩ (.int .i64 (0 : Int)) <|
  T.ret (.pointer (some ⟨r9, 0, none⟩)))
  (deref u_0 fun a10 =>
  T.load .slice a10 fun (t11 : Option Addr × Nat × Nat) =>
  T.load .slice (a10.add 1) fun (t12 : Option Addr × Nat × Nat) =>
  T.load .slice (a10.add 2) fun (t13 : Option Addr × Nat × Nat) =>
  T.load .string (a10.add 3) fun (t14 : ByteArray) =>
  T.load .slice (a10.add 4) fun (t15 : Option Addr × Nat × Nat) =>
  T.call 21 [(.agg #[(.slice t11.1 t11.2.1 t11.2.2), (.slice t12.1 t12.2.1 t12.2.2), (.slice t13.1 t13.2.1 t13.2.2), (.string t14), (.slice t15.1 t15.2.1 t15.2.2)]), (.string text_1)] (.one (.atom .pointer)) fun (t16 : Option Addr) =>
  T.store ⟨r9, 6, none⟩ (.pointer t16) <|
  T.store ⟨r9, 10, none⟩ (.func (.func 22) #[(.pointer (some ⟨r9, 0, none⟩))] #[]) <|
  T.ret (.pointer (some ⟨r9, 0, none⟩)))
theorem parse_New_den (u_0 : Option Addr) (text_1 : ByteArray) (q_2 : Int × Int × Int × Int × Int × Int × Unit) : denFun Tryz.prog Tryz.f10 [(.pointer u_0), (.string text_1), (.agg #[(.int .i64 q_2.1), (.int .i64 q_2.2.1), (.int .i64 q_2.2.2.1), (.int .i64 q_2.2.2.2.1), (.int .i64 q_2.2.2.2.2.1), (.int .i64 q_2.2.2.2.2.2.1)])] = parse_New_T u_0 text_1 q_2 := by kernel_rfl

/-- (*tronage/parse.Parser).Answer -/
noncomputable def parse_Parser_Answer_T (p_0 : Option Addr) : T :=
  T.new (.cells #[(.int .i64 (0 : Int)), (.int .i64 (0 : Int)), (.int .i64 (0 : Int)), (.int .i64 (0 : Int)), (.int .i64 (0 : Int)), (.string { data := #[] }), (.slice none 0 0), (.slice none 0 0), (.int .i64 (0 : Int)), (.int .i64 (0 : Int))] 33 (0, 0)) fun r1 =>
  deref p_0 fun a2 =>
  T.load (.int .i64) (a2.add 11) fun (t3 : Int) =>
  T.load (.int .i64) ((a2.add 11).add 1) fun (t4 : Int) =>
  T.load (.int .i64) ((a2.add 11).add 2) fun (t5 : Int) =>
  T.load (.int .i64) ((a2.add 11).add 3) fun (t6 : Int) =>
  T.load (.int .i64) ((a2.add 11).add 4) fun (t7 : Int) =>
  T.load .string ((a2.add 11).add 5) fun (t8 : ByteArray) =>
  T.load .slice ((a2.add 11).add 6) fun (t9 : Option Addr × Nat × Nat) =>
  T.load .slice ((a2.add 11).add 7) fun (t10 : Option Addr × Nat × Nat) =>
  T.load (.int .i64) ((a2.add 11).add 8) fun (t11 : Int) =>
  T.load (.int .i64) ((a2.add 11).add 9) fun (t12 : Int) =>
  T.new (.cells #[(.int .i64 (0 : Int)), (.int .i64 (0 : Int)), (.int .i64 (0 : Int)), (.int .i64 (0 : Int)), (.int .i64 (0 : Int)), (.string { data := #[] }), (.slice none 0 0), (.slice none 0 0), (.int .i64 (0 : Int)), (.int .i64 (0 : Int))] 33 (0, 0)) fun r13 =>
  T.store ⟨r13, 0, none⟩ (.int .i64 t3) <|
  T.store ⟨r13, 1, none⟩ (.int .i64 t4) <|
  T.store ⟨r13, 2, none⟩ (.int .i64 t5) <|
  T.store ⟨r13, 3, none⟩ (.int .i64 t6) <|
  T.store ⟨r13, 4, none⟩ (.int .i64 t7) <|
  T.store ⟨r13, 5, none⟩ (.string t8) <|
  T.store ⟨r13, 6, none⟩ (.slice t9.1 t9.2.1 t9.2.2) <|
  T.store ⟨r13, 7, none⟩ (.slice t10.1 t10.2.1 t10.2.2) <|
  T.store ⟨r13, 8, none⟩ (.int .i64 t11) <|
  T.store ⟨r13, 9, none⟩ (.int .i64 t12) <|
  T.load .slice ⟨r13, 7, none⟩ fun (t14 : Option Addr × Nat × Nat) =>
  T.call 23 [(.slice t14.1 t14.2.1 t14.2.2)] (.one (.atom .slice)) fun (t15 : Option Addr × Nat × Nat) =>
  T.store ⟨r13, 7, none⟩ (.slice t15.1 t15.2.1 t15.2.2) <|
  T.load (.int .i64) ⟨r13, 0, none⟩ fun (t16 : Int) =>
  T.load (.int .i64) ⟨r13, 1, none⟩ fun (t17 : Int) =>
  T.load (.int .i64) ⟨r13, 2, none⟩ fun (t18 : Int) =>
  T.load (.int .i64) ⟨r13, 3, none⟩ fun (t19 : Int) =>
  T.load (.int .i64) ⟨r13, 4, none⟩ fun (t20 : Int) =>
  T.load .string ⟨r13, 5, none⟩ fun (t21 : ByteArray) =>
  T.load .slice ⟨r13, 6, none⟩ fun (t22 : Option Addr × Nat × Nat) =>
  T.load .slice ⟨r13, 7, none⟩ fun (t23 : Option Addr × Nat × Nat) =>
  T.load (.int .i64) ⟨r13, 8, none⟩ fun (t24 : Int) =>
  T.load (.int .i64) ⟨r13, 9, none⟩ fun (t25 : Int) =>
  T.store ⟨r1, 0, none⟩ (.int .i64 t16) <|
  T.store ⟨r1, 1, none⟩ (.int .i64 t17) <|
  T.store ⟨r1, 2, none⟩ (.int .i64 t18) <|
  T.store ⟨r1, 3, none⟩ (.int .i64 t19) <|
  T.store ⟨r1, 4, none⟩ (.int .i64 t20) <|
  T.store ⟨r1, 5, none⟩ (.string t21) <|
  T.store ⟨r1, 6, none⟩ (.slice t22.1 t22.2.1 t22.2.2) <|
  T.store ⟨r1, 7, none⟩ (.slice t23.1 t23.2.1 t23.2.2) <|
  T.store ⟨r1, 8, none⟩ (.int .i64 t24) <|
  T.store ⟨r1, 9, none⟩ (.int .i64 t25) <|
  T.load (.int .i64) ⟨r1, 0, none⟩ fun (res26 : Int) =>
  T.load (.int .i64) ⟨r1, 1, none⟩ fun (res27 : Int) =>
  T.load (.int .i64) ⟨r1, 2, none⟩ fun (res28 : Int) =>
  T.load (.int .i64) ⟨r1, 3, none⟩ fun (res29 : Int) =>
  T.load (.int .i64) ⟨r1, 4, none⟩ fun (res30 : Int) =>
  T.load .string ⟨r1, 5, none⟩ fun (res31 : ByteArray) =>
  T.load .slice ⟨r1, 6, none⟩ fun (res32 : Option Addr × Nat × Nat) =>
  T.load .slice ⟨r1, 7, none⟩ fun (res33 : Option Addr × Nat × Nat) =>
  T.load (.int .i64) ⟨r1, 8, none⟩ fun (res34 : Int) =>
  T.load (.int .i64) ⟨r1, 9, none⟩ fun (res35 : Int) =>
  T.ret (.agg #[(.int .i64 res26), (.int .i64 res27), (.int .i64 res28), (.int .i64 res29), (.int .i64 res30), (.string res31), (.slice res32.1 res32.2.1 res32.2.2), (.slice res33.1 res33.2.1 res33.2.2), (.int .i64 res34), (.int .i64 res35)])
theorem parse_Parser_Answer_den (p_0 : Option Addr) : denFun Tryz.prog Tryz.f11 [(.pointer p_0)] = parse_Parser_Answer_T p_0 := by kernel_rfl

/-- (*tronage/parse.Parser).Step -/
noncomputable def parse_Parser_Step_T (p_0 : Option Addr) : T :=
  deref p_0 fun a1 =>
  T.load (.int .i64) (a1.add 11) fun (t2 : Int) =>
  cond (t2 != (0 : Int))
  (T.ret (.bool true))
  (deref p_0 fun a3 =>
  T.load .pointer (a3.add 3) fun (t4 : Option Addr) =>
  T.call 24 [(.pointer t4), (.int .i64 (1 : Int))] (.one (.atom (.int .i64))) fun (t5 : Int) =>
  cond (t5 != (0 : Int))
  (deref p_0 fun a6 =>
  T.store (a6.add 11) (.int .i64 (9 : Int)) <|
  T.store ((a6.add 11).add 1) (.int .i64 (0 : Int)) <|
  T.store ((a6.add 11).add 2) (.int .i64 (0 : Int)) <|
  T.store ((a6.add 11).add 3) (.int .i64 (0 : Int)) <|
  T.store ((a6.add 11).add 4) (.int .i64 (0 : Int)) <|
  T.store ((a6.add 11).add 5) (.string { data := #[] }) <|
  T.store ((a6.add 11).add 6) (.slice none 0 0) <|
  T.store ((a6.add 11).add 7) (.slice none 0 0) <|
  T.store ((a6.add 11).add 8) (.int .i64 (0 : Int)) <|
  T.store ((a6.add 11).add 9) (.int .i64 (0 : Int)) <|
  T.ret (.bool true))
  (deref p_0 fun a7 =>
  T.load .func (a7.add 10) fun (t8 : Option (Fn × Array Value × Array Value)) =>
  callV false Tryz.prog (Atom.val .func t8) #[] fun (t9 : Value) =>
  deref p_0 fun a10 =>
  T.load (.int .i64) (a10.add 11) fun (t11 : Int) =>
  T.ret (.bool (t11 != (0 : Int)))))
theorem parse_Parser_Step_den (p_0 : Option Addr) : denFun Tryz.prog Tryz.f12 [(.pointer p_0)] = parse_Parser_Step_T p_0 := by kernel_rfl

/-- (*tronage/parse.Parser).Steps -/
noncomputable def parse_Parser_Steps_T (p_0 : Option Addr) : T :=
  deref p_0 fun a1 =>
  T.load .pointer (a1.add 3) fun (t2 : Option Addr) =>
  T.call 25 [(.pointer t2)] (.one (.atom (.int .i64))) fun (t3 : Int) =>
  T.ret (.int .i64 t3)
theorem parse_Parser_Steps_den (p_0 : Option Addr) : denFun Tryz.prog Tryz.f13 [(.pointer p_0)] = parse_Parser_Steps_T p_0 := by kernel_rfl

/-- tronage/parse.Parse -/
noncomputable def parse_Parse_T (u_0 : Option Addr) (text_1 : ByteArray) (q_2 : Int × Int × Int × Int × Int × Int × Unit) : T :=
  T.new (.cells #[(.int .i64 q_2.1), (.int .i64 q_2.2.1), (.int .i64 q_2.2.2.1), (.int .i64 q_2.2.2.2.1), (.int .i64 q_2.2.2.2.2.1), (.int .i64 q_2.2.2.2.2.2.1)] 37 (0, 0)) fun r1 =>
  T.new (.cells #[(.int .i64 (0 : Int)), (.int .i64 (0 : Int)), (.int .i64 (0 : Int)), (.int .i64 (0 : Int)), (.int .i64 (0 : Int)), (.string { data := #[] }), (.slice none 0 0), (.slice none 0 0), (.int .i64 (0 : Int)), (.int .i64 (0 : Int))] 33 (0, 0)) fun r2 =>
  T.load (.int .i64) ⟨r1, 0, none⟩ fun (t3 : Int) =>
  T.load (.int .i64) ⟨r1, 1, none⟩ fun (t4 : Int) =>
  T.load (.int .i64) ⟨r1, 2, none⟩ fun (t5 : Int) =>
  T.load (.int .i64) ⟨r1, 3, none⟩ fun (t6 : Int) =>
  T.load (.int .i64) ⟨r1, 4, none⟩ fun (t7 : Int) =>
  T.load (.int .i64) ⟨r1, 5, none⟩ fun (t8 : Int) =>
  T.call 10 [(.pointer u_0), (.string text_1), (.agg #[(.int .i64 t3), (.int .i64 t4), (.int .i64 t5), (.int .i64 t6), (.int .i64 t7), (.int .i64 t8)])] (.one (.atom .pointer)) fun (t9 : Option Addr) =>
  T.block 0 []
  (T.loop [] [] fun (z11 : Unit) =>
  T.call 12 [(.pointer t9)] (.one (.atom .bool)) fun (t12 : Bool) =>
  cond (!t12)
  (T.out [])
  (T.brk 0 [])) fun (z10 : Unit) =>
  T.call 11 [(.pointer t9)] (.one (.agg [(.int .i64), (.int .i64), (.int .i64), (.int .i64), (.int .i64), .string, .slice, .slice, (.int .i64), (.int .i64)])) fun (t13 : Int × Int × Int × Int × Int × ByteArray × (Option Addr × Nat × Nat) × (Option Addr × Nat × Nat) × Int × Int × Unit) =>
  T.store ⟨r2, 0, none⟩ (.int .i64 t13.1) <|
  T.store ⟨r2, 1, none⟩ (.int .i64 t13.2.1) <|
  T.store ⟨r2, 2, none⟩ (.int .i64 t13.2.2.1) <|
  T.store ⟨r2, 3, none⟩ (.int .i64 t13.2.2.2.1) <|
  T.store ⟨r2, 4, none⟩ (.int .i64 t13.2.2.2.2.1) <|
  T.store ⟨r2, 5, none⟩ (.string t13.2.2.2.2.2.1) <|
  T.store ⟨r2, 6, none⟩ (.slice t13.2.2.2.2.2.2.1.1 t13.2.2.2.2.2.2.1.2.1 t13.2.2.2.2.2.2.1.2.2) <|
  T.store ⟨r2, 7, none⟩ (.slice t13.2.2.2.2.2.2.2.1.1 t13.2.2.2.2.2.2.2.1.2.1 t13.2.2.2.2.2.2.2.1.2.2) <|
  T.store ⟨r2, 8, none⟩ (.int .i64 t13.2.2.2.2.2.2.2.2.1) <|
  T.store ⟨r2, 9, none⟩ (.int .i64 t13.2.2.2.2.2.2.2.2.2.1) <|
  T.load (.int .i64) ⟨r2, 0, none⟩ fun (res14 : Int) =>
  T.load (.int .i64) ⟨r2, 1, none⟩ fun (res15 : Int) =>
  T.load (.int .i64) ⟨r2, 2, none⟩ fun (res16 : Int) =>
  T.load (.int .i64) ⟨r2, 3, none⟩ fun (res17 : Int) =>
  T.load (.int .i64) ⟨r2, 4, none⟩ fun (res18 : Int) =>
  T.load .string ⟨r2, 5, none⟩ fun (res19 : ByteArray) =>
  T.load .slice ⟨r2, 6, none⟩ fun (res20 : Option Addr × Nat × Nat) =>
  T.load .slice ⟨r2, 7, none⟩ fun (res21 : Option Addr × Nat × Nat) =>
  T.load (.int .i64) ⟨r2, 8, none⟩ fun (res22 : Int) =>
  T.load (.int .i64) ⟨r2, 9, none⟩ fun (res23 : Int) =>
  T.ret (.agg #[(.int .i64 res14), (.int .i64 res15), (.int .i64 res16), (.int .i64 res17), (.int .i64 res18), (.string res19), (.slice res20.1 res20.2.1 res20.2.2), (.slice res21.1 res21.2.1 res21.2.2), (.int .i64 res22), (.int .i64 res23)])
theorem parse_Parse_den (u_0 : Option Addr) (text_1 : ByteArray) (q_2 : Int × Int × Int × Int × Int × Int × Unit) : denFun Tryz.prog Tryz.f8 [(.pointer u_0), (.string text_1), (.agg #[(.int .i64 q_2.1), (.int .i64 q_2.2.1), (.int .i64 q_2.2.2.1), (.int .i64 q_2.2.2.2.1), (.int .i64 q_2.2.2.2.2.1), (.int .i64 q_2.2.2.2.2.2.1)])] = parse_Parse_T u_0 text_1 q_2 := by kernel_rfl

/-- tronage/meter.New -/
noncomputable def meter_New_T (limit_0 : Int) : T :=
  T.call 32 [(.int .i64 limit_0)] (.one (.atom (.int .i64))) fun (t1 : Int) =>
  T.new (.cells #[(.int .i64 t1), (.int .i64 (0 : Int)), (.int .i64 (0 : Int))] 96 (0, 0)) fun r2 =>
  T.ret (.pointer (some ⟨r2, 0, none⟩))
theorem meter_New_den (limit_0 : Int) : denFun Tryz.prog Tryz.f20 [(.int .i64 limit_0)] = meter_New_T limit_0 := by kernel_rfl

/-- (*tronage/meter.Meter).Used -/
noncomputable def meter_Meter_Used_T (m_0 : Option Addr) : T :=
  deref m_0 fun a1 =>
  T.load (.int .i64) (a1.add 1) fun (t2 : Int) =>
  T.ret (.int .i64 t2)
theorem meter_Meter_Used_den (m_0 : Option Addr) : denFun Tryz.prog Tryz.f25 [(.pointer m_0)] = meter_Meter_Used_T m_0 := by kernel_rfl

/-- tronage/meter.held -/
noncomputable def meter_held_T (n_0 : Int) : T :=
  T.ret (.int .i64 (if (if (1099511627776 : Int) < n_0 then (1099511627776 : Int) else n_0) > (0 : Int) then (if (1099511627776 : Int) < n_0 then (1099511627776 : Int) else n_0) else (0 : Int)))
theorem meter_held_den (n_0 : Int) : denFun Tryz.prog Tryz.f32 [(.int .i64 n_0)] = meter_held_T n_0 := by kernel_rfl

end Go.Proofs.YteligkemohngiaaGreatDoor

namespace Go.Proofs.YteligkemohngiaaGreatDoor
open Go Go.Eng
set_option linter.unusedVariables false
set_option maxRecDepth 100000

/-- tronage/tronagelaw24.ParseNone -/
noncomputable def tronagelaw24_ParseNone_T (text_0 : ByteArray) (q_1 : Int × Int × Int × Int × Int × Int × Unit) (more_2 : Int) : T :=
  T.new (.cells #[(.int .i64 q_1.1), (.int .i64 q_1.2.1), (.int .i64 q_1.2.2.1), (.int .i64 q_1.2.2.2.1), (.int .i64 q_1.2.2.2.2.1), (.int .i64 q_1.2.2.2.2.2.1)] 37 (0, 0)) fun r1 =>
  T.call 5 [] (.one (.atom .bool)) fun (t2 : Bool) =>
  cond (decide (((ByteArray.size text_0 : Nat) : Int) > (60 : Int)))
  (T.ret (.bool t2))
  (T.load (.int .i64) ⟨r1, 0, none⟩ fun (t3 : Int) =>
  T.load (.int .i64) ⟨r1, 1, none⟩ fun (t4 : Int) =>
  T.load (.int .i64) ⟨r1, 2, none⟩ fun (t5 : Int) =>
  T.load (.int .i64) ⟨r1, 3, none⟩ fun (t6 : Int) =>
  T.load (.int .i64) ⟨r1, 4, none⟩ fun (t7 : Int) =>
  T.load (.int .i64) ⟨r1, 5, none⟩ fun (t8 : Int) =>
  T.call 10 [(.pointer none), (.string text_0), (.agg #[(.int .i64 t3), (.int .i64 t4), (.int .i64 t5), (.int .i64 t6), (.int .i64 t7), (.int .i64 t8)])] (.one (.atom .pointer)) fun (t9 : Option Addr) =>
  T.call 7 [] (.one (.agg [(.int .i64), (.int .i64), (.int .i64), (.int .i64), (.int .i64), (.int .i64)])) fun (t10 : Int × Int × Int × Int × Int × Int × Unit) =>
  T.call 6 [(.string { data := #[37, 116, 111, 107, 101, 110, 32, 78, 32, 91, 48, 45, 57, 93, 43, 32, 37, 116, 111, 107, 101, 110, 32, 80, 32, 34, 43, 34, 32, 37, 108, 101, 102, 116, 32, 80, 32, 37, 37, 32, 69, 32, 58, 32, 69, 32, 80, 32, 69, 32, 123, 36, 49, 32, 43, 32, 36, 51, 125, 32, 124, 32, 78, 32, 59] }), (.agg #[(.int .i64 t10.1), (.int .i64 t10.2.1), (.int .i64 t10.2.2.1), (.int .i64 t10.2.2.2.1), (.int .i64 t10.2.2.2.2.1), (.int .i64 t10.2.2.2.2.2.1)])] (.tuple [(.atom .pointer), (.agg [(.int .i64), (.int .i64), (.int .i64), (.int .i64), (.int .i64), .string, .slice, .slice, (.int .i64), (.int .i64)])]) fun (t11 : (Option Addr) × (Int × Int × Int × Int × Int × ByteArray × (Option Addr × Nat × Nat) × (Option Addr × Nat × Nat) × Int × Int × Unit) × Unit) =>
  T.new (.cells #[(.int .i64 (0 : Int)), (.int .i64 (0 : Int)), (.int .i64 (0 : Int)), (.int .i64 (0 : Int)), (.int .i64 (0 : Int)), (.string { data := #[] }), (.slice none 0 0), (.slice none 0 0), (.int .i64 (0 : Int)), (.int .i64 (0 : Int))] 33 (0, 0)) fun r12 =>
  T.store ⟨r12, 0, none⟩ (.int .i64 t11.2.1.1) <|
  T.store ⟨r12, 1, none⟩ (.int .i64 t11.2.1.2.1) <|
  T.store ⟨r12, 2, none⟩ (.int .i64 t11.2.1.2.2.1) <|
  T.store ⟨r12, 3, none⟩ (.int .i64 t11.2.1.2.2.2.1) <|
  T.store ⟨r12, 4, none⟩ (.int .i64 t11.2.1.2.2.2.2.1) <|
  T.store ⟨r12, 5, none⟩ (.string t11.2.1.2.2.2.2.2.1) <|
  T.store ⟨r12, 6, none⟩ (.slice t11.2.1.2.2.2.2.2.2.1.1 t11.2.1.2.2.2.2.2.2.1.2.1 t11.2.1.2.2.2.2.2.2.1.2.2) <|
  T.store ⟨r12, 7, none⟩ (.slice t11.2.1.2.2.2.2.2.2.2.1.1 t11.2.1.2.2.2.2.2.2.2.1.2.1 t11.2.1.2.2.2.2.2.2.2.1.2.2) <|
  T.store ⟨r12, 8, none⟩ (.int .i64 t11.2.1.2.2.2.2.2.2.2.2.1) <|
  T.store ⟨r12, 9, none⟩ (.int .i64 t11.2.1.2.2.2.2.2.2.2.2.2.1) <|
  T.join [(.atom .bool)]
  (cond (Option.isNone t9)
  (T.out [(.bool true)])
  (T.out [(.bool (Option.isNone t11.1))])) fun (z13 : Bool × Unit) =>
  cond z13.1
  (T.ret (.bool false))
  (T.call 11 [(.pointer t9)] (.one (.agg [(.int .i64), (.int .i64), (.int .i64), (.int .i64), (.int .i64), .string, .slice, .slice, (.int .i64), (.int .i64)])) fun (t14 : Int × Int × Int × Int × Int × ByteArray × (Option Addr × Nat × Nat) × (Option Addr × Nat × Nat) × Int × Int × Unit) =>
  T.new (.cells #[(.int .i64 (0 : Int)), (.int .i64 (0 : Int)), (.int .i64 (0 : Int)), (.int .i64 (0 : Int)), (.int .i64 (0 : Int)), (.string { data := #[] }), (.slice none 0 0), (.slice none 0 0), (.int .i64 (0 : Int)), (.int .i64 (0 : Int))] 33 (0, 0)) fun r15 =>
  T.store ⟨r15, 0, none⟩ (.int .i64 t14.1) <|
  T.store ⟨r15, 1, none⟩ (.int .i64 t14.2.1) <|
  T.store ⟨r15, 2, none⟩ (.int .i64 t14.2.2.1) <|
  T.store ⟨r15, 3, none⟩ (.int .i64 t14.2.2.2.1) <|
  T.store ⟨r15, 4, none⟩ (.int .i64 t14.2.2.2.2.1) <|
  T.store ⟨r15, 5, none⟩ (.string t14.2.2.2.2.2.1) <|
  T.store ⟨r15, 6, none⟩ (.slice t14.2.2.2.2.2.2.1.1 t14.2.2.2.2.2.2.1.2.1 t14.2.2.2.2.2.2.1.2.2) <|
  T.store ⟨r15, 7, none⟩ (.slice t14.2.2.2.2.2.2.2.1.1 t14.2.2.2.2.2.2.2.1.2.1 t14.2.2.2.2.2.2.2.1.2.2) <|
  T.store ⟨r15, 8, none⟩ (.int .i64 t14.2.2.2.2.2.2.2.2.1) <|
  T.store ⟨r15, 9, none⟩ (.int .i64 t14.2.2.2.2.2.2.2.2.2.1) <|
  T.sem (Instr.makeSlice 46 (.int .i64 (IntKind.wrap .i64 ((1001 : Int) + (IntKind.wrap .i64 more_2)))) (.int .i64 (IntKind.wrap .i64 ((1001 : Int) + (IntKind.wrap .i64 more_2))))) (.one (.atom .slice)) fun (t16 : Option Addr × Nat × Nat) =>
  T.sem (convert 46 9 (.slice t16.1 t16.2.1 t16.2.2)) (.one (.atom .string)) fun (t17 : ByteArray) =>
  chk (((ByteArray.size t17 + ByteArray.size text_0 : Nat) : Int) ≤ IntKind.max .i64) <|
  T.call 7 [] (.one (.agg [(.int .i64), (.int .i64), (.int .i64), (.int .i64), (.int .i64), (.int .i64)])) fun (t18 : Int × Int × Int × Int × Int × Int × Unit) =>
  T.call 8 [(.pointer t11.1), (.string (t17 ++ text_0)), (.agg #[(.int .i64 t18.1), (.int .i64 t18.2.1), (.int .i64 t18.2.2.1), (.int .i64 t18.2.2.2.1), (.int .i64 t18.2.2.2.2.1), (.int .i64 t18.2.2.2.2.2.1)])] (.one (.agg [(.int .i64), (.int .i64), (.int .i64), (.int .i64), (.int .i64), .string, .slice, .slice, (.int .i64), (.int .i64)])) fun (t19 : Int × Int × Int × Int × Int × ByteArray × (Option Addr × Nat × Nat) × (Option Addr × Nat × Nat) × Int × Int × Unit) =>
  T.new (.cells #[(.int .i64 (0 : Int)), (.int .i64 (0 : Int)), (.int .i64 (0 : Int)), (.int .i64 (0 : Int)), (.int .i64 (0 : Int)), (.string { data := #[] }), (.slice none 0 0), (.slice none 0 0), (.int .i64 (0 : Int)), (.int .i64 (0 : Int))] 33 (0, 0)) fun r20 =>
  T.store ⟨r20, 0, none⟩ (.int .i64 t19.1) <|
  T.store ⟨r20, 1, none⟩ (.int .i64 t19.2.1) <|
  T.store ⟨r20, 2, none⟩ (.int .i64 t19.2.2.1) <|
  T.store ⟨r20, 3, none⟩ (.int .i64 t19.2.2.2.1) <|
  T.store ⟨r20, 4, none⟩ (.int .i64 t19.2.2.2.2.1) <|
  T.store ⟨r20, 5, none⟩ (.string t19.2.2.2.2.2.1) <|
  T.store ⟨r20, 6, none⟩ (.slice t19.2.2.2.2.2.2.1.1 t19.2.2.2.2.2.2.1.2.1 t19.2.2.2.2.2.2.1.2.2) <|
  T.store ⟨r20, 7, none⟩ (.slice t19.2.2.2.2.2.2.2.1.1 t19.2.2.2.2.2.2.2.1.2.1 t19.2.2.2.2.2.2.2.1.2.2) <|
  T.store ⟨r20, 8, none⟩ (.int .i64 t19.2.2.2.2.2.2.2.2.1) <|
  T.store ⟨r20, 9, none⟩ (.int .i64 t19.2.2.2.2.2.2.2.2.2.1) <|
  T.call 8 [(.pointer t11.1), (.string (t17 ++ text_0)), (.agg #[(.int .i64 (1 : Int)), (.int .i64 (0 : Int)), (.int .i64 (0 : Int)), (.int .i64 (0 : Int)), (.int .i64 (0 : Int)), (.int .i64 (0 : Int))])] (.one (.agg [(.int .i64), (.int .i64), (.int .i64), (.int .i64), (.int .i64), .string, .slice, .slice, (.int .i64), (.int .i64)])) fun (t21 : Int × Int × Int × Int × Int × ByteArray × (Option Addr × Nat × Nat) × (Option Addr × Nat × Nat) × Int × Int × Unit) =>
  T.new (.cells #[(.int .i64 (0 : Int)), (.int .i64 (0 : Int)), (.int .i64 (0 : Int)), (.int .i64 (0 : Int)), (.int .i64 (0 : Int)), (.string { data := #[] }), (.slice none 0 0), (.slice none 0 0), (.int .i64 (0 : Int)), (.int .i64 (0 : Int))] 33 (0, 0)) fun r22 =>
  T.store ⟨r22, 0, none⟩ (.int .i64 t21.1) <|
  T.store ⟨r22, 1, none⟩ (.int .i64 t21.2.1) <|
  T.store ⟨r22, 2, none⟩ (.int .i64 t21.2.2.1) <|
  T.store ⟨r22, 3, none⟩ (.int .i64 t21.2.2.2.1) <|
  T.store ⟨r22, 4, none⟩ (.int .i64 t21.2.2.2.2.1) <|
  T.store ⟨r22, 5, none⟩ (.string t21.2.2.2.2.2.1) <|
  T.store ⟨r22, 6, none⟩ (.slice t21.2.2.2.2.2.2.1.1 t21.2.2.2.2.2.2.1.2.1 t21.2.2.2.2.2.2.1.2.2) <|
  T.store ⟨r22, 7, none⟩ (.slice t21.2.2.2.2.2.2.2.1.1 t21.2.2.2.2.2.2.2.1.2.1 t21.2.2.2.2.2.2.2.1.2.2) <|
  T.store ⟨r22, 8, none⟩ (.int .i64 t21.2.2.2.2.2.2.2.2.1) <|
  T.store ⟨r22, 9, none⟩ (.int .i64 t21.2.2.2.2.2.2.2.2.2.1) <|
  T.new (.cells #[(.int .i64 (0 : Int)), (.int .i64 (0 : Int)), (.int .i64 (0 : Int)), (.int .i64 (0 : Int)), (.int .i64 (0 : Int)), (.string { data := #[] }), (.slice none 0 0), (.slice none 0 0), (.int .i64 (0 : Int)), (.int .i64 (0 : Int))] 33 (0, 0)) fun r23 =>
  T.store ⟨r23, 0, none⟩ (.int .i64 (8 : Int)) <|
  T.store ⟨r23, 1, none⟩ (.int .i64 (12 : Int)) <|
  T.store ⟨r23, 2, none⟩ (.int .i64 (0 : Int)) <|
  T.store ⟨r23, 3, none⟩ (.int .i64 (0 : Int)) <|
  T.store ⟨r23, 4, none⟩ (.int .i64 (0 : Int)) <|
  T.store ⟨r23, 5, none⟩ (.string { data := #[] }) <|
  T.store ⟨r23, 6, none⟩ (.slice none 0 0) <|
  T.store ⟨r23, 7, none⟩ (.slice none 0 0) <|
  T.store ⟨r23, 8, none⟩ (.int .i64 (0 : Int)) <|
  T.store ⟨r23, 9, none⟩ (.int .i64 (0 : Int)) <|
  T.join [(.atom .bool)]
  (cond t2
  (T.load (.int .i64) ⟨r15, 0, none⟩ fun (t25 : Int) =>
  T.load (.int .i64) ⟨r15, 1, none⟩ fun (t26 : Int) =>
  T.load (.int .i64) ⟨r15, 2, none⟩ fun (t27 : Int) =>
  T.load (.int .i64) ⟨r15, 3, none⟩ fun (t28 : Int) =>
  T.load (.int .i64) ⟨r15, 4, none⟩ fun (t29 : Int) =>
  T.load .string ⟨r15, 5, none⟩ fun (t30 : ByteArray) =>
  T.load .slice ⟨r15, 6, none⟩ fun (t31 : Option Addr × Nat × Nat) =>
  T.load .slice ⟨r15, 7, none⟩ fun (t32 : Option Addr × Nat × Nat) =>
  T.load (.int .i64) ⟨r15, 8, none⟩ fun (t33 : Int) =>
  T.load (.int .i64) ⟨r15, 9, none⟩ fun (t34 : Int) =>
  T.call 9 [(.agg #[(.int .i64 t25), (.int .i64 t26), (.int .i64 t27), (.int .i64 t28), (.int .i64 t29), (.string t30), (.slice t31.1 t31.2.1 t31.2.2), (.slice t32.1 t32.2.1 t32.2.2), (.int .i64 t33), (.int .i64 t34)]), (.agg #[(.int .i64 (10 : Int)), (.int .i64 (0 : Int)), (.int .i64 (0 : Int)), (.int .i64 (0 : Int)), (.int .i64 (0 : Int)), (.string { data := #[] }), (.slice none 0 0), (.slice none 0 0), (.int .i64 (0 : Int)), (.int .i64 (0 : Int))])] (.one (.atom .bool)) fun (t35 : Bool) =>
  cond t35
  (T.call 12 [(.pointer t9)] (.one (.atom .bool)) fun (t36 : Bool) =>
  cond t36
  (T.call 13 [(.pointer t9)] (.one (.atom (.int .i64))) fun (t37 : Int) =>
  cond (t37 == (0 : Int))
  (T.load (.int .i64) ⟨r1, 0, none⟩ fun (t38 : Int) =>
  T.load (.int .i64) ⟨r1, 1, none⟩ fun (t39 : Int) =>
  T.load (.int .i64) ⟨r1, 2, none⟩ fun (t40 : Int) =>
  T.load (.int .i64) ⟨r1, 3, none⟩ fun (t41 : Int) =>
  T.load (.int .i64) ⟨r1, 4, none⟩ fun (t42 : Int) =>
  T.load (.int .i64) ⟨r1, 5, none⟩ fun (t43 : Int) =>
  T.load (.int .i64) ⟨r15, 0, none⟩ fun (t44 : Int) =>
  T.load (.int .i64) ⟨r15, 1, none⟩ fun (t45 : Int) =>
  T.load (.int .i64) ⟨r15, 2, none⟩ fun (t46 : Int) =>
  T.load (.int .i64) ⟨r15, 3, none⟩ fun (t47 : Int) =>
  T.load (.int .i64) ⟨r15, 4, none⟩ fun (t48 : Int) =>
  T.load .string ⟨r15, 5, none⟩ fun (t49 : ByteArray) =>
  T.load .slice ⟨r15, 6, none⟩ fun (t50 : Option Addr × Nat × Nat) =>
  T.load .slice ⟨r15, 7, none⟩ fun (t51 : Option Addr × Nat × Nat) =>
  T.load (.int .i64) ⟨r15, 8, none⟩ fun (t52 : Int) =>
  T.load (.int .i64) ⟨r15, 9, none⟩ fun (t53 : Int) =>
  T.call 8 [(.pointer none), (.string text_0), (.agg #[(.int .i64 t38), (.int .i64 t39), (.int .i64 t40), (.int .i64 t41), (.int .i64 t42), (.int .i64 t43)])] (.one (.agg [(.int .i64), (.int .i64), (.int .i64), (.int .i64), (.int .i64), .string, .slice, .slice, (.int .i64), (.int .i64)])) fun (t54 : Int × Int × Int × Int × Int × ByteArray × (Option Addr × Nat × Nat) × (Option Addr × Nat × Nat) × Int × Int × Unit) =>
  T.still ⟨r15, 0, none⟩ (.int .i64 t44) <|
  T.still ⟨r15, 1, none⟩ (.int .i64 t45) <|
  T.still ⟨r15, 2, none⟩ (.int .i64 t46) <|
  T.still ⟨r15, 3, none⟩ (.int .i64 t47) <|
  T.still ⟨r15, 4, none⟩ (.int .i64 t48) <|
  T.still ⟨r15, 5, none⟩ (.string t49) <|
  T.still ⟨r15, 6, none⟩ (.slice t50.1 t50.2.1 t50.2.2) <|
  T.still ⟨r15, 7, none⟩ (.slice t51.1 t51.2.1 t51.2.2) <|
  T.still ⟨r15, 8, none⟩ (.int .i64 t52) <|
  T.still ⟨r15, 9, none⟩ (.int .i64 t53) <|
  T.call 9 [(.agg #[(.int .i64 t54.1), (.int .i64 t54.2.1), (.int .i64 t54.2.2.1), (.int .i64 t54.2.2.2.1), (.int .i64 t54.2.2.2.2.1), (.string t54.2.2.2.2.2.1), (.slice t54.2.2.2.2.2.2.1.1 t54.2.2.2.2.2.2.1.2.1 t54.2.2.2.2.2.2.1.2.2), (.slice t54.2.2.2.2.2.2.2.1.1 t54.2.2.2.2.2.2.2.1.2.1 t54.2.2.2.2.2.2.2.1.2.2), (.int .i64 t54.2.2.2.2.2.2.2.2.1), (.int .i64 t54.2.2.2.2.2.2.2.2.2.1)]), (.agg #[(.int .i64 t44), (.int .i64 t45), (.int .i64 t46), (.int .i64 t47), (.int .i64 t48), (.string t49), (.slice t50.1 t50.2.1 t50.2.2), (.slice t51.1 t51.2.1 t51.2.2), (.int .i64 t52), (.int .i64 t53)])] (.one (.atom .bool)) fun (t55 : Bool) =>
  cond t55
  (T.load (.int .i64) ⟨r20, 0, none⟩ fun (t56 : Int) =>
  T.load (.int .i64) ⟨r20, 1, none⟩ fun (t57 : Int) =>
  T.load (.int .i64) ⟨r20, 2, none⟩ fun (t58 : Int) =>
  T.load (.int .i64) ⟨r20, 3, none⟩ fun (t59 : Int) =>
  T.load (.int .i64) ⟨r20, 4, none⟩ fun (t60 : Int) =>
  T.load .string ⟨r20, 5, none⟩ fun (t61 : ByteArray) =>
  T.load .slice ⟨r20, 6, none⟩ fun (t62 : Option Addr × Nat × Nat) =>
  T.load .slice ⟨r20, 7, none⟩ fun (t63 : Option Addr × Nat × Nat) =>
  T.load (.int .i64) ⟨r20, 8, none⟩ fun (t64 : Int) =>
  T.load (.int .i64) ⟨r20, 9, none⟩ fun (t65 : Int) =>
  T.load (.int .i64) ⟨r23, 0, none⟩ fun (t66 : Int) =>
  T.load (.int .i64) ⟨r23, 1, none⟩ fun (t67 : Int) =>
  T.load (.int .i64) ⟨r23, 2, none⟩ fun (t68 : Int) =>
  T.load (.int .i64) ⟨r23, 3, none⟩ fun (t69 : Int) =>
  T.load (.int .i64) ⟨r23, 4, none⟩ fun (t70 : Int) =>
  T.load .string ⟨r23, 5, none⟩ fun (t71 : ByteArray) =>
  T.load .slice ⟨r23, 6, none⟩ fun (t72 : Option Addr × Nat × Nat) =>
  T.load .slice ⟨r23, 7, none⟩ fun (t73 : Option Addr × Nat × Nat) =>
  T.load (.int .i64) ⟨r23, 8, none⟩ fun (t74 : Int) =>
  T.load (.int .i64) ⟨r23, 9, none⟩ fun (t75 : Int) =>
  T.call 9 [(.agg #[(.int .i64 t56), (.int .i64 t57), (.int .i64 t58), (.int .i64 t59), (.int .i64 t60), (.string t61), (.slice t62.1 t62.2.1 t62.2.2), (.slice t63.1 t63.2.1 t63.2.2), (.int .i64 t64), (.int .i64 t65)]), (.agg #[(.int .i64 t66), (.int .i64 t67), (.int .i64 t68), (.int .i64 t69), (.int .i64 t70), (.string t71), (.slice t72.1 t72.2.1 t72.2.2), (.slice t73.1 t73.2.1 t73.2.2), (.int .i64 t74), (.int .i64 t75)])] (.one (.atom .bool)) fun (t76 : Bool) =>
  cond t76
  (T.load (.int .i64) ⟨r22, 0, none⟩ fun (t77 : Int) =>
  T.load (.int .i64) ⟨r22, 1, none⟩ fun (t78 : Int) =>
  T.load (.int .i64) ⟨r22, 2, none⟩ fun (t79 : Int) =>
  T.load (.int .i64) ⟨r22, 3, none⟩ fun (t80 : Int) =>
  T.load (.int .i64) ⟨r22, 4, none⟩ fun (t81 : Int) =>
  T.load .string ⟨r22, 5, none⟩ fun (t82 : ByteArray) =>
  T.load .slice ⟨r22, 6, none⟩ fun (t83 : Option Addr × Nat × Nat) =>
  T.load .slice ⟨r22, 7, none⟩ fun (t84 : Option Addr × Nat × Nat) =>
  T.load (.int .i64) ⟨r22, 8, none⟩ fun (t85 : Int) =>
  T.load (.int .i64) ⟨r22, 9, none⟩ fun (t86 : Int) =>
  T.load (.int .i64) ⟨r23, 0, none⟩ fun (t87 : Int) =>
  T.load (.int .i64) ⟨r23, 1, none⟩ fun (t88 : Int) =>
  T.load (.int .i64) ⟨r23, 2, none⟩ fun (t89 : Int) =>
  T.load (.int .i64) ⟨r23, 3, none⟩ fun (t90 : Int) =>
  T.load (.int .i64) ⟨r23, 4, none⟩ fun (t91 : Int) =>
  T.load .string ⟨r23, 5, none⟩ fun (t92 : ByteArray) =>
  T.load .slice ⟨r23, 6, none⟩ fun (t93 : Option Addr × Nat × Nat) =>
  T.load .slice ⟨r23, 7, none⟩ fun (t94 : Option Addr × Nat × Nat) =>
  T.load (.int .i64) ⟨r23, 8, none⟩ fun (t95 : Int) =>
  T.load (.int .i64) ⟨r23, 9, none⟩ fun (t96 : Int) =>
  T.call 9 [(.agg #[(.int .i64 t77), (.int .i64 t78), (.int .i64 t79), (.int .i64 t80), (.int .i64 t81), (.string t82), (.slice t83.1 t83.2.1 t83.2.2), (.slice t84.1 t84.2.1 t84.2.2), (.int .i64 t85), (.int .i64 t86)]), (.agg #[(.int .i64 t87), (.int .i64 t88), (.int .i64 t89), (.int .i64 t90), (.int .i64 t91), (.string t92), (.slice t93.1 t93.2.1 t93.2.2), (.slice t94.1 t94.2.1 t94.2.2), (.int .i64 t95), (.int .i64 t96)])] (.one (.atom .bool)) fun (t97 : Bool) =>
  T.out [(.bool t97)])
  (T.out [(.bool false)]))
  (T.out [(.bool false)]))
  (T.out [(.bool false)]))
  (T.out [(.bool false)]))
  (T.out [(.bool false)]))
  (T.out [(.bool false)])) fun (z24 : Bool × Unit) =>
  T.ret (.bool z24.1)))
theorem tronagelaw24_ParseNone_den (text_0 : ByteArray) (q_1 : Int × Int × Int × Int × Int × Int × Unit) (more_2 : Int) : denFun Tryz.prog Tryz.f4 [(.string text_0), (.agg #[(.int .i64 q_1.1), (.int .i64 q_1.2.1), (.int .i64 q_1.2.2.1), (.int .i64 q_1.2.2.2.1), (.int .i64 q_1.2.2.2.2.1), (.int .i64 q_1.2.2.2.2.2.1)]), (.int .u8 more_2)] = tronagelaw24_ParseNone_T text_0 q_1 more_2 := by kernel_rfl

end Go.Proofs.YteligkemohngiaaGreatDoor

/-
  THE ENGINE, PART U: the words in which trees are proved: one law a node; what stays of a heap; rows of cells; append.
  Conditions: none; it speaks of any program.
-/
namespace Go.Eng
open Go

section
variable {P : Program} {Q : Leaf → Heap → Prop} {h : Heap}

/-! ## nodes -/
theorem t_load {s : Atom} {a : Addr} {k : s.Ty → T} (x : s.Ty) (hx : cellH h a = some (s.val x)) (H : (k x).wp P Q h) : (T.load s a k).wp P Q h := ⟨x, hx, H⟩
theorem t_store {a : Addr} {v : Value} {k : T} (hp : Value.plain v = true) (hs : (cellH h a).isSome = true) (hf : frozenH h a = false) (H : k.wp P Q (setCellH h a v)) : (T.store a v k).wp P Q h := ⟨hp, hs, hf, H⟩
theorem t_new {o : Obj} {k : Nat → T} (H : (k h.size).wp P Q (h.push o)) : (T.new o k).wp P Q h := H
theorem t_call {f : FuncId} {args : List Value} {sh : Sh} {k : sh.Ty → T} {R : Fin → Heap → Prop} (hc : CallsH P f args h R)
    (hk : ∀ e h', R e h' → ∃ x, e = .ret (sh.val x) ∧ (k x).wp P Q h') : (T.call f args sh k).wp P Q h := by
  simp only [T.wp]
  refine hc.mono fun e h' hr => ?_
  obtain ⟨x, rfl, H⟩ := hk e h' hr
  exact ⟨x, rfl, H⟩
theorem t_sem {s : Sem Value} {sh : Sh} {k : sh.Ty → T} (H : semWp P s (fun v h' => ∃ x : sh.Ty, v = sh.val x ∧ (k x).wp P Q h') (fun _ _ => False) h) : (T.sem s sh k).wp P Q h := by
  simp only [T.wp]
  exact semWp_mono s (fun _ _ x => x) (fun _ _ x => x.elim) H
theorem t_still {a : Addr} {v : Value} {k : T} (hx : cellH h a = some v) (H : k.wp P Q h) : (T.still a v k).wp P Q h := ⟨hx, H⟩
theorem t_both {x y : T} (hx : x.wp P Q h) (hy : y.wp P Q h) : (T.both x y).wp P Q h := ⟨hx, hy⟩
theorem t_cond {b : Bool} {x y : T} (hx : b = true → x.wp P Q h) (hy : b = false → y.wp P Q h) : (cond b x y).wp P Q h := by
  cases b
  · exact hy rfl
  · exact hx rfl
theorem t_true {b : Bool} {x y : T} (hb : b = true) (hx : x.wp P Q h) : (cond b x y).wp P Q h := by subst hb; exact hx
theorem t_false {b : Bool} {x y : T} (hb : b = false) (hy : y.wp P Q h) : (cond b x y).wp P Q h := by subst hb; exact hy
theorem t_deref {p : Option Addr} {k : Addr → T} (a : Addr) (hp : p = some a) (H : (k a).wp P Q h) : (deref p k).wp P Q h := by subst hp; exact H
theorem t_derefN {p : Option Nat} {k : Nat → T} (a : Nat) (hp : p = some a) (H : (k a).wp P Q h) : (derefN p k).wp P Q h := by subst hp; exact H
theorem t_chk {p : Prop} [Decidable p] {k : T} (hp : p) (H : k.wp P Q h) : (chk p k).wp P Q h := ⟨hp, H⟩
theorem t_ret {v : Value} (H : Q (.ret v) h) : (T.ret v).wp P Q h := H
theorem t_pan {v : Value} (H : Q (.pan [{ v, recovered := false }]) h) : (T.pan v).wp P Q h := H

def joinQ (P : Program) (ss : List Sh1) (k : Shs.Ty ss → T) (Q : Leaf → Heap → Prop) (lf : Leaf) (h' : Heap) : Prop := match lf with
  | .out vs => (match Shs.of ss vs with
      | some y => (k y).wp P Q h'
      | none => False)
  | lf => Q lf h'
theorem t_join {ss : List Sh1} {x : T} {k : Shs.Ty ss → T} (H : x.wp P (joinQ P ss k Q) h) : (T.join ss x k).wp P Q h := by
  simp only [T.wp]
  exact H
/-- Through an assertion at the join. -/
theorem t_join' {ss : List Sh1} {x : T} {k : Shs.Ty ss → T} (M : Shs.Ty ss → Heap → Prop) (H : x.wp P (fun lf h' => match lf with
      | .out vs => ∃ y, Shs.of ss vs = some y ∧ M y h'
      | lf => Q lf h') h) (hk : ∀ y h', M y h' → (k y).wp P Q h') : (T.join ss x k).wp P Q h := by
  refine t_join (T.wp_mono x (fun lf h' hl => ?_) H)
  cases lf with
  | out vs =>
    obtain ⟨y, hy, hm⟩ := hl
    show (match Shs.of ss vs with | some y => (k y).wp P Q h' | none => False)
    rw [hy]
    exact hk y h' hm
  | brk id vs => exact hl
  | ret v => exact hl
  | pan c => exact hl
theorem t_out {vs : List Value} (H : Q (.out vs) h) : (T.out vs).wp P Q h := H
theorem t_brk {id : Nat} {vs : List Value} (H : Q (.brk id vs) h) : (T.brk id vs).wp P Q h := H
theorem joinQ_out {ss : List Sh1} {k : Shs.Ty ss → T} {vs : List Value} (y : Shs.Ty ss) (hy : Shs.of ss vs = some y) (H : (k y).wp P Q h) : joinQ P ss k Q (.out vs) h := by
  show (match Shs.of ss vs with | some y => (k y).wp P Q h | none => False)
  rw [hy]
  exact H
def blockQ (P : Program) (id : Nat) (ss : List Sh1) (k : Shs.Ty ss → T) (Q : Leaf → Heap → Prop) (lf : Leaf) (h' : Heap) : Prop := match lf with
  | .out vs => (match Shs.of ss vs with
      | some y => (k y).wp P Q h'
      | none => False)
  | .brk id' vs => bif Nat.beq id' id then (match Shs.of ss vs with
      | some y => (k y).wp P Q h'
      | none => False) else Q (.brk id' vs) h'
  | lf => Q lf h'
theorem t_block {id : Nat} {ss : List Sh1} {x : T} {k : Shs.Ty ss → T} (H : x.wp P (blockQ P id ss k Q) h) : (T.block id ss x k).wp P Q h := by
  simp only [T.wp]
  exact H
theorem t_block' {id : Nat} {ss : List Sh1} {x : T} {k : Shs.Ty ss → T} (M : Shs.Ty ss → Heap → Prop) (H : x.wp P (fun lf h' => match lf with
      | .out vs => ∃ y, Shs.of ss vs = some y ∧ M y h'
      | .brk id' vs => bif Nat.beq id' id then (∃ y, Shs.of ss vs = some y ∧ M y h') else Q (.brk id' vs) h'
      | lf => Q lf h') h) (hk : ∀ y h', M y h' → (k y).wp P Q h') : (T.block id ss x k).wp P Q h := by
  refine t_block (T.wp_mono x (fun lf h' hl => ?_) H)
  cases lf with
  | out vs =>
    obtain ⟨y, hy, hm⟩ := hl
    show (match Shs.of ss vs with | some y => (k y).wp P Q h' | none => False)
    rw [hy]
    exact hk y h' hm
  | brk id' vs =>
    unfold blockQ
    dsimp only at hl ⊢
    cases hb : Nat.beq id' id with
    | true =>
      rw [hb] at hl
      obtain ⟨y, hy, hm⟩ := hl
      rw [hy]
      exact hk y h' hm
    | false => rw [hb] at hl; exact hl
  | ret v => exact hl
  | pan c => exact hl
theorem blockQ_out {id : Nat} {ss : List Sh1} {k : Shs.Ty ss → T} {vs : List Value} (y : Shs.Ty ss) (hy : Shs.of ss vs = some y) (H : (k y).wp P Q h) : blockQ P id ss k Q (.out vs) h := by
  show (match Shs.of ss vs with | some y => (k y).wp P Q h | none => False)
  rw [hy]
  exact H
theorem blockQ_brk {id : Nat} {ss : List Sh1} {k : Shs.Ty ss → T} {vs : List Value} (y : Shs.Ty ss) (hy : Shs.of ss vs = some y) (H : (k y).wp P Q h) : blockQ P id ss k Q (.brk id vs) h := by
  unfold blockQ
  have : Nat.beq id id = true := by simp
  simp only [this, cond_true, hy]
  exact H

def loopQ (ss : List Sh1) (I : Shs.Ty ss → Heap → Prop) (μ : Shs.Ty ss → Heap → Nat) (m : Nat) (Q : Leaf → Heap → Prop) (lf : Leaf) (h' : Heap) : Prop := match lf with
  | .out vs => (match Shs.of ss vs with
      | some y' => I y' h' ∧ μ y' h' < m
      | none => False)
  | lf => Q lf h'
theorem t_loop {ss : List Sh1} {init : List Value} {body : Shs.Ty ss → T} (I : Shs.Ty ss → Heap → Prop) (μ : Shs.Ty ss → Heap → Nat) (y0 : Shs.Ty ss) (h0 : Shs.of ss init = some y0) (hi : I y0 h)
    (hr : ∀ y h, I y h → (body y).wp P (loopQ ss I μ (μ y h) Q) h) : (T.loop ss init body).wp P Q h := ⟨I, μ, ⟨y0, h0, hi⟩, hr⟩
theorem loopQ_out {ss : List Sh1} {I : Shs.Ty ss → Heap → Prop} {μ : Shs.Ty ss → Heap → Nat} {m : Nat} {vs : List Value} (y : Shs.Ty ss) (hy : Shs.of ss vs = some y) (hI : I y h) (hm : μ y h < m) : loopQ ss I μ m Q (.out vs) h := by
  show (match Shs.of ss vs with | some y' => I y' h ∧ μ y' h < m | none => False)
  rw [hy]
  exact ⟨hI, hm⟩

/-- A loop with a way out: the relation I at each round's head, the measure, what holds at the way out. -/
def forQ (id : Nat) (ss : List Sh1) (I : Shs.Ty ss → Heap → Prop) (μ : Shs.Ty ss → Heap → Nat) (m : Nat) (M : Shs.Ty ss → Heap → Prop) (Q : Leaf → Heap → Prop) (lf : Leaf) (h' : Heap) : Prop := match lf with
  | .out vs => ∃ y, Shs.of ss vs = some y ∧ I y h' ∧ μ y h' < m
  | .brk id' vs => bif Nat.beq id' id then (∃ y, Shs.of ss vs = some y ∧ M y h') else Q (.brk id' vs) h'
  | lf => Q lf h'
theorem t_for {id : Nat} {ss : List Sh1} {init : List Value} {body : Shs.Ty ss → T} {k : Shs.Ty ss → T} (I : Shs.Ty ss → Heap → Prop) (μ : Shs.Ty ss → Heap → Nat) (M : Shs.Ty ss → Heap → Prop)
    (y0 : Shs.Ty ss) (h0 : Shs.of ss init = some y0) (hi : I y0 h) (hr : ∀ y h, I y h → (body y).wp P (forQ id ss I μ (μ y h) M Q) h) (hk : ∀ y h', M y h' → (k y).wp P Q h') :
    (T.block id ss (T.loop ss init body) k).wp P Q h := by
  refine t_block' M (t_loop I μ y0 h0 hi fun y g hI => T.wp_mono _ (fun lf h' hl => ?_) (hr y g hI)) hk
  cases lf with
  | out vs =>
    obtain ⟨y', h1, h2, h3⟩ := hl
    exact loopQ_out y' h1 h2 h3
  | brk id' vs => exact hl
  | ret v => exact hl
  | pan c => exact hl
section
variable {id : Nat} {ss : List Sh1} {I : Shs.Ty ss → Heap → Prop} {μ : Shs.Ty ss → Heap → Nat} {m : Nat} {M : Shs.Ty ss → Heap → Prop}
theorem t_next {vs : List Value} (y : Shs.Ty ss) (hy : Shs.of ss vs = some y) (hI : I y h) (hm : μ y h < m) : (T.out vs).wp P (forQ id ss I μ m M Q) h := ⟨y, hy, hI, hm⟩
theorem t_exit {vs : List Value} (y : Shs.Ty ss) (hy : Shs.of ss vs = some y) (hM : M y h) : (T.brk id vs).wp P (forQ id ss I μ m M Q) h := by
  show forQ id ss I μ m M Q (.brk id vs) h
  unfold forQ
  have : Nat.beq id id = true := by simp
  simp only [this, cond_true]
  exact ⟨y, hy, hM⟩
end
theorem t_jout {ss : List Sh1} {k : Shs.Ty ss → T} {vs : List Value} (y : Shs.Ty ss) (hy : Shs.of ss vs = some y) (H : (k y).wp P Q h) : (T.out vs).wp P (joinQ P ss k Q) h := joinQ_out y hy H
theorem t_bout {id : Nat} {ss : List Sh1} {k : Shs.Ty ss → T} {vs : List Value} (y : Shs.Ty ss) (hy : Shs.of ss vs = some y) (H : (k y).wp P Q h) : (T.out vs).wp P (blockQ P id ss k Q) h := blockQ_out y hy H
theorem t_bbrk {id : Nat} {ss : List Sh1} {k : Shs.Ty ss → T} {vs : List Value} (y : Shs.Ty ss) (hy : Shs.of ss vs = some y) (H : (k y).wp P Q h) : (T.brk id vs).wp P (blockQ P id ss k Q) h := blockQ_brk y hy H

theorem forQ_ret {id : Nat} {ss : List Sh1} {I : Shs.Ty ss → Heap → Prop} {μ : Shs.Ty ss → Heap → Nat} {m : Nat} {M : Shs.Ty ss → Heap → Prop} {v : Value} (H : Q (.ret v) h) : forQ id ss I μ m M Q (.ret v) h := H
theorem joinQ_ret {ss : List Sh1} {k : Shs.Ty ss → T} {v : Value} (H : Q (.ret v) h) : joinQ P ss k Q (.ret v) h := H
theorem blockQ_ret {id : Nat} {ss : List Sh1} {k : Shs.Ty ss → T} {v : Value} (H : Q (.ret v) h) : blockQ P id ss k Q (.ret v) h := H
/-- Through an inner join to a loop's own ends. -/
theorem joinQ_brk {ss : List Sh1} {k : Shs.Ty ss → T} {id : Nat} {vs : List Value} (H : Q (.brk id vs) h) : joinQ P ss k Q (.brk id vs) h := H
theorem forQ_brk {id : Nat} {ss : List Sh1} {I : Shs.Ty ss → Heap → Prop} {μ : Shs.Ty ss → Heap → Nat} {m : Nat} {M : Shs.Ty ss → Heap → Prop} {vs : List Value} (y : Shs.Ty ss) (hy : Shs.of ss vs = some y) (hM : M y h) : forQ id ss I μ m M Q (.brk id vs) h := by
  unfold forQ
  have : Nat.beq id id = true := by simp
  simp only [this, cond_true]
  exact ⟨y, hy, hM⟩

@[simp] theorem sh_val_atom (a : Atom) (x : a.Ty) : (Sh.one (Sh1.atom a)).val x = a.val x := rfl
@[simp] theorem sh1_val_atom (a : Atom) (x : a.Ty) : (Sh1.atom a).val x = a.val x := rfl
@[simp] theorem val_int (k : IntKind) (x : Int) : (Atom.int k).val x = .int k x := rfl
@[simp] theorem val_bool (x : Bool) : Atom.bool.val x = .bool x := rfl
@[simp] theorem val_string (x : ByteArray) : Atom.string.val x = .string x := rfl
@[simp] theorem val_pointer (x : Option Addr) : Atom.pointer.val x = .pointer x := rfl
@[simp] theorem val_slice (x : Option Addr × Nat × Nat) : Atom.slice.val x = .slice x.1 x.2.1 x.2.2 := rfl
@[simp] theorem val_map (x : Option Nat) : Atom.map.val x = .map x := rfl

theorem w64 {n : Int} (h0 : -9223372036854775808 ≤ n) (h1 : n ≤ 9223372036854775807) : IntKind.wrap .i64 n = n := IntWalk.i64_in n ⟨h0, h1⟩

/-- A call that comes back. -/
def Back (S : Value → Heap → Prop) (e : Fin) (h' : Heap) : Prop := ∃ v, e = .ret v ∧ S v h'
theorem t_callB {f : FuncId} {args : List Value} {sh : Sh} {k : sh.Ty → T} {S : Value → Heap → Prop} (hc : CallsH P f args h (Back S))
    (hk : ∀ v h', S v h' → ∃ x, v = sh.val x ∧ (k x).wp P Q h') : (T.call f args sh k).wp P Q h :=
  t_call hc fun e h' ⟨v, he, hs⟩ => by
    obtain ⟨x, hx, H⟩ := hk v h' hs
    exact ⟨x, by rw [he, hx], H⟩
theorem finOf_back {S : Value → Heap → Prop} {v : Value} (H : S v h) : finOf (Back S) (.ret v) h := ⟨v, rfl, H⟩
end

/-! ## what stays -/
/-- All blocks that were there are as they were, but for those of M. -/
def Keep (M : List Nat) (h h' : Heap) : Prop := h.size ≤ h'.size ∧ ∀ i, i < h.size → i ∉ M → h'[i]? = h[i]?
theorem Keep.refl (M : List Nat) (h : Heap) : Keep M h h := ⟨Nat.le_refl _, fun _ _ _ => rfl⟩
theorem Keep.trans {M : List Nat} {a b c : Heap} (h : Keep M a b) (k : Keep M b c) : Keep M a c :=
  ⟨Nat.le_trans h.1 k.1, fun i hi hm => (k.2 i (Nat.lt_of_lt_of_le hi h.1) hm).trans (h.2 i hi hm)⟩
theorem Keep.mono {M M' : List Nat} {a b : Heap} (h : Keep M a b) (hM : ∀ i, i ∈ M → i ∈ M') : Keep M' a b := ⟨h.1, fun i hi hm => h.2 i hi fun h' => hm (hM i h')⟩
/-- What is changed among new blocks alone. -/
theorem Keep.new {M M' : List Nat} {a b c : Heap} (h : Keep M a b) (k : Keep M' b c) (hM : ∀ i, i ∈ M' → i ∈ M ∨ a.size ≤ i) : Keep M a c :=
  ⟨Nat.le_trans h.1 k.1, fun i hi hm => (k.2 i (Nat.lt_of_lt_of_le hi h.1) fun h' => (hM i h').elim hm (fun g => by omega)).trans (h.2 i hi hm)⟩
theorem Keep.push (M : List Nat) (h : Heap) (o : Obj) : Keep M h (h.push o) := ⟨by simp, fun i hi _ => by rw [Array.getElem?_push]; simp; omega⟩
theorem Keep.set (h : Heap) (c : Nat) (o : Obj) : Keep [c] h (h.setIfInBounds c o) :=
  ⟨by simp, fun i _ hm => by simp at hm; rw [Array.getElem?_setIfInBounds_ne (fun e => hm e.symm)]⟩
theorem setCellH_ne {h : Heap} {a : Addr} {v : Value} {i : Nat} (hi : i ≠ a.block) : (setCellH h a v)[i]? = h[i]? := by
  unfold setCellH ofHeap World.setCell
  simp only [Array.getElem?_modify]
  rw [if_neg (by omega)]
theorem setCellH_size {h : Heap} {a : Addr} {v : Value} : (setCellH h a v).size = h.size := by
  unfold setCellH ofHeap World.setCell
  simp
theorem Keep.setCell (h : Heap) (a : Addr) (v : Value) : Keep [a.block] h (setCellH h a v) :=
  ⟨by rw [setCellH_size]; exact Nat.le_refl _, fun i _ hm => setCellH_ne (by simpa using hm)⟩
theorem Keep.at {M : List Nat} {h h' : Heap} (k : Keep M h h') {i : Nat} {o : Obj} (ho : h[i]? = some o) (hm : i ∉ M) : h'[i]? = some o := by
  have hlt : i < h.size := by
    rcases Nat.lt_or_ge i h.size with g | g
    · exact g
    · rw [Array.getElem?_eq_none g] at ho; cases ho
  rw [k.2 i hlt hm]; exact ho

theorem cellH_of {h : Heap} {a : Addr} {c : Array Value} {t : TypeId} {f : Nat × Nat} (hb : h[a.block]? = some (.cells c t f)) (hs : a.spot = none) : cellH h a = c[a.off]? := by
  unfold cellH ofHeap World.cell?
  simp [hb, hs]
theorem cellH_block {h h' : Heap} {a : Addr} (hb : h'[a.block]? = h[a.block]?) : cellH h' a = cellH h a := by
  unfold cellH ofHeap World.cell?
  simp only [hb]
theorem frozenH_block {h h' : Heap} {a : Addr} (hb : h'[a.block]? = h[a.block]?) : frozenH h' a = frozenH h a := by
  unfold frozenH ofHeap World.frozen?
  simp only [hb]
theorem cellH_lt {h : Heap} {a : Addr} {v : Value} (hc : cellH h a = some v) : a.block < h.size := by
  rcases Nat.lt_or_ge a.block h.size with g | g
  · exact g
  · unfold cellH ofHeap World.cell? at hc
    simp [Array.getElem?_eq_none g] at hc
theorem Keep.cell {M : List Nat} {h h' : Heap} (k : Keep M h h') {a : Addr} {v : Value} (hc : cellH h a = some v) (hm : a.block ∉ M) : cellH h' a = some v := by
  rw [cellH_block (k.2 a.block (cellH_lt hc) hm)]; exact hc

theorem add_block (a : Addr) (n : Nat) : (a.add n).block = a.block := by unfold Addr.add; split <;> rfl
theorem add_zero (a : Addr) : a.add 0 = a := by simp [Addr.add]
theorem add_mk (b o n : Nat) : (⟨b, o, none⟩ : Addr).add n = ⟨b, o + n, none⟩ := by
  unfold Addr.add
  split
  · rename_i h; subst h; rfl
  · rfl
theorem add_add (a : Addr) (m n : Nat) : (a.add m).add n = a.add (m + n) := by
  unfold Addr.add
  by_cases hm : m = 0
  · subst hm; simp
  · by_cases hn : n = 0
    · subst hn; simp
    · simp [hm, hn, Nat.add_assoc]

/-- A slice's cells read so. -/
def CellsAt (h : Heap) (p : Option Addr) (vs : List Value) : Prop := ∀ i v, vs[i]? = some v → ∃ a, p = some a ∧ cellH h (a.add i) = some v
def blk : Option Addr → List Nat
  | some a => [a.block]
  | none => []
theorem CellsAt.nil (h : Heap) (p : Option Addr) : CellsAt h p [] := fun i v hv => by simp at hv
theorem CellsAt.keep {M : List Nat} {h h' : Heap} {p : Option Addr} {vs : List Value} (c : CellsAt h p vs) (k : Keep M h h') (hm : ∀ i, i ∈ blk p → i ∉ M) : CellsAt h' p vs := fun i v hv => by
  obtain ⟨a, rfl, hc⟩ := c i v hv
  exact ⟨a, rfl, k.cell hc (by rw [add_block]; exact hm a.block (by simp [blk]))⟩
theorem CellsAt.get {h : Heap} {p : Option Addr} {vs : List Value} (c : CellsAt h p vs) {i : Nat} {v : Value} (hv : vs[i]? = some v) : ∃ a, p = some a ∧ cellH h (a.add i) = some v := c i v hv
theorem CellsAt.old {h : Heap} {p : Option Addr} {vs : List Value} (c : CellsAt h p vs) (hn : vs ≠ []) : ∀ i, i ∈ blk p → i < h.size := fun i hi => by
  cases vs with
  | nil => exact absurd rfl hn
  | cons v r =>
    obtain ⟨a, rfl, hc⟩ := c 0 v rfl
    simp [blk] at hi
    subst hi
    rw [← add_block a 0]
    exact cellH_lt hc

/-- A slice that is the function's own: nil, or a row of an unfrozen block, with room up to its capacity. -/
def Own (sz : Nat) (ty : TypeId) (h : Heap) (p : Option Addr) (n c : Nat) (vs : List Value) : Prop :=
  (p = none ∧ n = 0 ∧ c = 0 ∧ vs = []) ∨
  (∃ b off arr, p = some ⟨b, off, none⟩ ∧ h[b]? = some (.cells arr ty (0, 0)) ∧ vs.length = n * sz ∧ n ≤ c ∧ off + c * sz ≤ arr.size ∧ ∀ i v, vs[i]? = some v → arr[off + i]? = some v)
theorem Own.cells {sz : Nat} {ty : TypeId} {h : Heap} {p : Option Addr} {n c : Nat} {vs : List Value} (o : Own sz ty h p n c vs) : CellsAt h p vs := by
  rcases o with ⟨rfl, _, _, rfl⟩ | ⟨b, off, arr, rfl, hb, h1, h2, h3, h4⟩
  · exact CellsAt.nil h none
  · intro i v hv
    exact ⟨_, rfl, by rw [add_mk, cellH_of hb rfl]; exact h4 i v hv⟩
theorem Own.length {sz : Nat} {ty : TypeId} {h : Heap} {p : Option Addr} {n c : Nat} {vs : List Value} (o : Own sz ty h p n c vs) : vs.length = n * sz := by
  rcases o with ⟨_, rfl, _, rfl⟩ | ⟨b, off, arr, _, hb, h1, _⟩
  · simp
  · exact h1
theorem Own.keep {sz : Nat} {ty : TypeId} {M : List Nat} {h h' : Heap} {p : Option Addr} {n c : Nat} {vs : List Value} (o : Own sz ty h p n c vs) (k : Keep M h h') (hm : ∀ i, i ∈ blk p → i ∉ M) : Own sz ty h' p n c vs := by
  rcases o with h0 | ⟨b, off, arr, rfl, hb, h1⟩
  · exact .inl h0
  · exact .inr ⟨b, off, arr, rfl, k.at hb (hm b (by simp [blk])), h1⟩
theorem Own.nil (sz : Nat) (ty : TypeId) (h : Heap) : Own sz ty h none 0 0 [] := .inl ⟨rfl, rfl, rfl, rfl⟩
theorem Own.ty {sz : Nat} {ty : TypeId} {h : Heap} {p : Option Addr} {n c : Nat} {vs : List Value} (o : Own sz ty h p n c vs) : ∀ i, i ∈ blk p → ∃ arr, h[i]? = some (.cells arr ty (0, 0)) := by
  rcases o with ⟨rfl, _⟩ | ⟨b, off, arr, rfl, hb, _⟩
  · intro i hi; cases hi
  · intro i hi
    simp [blk] at hi
    subst hi
    exact ⟨arr, hb⟩
theorem Own.cap {sz : Nat} {ty : TypeId} {h : Heap} {p : Option Addr} {n c : Nat} {vs : List Value} (o : Own sz ty h p n c vs) : n ≤ c := by
  rcases o with ⟨rfl, rfl, rfl, _⟩ | ⟨b, off, arr, rfl, hb, _, h, _⟩
  · exact Nat.le_refl _
  · exact h
theorem Own.old {sz : Nat} {ty : TypeId} {h : Heap} {p : Option Addr} {n c : Nat} {vs : List Value} (o : Own sz ty h p n c vs) : ∀ i, i ∈ blk p → i < h.size := by
  rcases o with ⟨rfl, _⟩ | ⟨b, off, arr, rfl, hb, _⟩
  · intro i hi; cases hi
  · intro i hi
    simp [blk] at hi
    subst hi
    rcases Nat.lt_or_ge i h.size with g | g
    · exact g
    · rw [Array.getElem?_eq_none g] at hb; cases hb

/-! ## append -/
theorem loadCells_wp {P : Program} {X : Value → Heap → Prop} {h : Heap} {a : Addr} : ∀ (vs : List Value) (i : Nat) (acc : Array Value) {K : Array Value → Heap → Prop},
    (∀ j v, vs[j]? = some v → cellH h (a.add (i + j)) = some v) → K (acc ++ vs.toArray) h → semWp P (loadCellsFrom a i vs.length acc) K X h := by
  intro vs
  induction vs with
  | nil => intro i acc K _ hk; simpa [loadCellsFrom, pure, semWp] using hk
  | cons v r ih =>
    intro i acc K hc hk
    refine ⟨v, by simpa using hc 0 v rfl, ?_⟩
    refine ih (i + 1) (acc.push v) (fun j u hj => ?_) ?_
    · have := hc (j + 1) u (by simpa using hj)
      rw [show i + 1 + j = i + (j + 1) by omega]; exact this
    · have e : acc ++ (v :: r).toArray = acc.push v ++ r.toArray := by
        apply Array.ext'
        simp
      rw [← e]; exact hk

theorem setCellH_at {h : Heap} {b off : Nat} {arr : Array Value} {ty : TypeId} {f : Nat × Nat} {v : Value} (hb : h[b]? = some (.cells arr ty f)) :
    (setCellH h ⟨b, off, none⟩ v)[b]? = some (.cells (arr.setIfInBounds off v) ty f) := by
  unfold setCellH ofHeap World.setCell
  simp [Array.getElem?_modify, hb]

/-- Cells stored in a row: the block holds them. -/
theorem storeCells_wp {P : Program} {X : Value → Heap → Prop} {b off : Nat} {ty : TypeId} : ∀ (vs : List Value) (i : Nat) (h : Heap) (arr : Array Value) {K : Unit → Heap → Prop},
    (∀ v ∈ vs, Value.plain v = true) → h[b]? = some (.cells arr ty (0, 0)) → off + i + vs.length ≤ arr.size →
    (∀ h' arr', h'[b]? = some (.cells arr' ty (0, 0)) → arr'.size = arr.size → (∀ j, (j < off + i ∨ off + i + vs.length ≤ j) → arr'[j]? = arr[j]?) → (∀ j v, vs[j]? = some v → arr'[off + i + j]? = some v) →
      h'.size = h.size → (∀ k, k ≠ b → h'[k]? = h[k]?) → K () h') → semWp P (storeCells ⟨b, off, none⟩ vs i) K X h := by
  intro vs
  induction vs with
  | nil => intro i h arr K _ hb _ hk; exact hk h arr hb rfl (fun _ _ => rfl) (fun j v hj => by simp at hj) rfl (fun _ _ => rfl)
  | cons v r ih =>
    intro i h arr K hp hb hle hk
    simp only [List.length_cons] at hle
    have hcell : cellH h (Addr.add ⟨b, off, none⟩ i) = arr[off + i]? := by rw [add_mk, cellH_of (c := arr) (t := ty) (f := (0, 0)) hb rfl]
    refine ⟨hp v (List.mem_cons_self ..), ?_, ?_, ?_⟩
    · rw [hcell]; simp; omega
    · rw [add_mk]; unfold frozenH ofHeap World.frozen?; simp [hb]
    · rw [add_mk]
      have hb1 := setCellH_at (off := off + i) (v := v) hb
      refine ih (i + 1) (setCellH h ⟨b, off + i, none⟩ v) (arr.setIfInBounds (off + i) v) (fun u hu => hp u (List.mem_cons_of_mem _ hu)) hb1 (by simp; omega) ?_
      intro h' arr' g1 g2 g3 g4 g5 g6
      refine hk h' arr' g1 (by simpa using g2) (fun j hj => ?_) (fun j u hj => ?_) (by rw [g5, setCellH_size]) (fun k hk' => by rw [g6 k hk']; exact setCellH_ne hk')
      · simp only [List.length_cons] at hj
        rw [g3 j (by omega), Array.getElem?_setIfInBounds_ne (by omega)]
      · cases j with
        | zero =>
          simp at hj; subst hj
          rw [g3 (off + i + 0) (by omega), Nat.add_zero]
          rw [Array.getElem?_setIfInBounds]
          simp only [if_true]
          rw [if_pos (by omega)]
        | succ j =>
          have := g4 j u (by simpa using hj)
          rw [show off + i + (j + 1) = off + (i + 1) + j by omega]; exact this

/-- What an append asks of the tables. -/
structure AppT (P : Program) (st xt elem : TypeId) (sz : Nat) : Prop where
  st : P.underlying st = some (.slice elem)
  xt : P.underlying xt = some (.slice elem) ∨ P.underlying xt = some .string
  info : ∃ i, P.info? elem = some i ∧ i.size = sz ∧ (∃ z, i.zero = some z ∧ z.cells.size = sz) ∧ 0 < i.bytes ∧ i.bytes ≤ 120
  pos : 0 < sz

theorem growBy_le (newLen : Nat) : ∀ (r c : Nat), Builtin.growBy newLen r c ≤ max c (newLen + (newLen + 768) / 4) := by
  intro r
  induction r with
  | zero => intro c; simp only [Builtin.growBy]; omega
  | succ r ih =>
    intro c
    simp only [Builtin.growBy]
    split
    · omega
    · have := ih (c + (c + 768) / 4)
      omega
theorem nextcap_le (need c : Nat) (h : c < need) : Builtin.nextslicecap need c ≤ 2 * need + 200 := by
  unfold Builtin.nextslicecap
  split
  · omega
  · split
    · omega
    · have := growBy_le need 4 c
      omega

/-- How a row grew: in place, or into a new block of its own. -/
def Grew (sz : Nat) (elem : TypeId) (h h' : Heap) (p : Option Addr) (c : Nat) (p' : Option Addr) (c' : Nat) : Prop :=
  (p' = p ∧ c' = c ∧ ∀ b off, p = some ⟨b, off, none⟩ → ∀ arr f, h[b]? = some (.cells arr elem f) → ∃ arr', h'[b]? = some (.cells arr' elem (0, 0)) ∧ arr'.size = arr.size) ∨
  (p' = some ⟨h.size, 0, none⟩ ∧ c' ≤ maxLen ∧ ∃ arr, h'[h.size]? = some (.cells arr elem (0, 0)) ∧ arr.size = c' * sz)
theorem append_wpX {P : Program} {h : Heap} {st xt rt elem : TypeId} {sz : Nat} (A : AppT P st xt elem sz) {p xp : Option Addr} {n c m xc : Nat} {vs ws : List Value}
    (o : Own sz elem h p n c vs) (cx : CellsAt h xp ws) (hm : ws.length = m * sz) (hpl : ∀ v ∈ ws, Value.plain v = true) (hle : n + m ≤ 1099512676352)
    {K : Value → Heap → Prop} {X : Value → Heap → Prop}
    (hk : ∀ p' c' h', Own sz elem h' p' (n + m) c' (vs ++ ws) → Keep (blk p) h h' → (∀ i, i ∈ blk p' → i ∈ blk p ∨ h.size ≤ i) → Grew sz elem h h' p c p' c' → K (.slice p' (n + m) c') h') :
    semWp P (Builtin.append_ #[st, xt] rt #[.slice p n c, .slice xp m xc]) K X h := by
  obtain ⟨i, hi, hsz, ⟨z, hz, hzs⟩, hb0, hb⟩ := A.info
  have hxt : ∃ d, P.underlying xt = some d ∧ (d matches .int _) = false := by
    rcases A.xt with g | g <;> exact ⟨_, g, rfl⟩
  obtain ⟨d, hd, hdi⟩ := hxt
  have first : ∀ {K' : Array Value → Heap → Prop} (q : Option Addr) (k kc : Nat) (us : List Value), CellsAt h q us → us.length = k * sz → K' us.toArray h →
      semWp P (Builtin.firstCells sz k (.slice q k kc)) K' X h := by
    intro K' q k kc us hq hl hk'
    cases q with
    | none =>
      cases us with
      | nil => exact hk'
      | cons u r => obtain ⟨a, ha, _⟩ := hq 0 u rfl; cases ha
    | some a =>
      show semWp P (loadCellsFrom a 0 (k * sz) #[]) K' X h
      rw [← hl]
      refine loadCells_wp us 0 #[] (fun j v hj => ?_) (by simpa using hk')
      obtain ⟨a', ha', hc⟩ := hq j v hj
      cases ha'
      simpa using hc
  unfold Builtin.append_
  simp only [List.getElem?_toArray, List.getElem?_cons_zero, List.getElem?_cons_succ]
  refine underlying_run A.st ?_
  refine sizeOf_run hi ?_
  rw [hsz]
  have key : ∀ (K : Value → Heap → Prop), (∀ p' c' h', Own sz elem h' p' (n + m) c' (vs ++ ws) → Keep (blk p) h h' → (∀ i, i ∈ blk p' → i ∈ blk p ∨ h.size ≤ i) → Grew sz elem h h' p c p' c' → K (.slice p' (n + m) c') h') →
      (n + m ≤ c → semWp P ((Builtin.firstCells sz m (Value.slice xp m xc)).bind fun new =>
        match p with
        | some a => (storeCells (a.add (n * sz)) new.toList).bind fun __r => Sem.pure (Value.slice p (n + m) c)
        | _ => Sem.pure (Value.slice p (n + m) c)) K X h) ∧
      (¬ n + m ≤ c → semWp P ((choose (Question.appendCap (n + m) c elem)).bind fun newCap =>
        (typeInfo elem).bind fun i =>
          (askRoom (newCap * i.bytes)).bind fun __r =>
            (Builtin.firstCells sz n (Value.slice p n c)).bind fun old =>
              (Builtin.firstCells sz m (Value.slice xp m xc)).bind fun new =>
                (zeroValue elem).bind fun z =>
                  (newRow elem (old ++ new ++ Builtin.zeroCells z.cells (newCap - (n + m)))).bind
                    fun a => Sem.pure (Value.slice (some a) (n + m) newCap)) K X h) := by
    intro K hk
    have hlen := o.length
    constructor
    · intro hfit
      refine semWp_bind _ _ (first xp m xc ws cx hm ?_)
      rcases o with ⟨rfl, rfl, rfl, rfl⟩ | ⟨b, off, arr, rfl, hbk, h1, h2, h3, h4⟩
      · have : m = 0 := by omega
        subst this
        have : ws = [] := List.eq_nil_of_length_eq_zero (by simpa using hm)
        subst this
        exact hk none 0 h (Own.nil sz elem h) (Keep.refl _ h) (fun i hi => .inl hi) (.inl ⟨rfl, rfl, fun b off e => by cases e⟩)
      · dsimp only
        refine semWp_bind _ _ ?_
        rw [add_mk]
        have hmul : (n + m) * sz ≤ c * sz := Nat.mul_le_mul_right sz hfit
        rw [Nat.add_mul] at hmul
        refine storeCells_wp ws 0 h arr hpl hbk (by rw [hm]; omega) ?_
        intro h' arr' g1 g2 g3 g4 g5 g6
        refine hk _ c h' (.inr ⟨b, off, arr', rfl, g1, ?_, hfit, by omega, ?_⟩) ⟨by omega, fun i _ hi => g6 i (by simpa [blk] using hi)⟩ (fun i hi => .inl hi) (.inl ⟨rfl, rfl, fun b' off' e arr0 f e0 => by cases e; rw [hbk] at e0; cases e0; exact ⟨arr', g1, g2⟩⟩)
        · rw [List.length_append, h1, hm, Nat.add_mul]
        · intro i v hv
          rcases Nat.lt_or_ge i vs.length with hi' | hi'
          · rw [List.getElem?_append_left hi'] at hv
            rw [g3 (off + i) (by omega)]
            exact h4 i v hv
          · rw [List.getElem?_append_right hi'] at hv
            have := g4 (i - vs.length) v hv
            rw [show off + i = off + n * sz + 0 + (i - vs.length) by omega]
            exact this
    · intro hgrow
      show semWp P (.choose _ _) K X h
      simp only [semWp]
      rw [if_neg (by simp [Question.forced])]
      intro t
      have hcut : n + m ≤ (Question.appendCap (n + m) c elem).cut t := by simp only [Question.cut]; omega
      have hnc : (Question.appendCap (n + m) c elem).cut t ≤ maxLen := by
        simp only [Question.cut]
        have := Nat.mod_lt t (y := 2 ^ 63 - (n + m)) (by omega)
        unfold maxLen
        omega
      generalize (Question.appendCap (n + m) c elem).cut t = nc at hcut hnc
      refine typeInfo_run hi ?_
      have rest : semWp P ((Builtin.firstCells sz n (Value.slice p n c)).bind fun old =>
              (Builtin.firstCells sz m (Value.slice xp m xc)).bind fun new =>
                (zeroValue elem).bind fun z =>
                  (newRow elem (old ++ new ++ Builtin.zeroCells z.cells (nc - (n + m)))).bind
                    fun a => Sem.pure (Value.slice (some a) (n + m) nc)) K X h := by
        refine semWp_bind _ _ (first p n c vs o.cells hlen ?_)
        refine semWp_bind _ _ (first xp m xc ws cx hm ?_)
        have ez : (zeroValue elem) = Sem.program fun P' => ((match P'.info? elem with | some i => Sem.pure i | none => stuck "no such type").bind fun i => match i.zero with | some v => Sem.pure v | none => unsupported (.resourceLimit "a value of more than 2^22 cells")) := rfl
        rw [ez]
        simp only [Sem.bind, semWp, hi, hz]
        show semWp P (Sem.new _ _) K X h
        have hzc : (Builtin.zeroCells z.cells (nc - (n + m))).size = (nc - (n + m)) * sz := by simp [Builtin.zeroCells, hzs]
        refine hk _ nc _ (.inr ⟨h.size, 0, vs.toArray ++ ws.toArray ++ Builtin.zeroCells z.cells (nc - (n + m)), rfl, by rw [Array.getElem?_push, if_pos rfl], ?_, hcut, ?_, ?_⟩) (Keep.push _ h _) (fun i hi => .inr (by simp [blk] at hi; omega)) (.inr ⟨rfl, hnc, _, by rw [Array.getElem?_push, if_pos rfl], ?_⟩)
        · rw [List.length_append, hlen, hm, Nat.add_mul]
        · simp only [Array.size_append, List.size_toArray, hzc, hlen, hm]
          rw [← Nat.add_mul, ← Nat.add_mul, show n + m + (nc - (n + m)) = nc by omega]
          omega
        · intro i v hv
          have hlt : i < (vs ++ ws).length := by
            rcases Nat.lt_or_ge i (vs ++ ws).length with g | g
            · exact g
            · rw [List.getElem?_eq_none g] at hv; cases hv
          have e : (vs.toArray ++ ws.toArray : Array Value) = (vs ++ ws).toArray := by simp
          rw [e, Nat.zero_add, Array.getElem?_append_left (by simpa using hlt)]
          simpa using hv
        · simp only [Array.size_append, List.size_toArray, hzc, hlen, hm]
          rw [← Nat.add_mul, ← Nat.add_mul, show n + m + (nc - (n + m)) = nc by omega]
      refine semWp_bind _ _ ?_
      unfold askRoom
      split
      · exact rest
      · exact rest
  obtain ⟨k1, k2⟩ := key K hk
  have hnb : ∀ (b : Prop), ¬ (((n + m : Nat) : Int) > IntKind.i64.max ∧ b) := by
    intro b hh
    have : ((n + m : Nat) : Int) ≤ 1099512676352 := by omega
    have e : IntKind.i64.max = 9223372036854775807 := rfl
    omega
  have hcap : ¬ n + m ≤ c → ¬ Builtin.nextslicecap (n + m) c * i.bytes > 2 ^ 48 := by
    intro hg
    have h1 := nextcap_le (n + m) c (by omega)
    have h2 : Builtin.nextslicecap (n + m) c * i.bytes ≤ (2 * (n + m) + 200) * 120 := Nat.mul_le_mul h1 hb
    omega
  rcases A.xt with g | g
  all_goals
    refine underlying_run g ?_
    simp only [bind, Sem.bind, pure, Bool.false_eq_true, if_false, Builtin.lenOf, Bool.not_false, if_true]
    by_cases hfit : n + m ≤ c
    · rw [if_pos hfit]; exact k1 hfit
    · rw [if_neg hfit]
      refine typeInfo_run hi ?_
      rw [if_neg (hnb _)]
      refine typeInfo_run hi ?_
      rw [if_neg (hcap hfit)]
      exact k2 hfit

theorem append_wp {P : Program} {h : Heap} {st xt rt elem : TypeId} {sz : Nat} (A : AppT P st xt elem sz) {p xp : Option Addr} {n c m xc : Nat} {vs ws : List Value}
    (o : Own sz elem h p n c vs) (cx : CellsAt h xp ws) (hm : ws.length = m * sz) (hpl : ∀ v ∈ ws, Value.plain v = true) (hle : n + m ≤ 1099512676352)
    {K : Value → Heap → Prop} {X : Value → Heap → Prop}
    (hk : ∀ p' c' h', Own sz elem h' p' (n + m) c' (vs ++ ws) → Keep (blk p) h h' → (∀ i, i ∈ blk p' → i ∈ blk p ∨ h.size ≤ i) → K (.slice p' (n + m) c') h') :
    semWp P (Builtin.append_ #[st, xt] rt #[.slice p n c, .slice xp m xc]) K X h :=
  append_wpX A o cx hm hpl hle fun p' c' h' h1 h2 h3 _ => hk p' c' h' h1 h2 h3

end Go.Eng

/-
  MORE LAWS: slices of slices. Conditions: none.
-/
namespace Go.Eng
open Go
theorem CellsAt.cut {h : Heap} {p : Option Addr} {vs : List Value} {c m sz : Nat} (H : CellsAt h p vs) (hc : vs.length ≤ c * sz) : CellsAt h (if c = m then p else Option.map (fun x => Addr.add x (m * sz)) p) (vs.drop (m * sz)) := by
  intro i v hv
  rw [List.getElem?_drop] at hv
  have hlt : m * sz + i < vs.length := by
    rcases Nat.lt_or_ge (m * sz + i) vs.length with g | g
    · exact g
    · rw [List.getElem?_eq_none g] at hv; cases hv
  obtain ⟨a, rfl, ha⟩ := H _ _ hv
  by_cases hcm : c = m
  · subst hcm; omega
  · rw [if_neg hcm]
    exact ⟨a.add (m * sz), rfl, by rw [add_add]; exact ha⟩
theorem CellsAt.take {h : Heap} {p : Option Addr} {vs : List Value} (H : CellsAt h p vs) (m : Nat) : CellsAt h p (vs.take m) := fun i v hv => by
  rw [List.getElem?_take] at hv
  split at hv
  · exact H i v hv
  · cases hv
theorem blk_cut {p : Option Addr} {c m k : Nat} : blk (if c = m then p else Option.map (fun x => Addr.add x k) p) = blk p := by
  split
  · rfl
  · cases p with
    | none => rfl
    | some a => simp [blk, add_block]
end Go.Eng

/-
  MORE LAWS: string(bytes). Conditions: none.
-/
namespace Go.Eng
open Go
theorem bytes_loop {P : Program} {X : Value → Heap → Prop} {h : Heap} : ∀ (l : List UInt8) (acc : ByteArray) {K : ByteArray → Heap → Prop}, K ⟨acc.data ++ l.toArray⟩ h →
    semWp P (forIn (l.map fun b => Value.int .u8 (b.toNat : Int)) acc fun c s => match c with
      | .int .u8 n => (pure (ForInStep.yield (s.push (UInt8.ofNat n.toNat))) : Sem (ForInStep ByteArray))
      | _ => stuck "bytesToString: byte expected") K X h := by
  intro l
  induction l with
  | nil => intro acc K hk; show K acc h; simpa using hk
  | cons b r ih =>
    intro acc K hk
    simp only [List.map_cons, List.forIn_cons]
    have e : UInt8.ofNat ((b.toNat : Int)).toNat = b := by simp
    rw [e]
    refine ih (acc.push b) ?_
    simpa [ByteArray.push] using hk
theorem convBytes_wp {P : Program} {src dst e : TypeId} {h : Heap} {p : Option Addr} {c : Nat} {l : List UInt8} (hs : P.underlying src = some (.slice e)) (he : P.underlying e = some (.int .u8)) (hd : P.underlying dst = some .string)
    (hp : CellsAt h p (l.map fun b => Value.int .u8 (b.toNat : Int))) {K X : Value → Heap → Prop} (hk : K (.string ⟨l.toArray⟩) h) : semWp P (convert src dst (.slice p l.length c)) K X h := by
  unfold convert
  refine underlying_run hs (underlying_run hd ?_)
  refine underlying_run he ?_
  dsimp only
  unfold Conv.bytesToString
  cases p with
  | none =>
    cases l with
    | nil => exact hk
    | cons b r => obtain ⟨a, ha, _⟩ := hp 0 _ rfl; cases ha
  | some a =>
    dsimp only
    refine semWp_bind _ _ ?_
    show semWp P (loadCellsFrom a 0 l.length #[]) _ X h
    have hl : l.length = (l.map fun b => Value.int .u8 (b.toNat : Int)).length := by simp
    rw [hl]
    refine loadCells_wp (l.map fun b => Value.int .u8 (b.toNat : Int)) 0 #[] (fun j v hj => by
      obtain ⟨a', ha', hc⟩ := hp j v hj
      cases ha'
      simpa using hc) ?_
    refine semWp_bind _ _ ?_
    have e0 : (#[] ++ (l.map fun b => Value.int .u8 (b.toNat : Int)).toArray : Array Value) = (l.map fun b => Value.int .u8 (b.toNat : Int)).toArray := by simp
    rw [e0, List.forIn_toArray]
    exact bytes_loop l _ (show K _ h by simpa using hk)
end Go.Eng
