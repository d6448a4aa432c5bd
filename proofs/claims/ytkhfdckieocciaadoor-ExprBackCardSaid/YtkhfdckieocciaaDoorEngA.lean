/-
  THE ENGINE, PART A: what a heap reads as, what a piece of the model's monad does to a heap (semWp), trees of effects (T) and what a tree promises (T.wp).
  Conditions: none; it speaks of any program.
-/
import Derived.Calls
import Derived.Defers
namespace Go.Eng
open Go

abbrev Heap := Array Obj
/-- A world with that heap: for naming the model's own readings of a heap. -/
def ofHeap (h : Heap) : World := { heap := h, tape := fun _ _ => 0, drawn := 0, os := default, output := #[] }
def cellH (h : Heap) (a : Addr) : Option Value := (ofHeap h).cell? a
def shapeH (h : Heap) (r : Nat) : Option (TypeId × Nat) := (ofHeap h).shape? r
def frozenH (h : Heap) (a : Addr) : Bool := (ofHeap h).frozen? a
def freezeH (h : Heap) (a : Addr) (n : Nat) : Heap := ((ofHeap h).freeze a n).heap
def setCellH (h : Heap) (a : Addr) (v : Value) : Heap := ((ofHeap h).setCell a v).heap
theorem cell?_heap (w : World) (a : Addr) : w.cell? a = cellH w.heap a := rfl
theorem shape?_heap (w : World) (r : Nat) : w.shape? r = shapeH w.heap r := rfl
theorem frozen?_heap (w : World) (a : Addr) : w.frozen? a = frozenH w.heap a := rfl
theorem freeze_heap (w : World) (a : Addr) (n : Nat) : (w.freeze a n).heap = freezeH w.heap a n := by
  unfold freezeH World.freeze
  split <;> rfl
theorem setCell_heap (w : World) (a : Addr) (v : Value) : (w.setCell a v).heap = setCellH w.heap a v := rfl

/-- All of a world but its heap and its count of draws is the same. -/
structure Same (w w' : World) : Prop where
  os : w'.os = w.os
  tape : w'.tape = w.tape
  output : w'.output = w.output
theorem Same.refl (w : World) : Same w w := ⟨rfl, rfl, rfl⟩
theorem Same.trans {a b c : World} (h : Same a b) (k : Same b c) : Same a c := ⟨k.os.trans h.os, k.tape.trans h.tape, k.output.trans h.output⟩
theorem Same.freeze (w : World) (a : Addr) (n : Nat) : Same w (w.freeze a n) := by
  unfold World.freeze
  split <;> exact ⟨rfl, rfl, rfl⟩

def Value.plain : Value → Bool
  | .agg _ | .tuple _ => false
  | _ => true

/-- What a piece of the model's monad promises on a heap, whatever the tape says: it comes to a value (K) or to Go's panic (X). -/
def semWp (P : Program) {α : Type} : Sem α → (α → Heap → Prop) → (Value → Heap → Prop) → Heap → Prop
  | .pure a, K, _, h => K a h
  | .load _ a k, K, X, h => ∃ v, cellH h a = some v ∧ semWp P (k v) K X h
  | .store _ a v k, K, X, h => Value.plain v = true ∧ (cellH h a).isSome = true ∧ frozenH h a = false ∧ semWp P k K X (setCellH h a v)
  | .new o k, K, X, h => semWp P (k h.size) K X (h.push o)
  | .shape r k, K, X, h => semWp P (k (shapeH h r)) K X h
  | .freeze a n k, K, X, h => semWp P k K X (freezeH h a n)
  | .frozen a k, K, X, h => semWp P (k (frozenH h a)) K X h
  | .getObj r k, K, X, h => ∃ o, h[r]? = some o ∧ (∀ c e f, o ≠ .cells c e f) ∧ semWp P (k o) K X h
  | .setObj r o k, K, X, h => (∃ o', h[r]? = some o' ∧ (∀ c e f, o' ≠ .cells c e f)) ∧ semWp P k K X (h.setIfInBounds r o)
  | .choose q k, K, X, h => if q.forced = true then semWp P (k 0) K X h else ∀ t, semWp P (k (q.cut t)) K X h
  | .sys _ _, _, _, _ => False
  | .program k, K, X, h => semWp P (k P) K X h
  | .mark _ k, K, X, h => semWp P k K X h
  | .halt (.panic v), _, X, h => X v h
  | .halt _, _, _, _ => False

theorem semWp_run {P : Program} {α : Type} (s : Sem α) : ∀ {K : α → Heap → Prop} {X : Value → Heap → Prop} (w : World), semWp P s K X w.heap →
    (∃ a w', s.run P w = .ok a w' ∧ Same w w' ∧ K a w'.heap) ∨ (∃ v w', s.run P w = .halt (.panic v) w' ∧ Same w w' ∧ X v w'.heap) := by
  induction s with
  | pure a => intro K X w h; exact .inl ⟨a, w, rfl, .refl w, h⟩
  | load m a k ih =>
    intro K X w h
    obtain ⟨v, hv, hk⟩ := h
    have : w.cell? a = some v := hv
    simp only [Sem.run, this]
    exact ih v w hk
  | store m a v k ih =>
    intro K X w h
    obtain ⟨hp, hs, hf, hk⟩ := h
    obtain ⟨x, hx⟩ := Option.isSome_iff_exists.1 hs
    have hx' : w.cell? a = some x := hx
    have hf' : w.frozen? a = false := hf
    have key : Sem.run P (.store m a v k) w = k.run P (w.setCell a v) := by
      cases v <;> simp_all [Value.plain, Sem.run]
    rw [key]
    rcases ih (w.setCell a v) hk with ⟨b, w', h1, h2, h3⟩ | ⟨b, w', h1, h2, h3⟩
    · exact .inl ⟨b, w', h1, ⟨h2.os, h2.tape, h2.output⟩, h3⟩
    · exact .inr ⟨b, w', h1, ⟨h2.os, h2.tape, h2.output⟩, h3⟩
  | new o k ih =>
    intro K X w h
    simp only [Sem.run]
    rcases ih w.heap.size { w with heap := w.heap.push o } h with ⟨b, w', h1, h2, h3⟩ | ⟨b, w', h1, h2, h3⟩
    · exact .inl ⟨b, w', h1, ⟨h2.os, h2.tape, h2.output⟩, h3⟩
    · exact .inr ⟨b, w', h1, ⟨h2.os, h2.tape, h2.output⟩, h3⟩
  | shape r k ih => intro K X w h; simp only [Sem.run]; exact ih _ w h
  | freeze a n k ih =>
    intro K X w h
    simp only [Sem.run]
    rcases ih (w.freeze a n) (by rw [freeze_heap]; exact h) with ⟨b, w', h1, h2, h3⟩ | ⟨b, w', h1, h2, h3⟩
    · exact .inl ⟨b, w', h1, (Same.freeze w a n).trans h2, h3⟩
    · exact .inr ⟨b, w', h1, (Same.freeze w a n).trans h2, h3⟩
  | frozen a k ih => intro K X w h; simp only [Sem.run]; exact ih _ w h
  | getObj r k ih =>
    intro K X w h
    obtain ⟨o, ho, hn, hk⟩ := h
    have key : Sem.run P (.getObj r k) w = (k o).run P w := by
      cases o <;> simp_all [Sem.run]
    rw [key]
    exact ih o w hk
  | setObj r o k ih =>
    intro K X w h
    obtain ⟨⟨o', ho, hn⟩, hk⟩ := h
    have key : Sem.run P (.setObj r o k) w = k.run P { w with heap := w.heap.setIfInBounds r o } := by
      cases o' <;> simp_all [Sem.run]
    rw [key]
    rcases ih { w with heap := w.heap.setIfInBounds r o } hk with ⟨b, w', h1, h2, h3⟩ | ⟨b, w', h1, h2, h3⟩
    · exact .inl ⟨b, w', h1, ⟨h2.os, h2.tape, h2.output⟩, h3⟩
    · exact .inr ⟨b, w', h1, ⟨h2.os, h2.tape, h2.output⟩, h3⟩
  | choose q k ih =>
    intro K X w h
    simp only [semWp] at h
    simp only [Sem.run]
    split at h
    · rename_i hq; simp only [hq, if_true]; exact ih _ w h
    · rename_i hq
      simp only [hq]
      rcases ih (q.cut (w.tape w.drawn q)) { w with drawn := w.drawn + 1 } (h _) with ⟨b, w', h1, h2, h3⟩ | ⟨b, w', h1, h2, h3⟩
      · exact .inl ⟨b, w', h1, ⟨h2.os, h2.tape, h2.output⟩, h3⟩
      · exact .inr ⟨b, w', h1, ⟨h2.os, h2.tape, h2.output⟩, h3⟩
  | sys c k ih => intro K X w h; exact h.elim
  | program k ih => intro K X w h; simp only [Sem.run]; exact ih _ w h
  | mark m k ih => intro K X w h; simp only [Sem.run]; exact ih w h
  | halt x =>
    intro K X w h
    cases x <;> first | exact h.elim | exact .inr ⟨_, w, rfl, .refl w, h⟩

theorem semWp_mono {P : Program} {α : Type} (s : Sem α) : ∀ {K K' : α → Heap → Prop} {X X' : Value → Heap → Prop} {h : Heap},
    (∀ a h, K a h → K' a h) → (∀ a h, X a h → X' a h) → semWp P s K X h → semWp P s K' X' h := by
  induction s with
  | pure a => intro K K' X X' h hK hX H; exact hK _ _ H
  | load m a k ih => intro K K' X X' h hK hX ⟨v, hv, H⟩; exact ⟨v, hv, ih v hK hX H⟩
  | store m a v k ih => intro K K' X X' h hK hX ⟨a, b, c, H⟩; exact ⟨a, b, c, ih hK hX H⟩
  | new o k ih => intro K K' X X' h hK hX H; exact ih _ hK hX H
  | shape r k ih => intro K K' X X' h hK hX H; exact ih _ hK hX H
  | freeze a n k ih => intro K K' X X' h hK hX H; exact ih hK hX H
  | frozen a k ih => intro K K' X X' h hK hX H; exact ih _ hK hX H
  | getObj r k ih => intro K K' X X' h hK hX ⟨o, a, b, H⟩; exact ⟨o, a, b, ih o hK hX H⟩
  | setObj r o k ih => intro K K' X X' h hK hX ⟨a, H⟩; exact ⟨a, ih hK hX H⟩
  | choose q k ih =>
    intro K K' X X' h hK hX H
    simp only [semWp] at H ⊢
    split at H
    · rename_i hq; simp only [hq, if_true]; exact ih _ hK hX H
    · rename_i hq; simp only [hq]; exact fun t => ih _ hK hX (H t)
  | sys c k ih => intro K K' X X' h hK hX H; exact H
  | program k ih => intro K K' X X' h hK hX H; exact ih _ hK hX H
  | mark m k ih => intro K K' X X' h hK hX H; exact ih hK hX H
  | halt x => intro K K' X X' h hK hX H; cases x <;> first | exact H | exact hX _ _ H

theorem semWp_bind {P : Program} {α β : Type} (s : Sem α) (f : α → Sem β) : ∀ {K : β → Heap → Prop} {X : Value → Heap → Prop} {h : Heap},
    semWp P s (fun a h' => semWp P (f a) K X h') X h → semWp P (s.bind f) K X h := by
  induction s with
  | pure a => intro K X h H; exact H
  | load m a k ih => intro K X h ⟨v, hv, H⟩; exact ⟨v, hv, ih v H⟩
  | store m a v k ih => intro K X h ⟨a, b, c, H⟩; exact ⟨a, b, c, ih H⟩
  | new o k ih => intro K X h H; exact ih _ H
  | shape r k ih => intro K X h H; exact ih _ H
  | freeze a n k ih => intro K X h H; exact ih H
  | frozen a k ih => intro K X h H; exact ih _ H
  | getObj r k ih => intro K X h ⟨o, a, b, H⟩; exact ⟨o, a, b, ih o H⟩
  | setObj r o k ih => intro K X h ⟨a, H⟩; exact ⟨a, ih H⟩
  | choose q k ih =>
    intro K X h H
    simp only [semWp, Sem.bind] at H ⊢
    split at H
    · rename_i hq; simp only [hq, if_true]; exact ih _ H
    · rename_i hq; simp only [hq]; exact fun t => ih _ (H t)
  | sys c k ih => intro K X h H; exact H
  | program k ih => intro K X h H; exact ih _ H
  | mark m k ih => intro K X h H; exact ih H
  | halt x => intro K X h H; cases x <;> exact H

/-! ## shapes -/
inductive Atom where
  | int (k : IntKind) | bool | string | pointer | slice | map | chan | func | iface
  deriving DecidableEq, Inhabited
abbrev Atom.Ty : Atom → Type
  | .int _ => Int
  | .bool => Bool
  | .string => ByteArray
  | .pointer => Option Addr
  | .slice => Option Addr × Nat × Nat
  | .map => Option Nat
  | .chan => Option Nat
  | .func => Option (Fn × Array Value × Array Value)
  | .iface => Option (TypeId × Value)
def Atom.val : (a : Atom) → a.Ty → Value
  | .int k, n => .int k n
  | .bool, b => .bool b
  | .string, s => .string s
  | .pointer, p => .pointer p
  | .slice, x => .slice x.1 x.2.1 x.2.2
  | .map, r => .map r
  | .chan, r => .chan r
  | .func, none => .nilFunc
  | .func, some x => .func x.1 x.2.1 x.2.2
  | .iface, none => .nilIface
  | .iface, some x => .iface x.1 x.2
def Atom.of : (a : Atom) → Value → Option a.Ty
  | .int k, .int k' n => if k' = k then some n else none
  | .bool, .bool b => some b
  | .string, .string s => some s
  | .pointer, .pointer p => some p
  | .slice, .slice p n c => some (p, n, c)
  | .map, .map r => some r
  | .chan, .chan r => some r
  | .func, .nilFunc => some none
  | .func, .func f a b => some (some (f, a, b))
  | .iface, .nilIface => some none
  | .iface, .iface t v => some (some (t, v))
  | _, _ => none
theorem Atom.of_val : ∀ (a : Atom) (v : Value) (x : a.Ty), a.of v = some x → v = a.val x := by
  intro a v x h
  cases a <;> cases v <;> simp only [Atom.of] at h <;> first
    | (split at h <;> simp_all [Atom.val]; done)
    | (cases h <;> rfl)
theorem Atom.val_plain (a : Atom) (x : a.Ty) : Value.plain (a.val x) = true := by
  cases a <;> first | rfl | (cases x <;> rfl)

abbrev Atoms.Ty : List Atom → Type
  | [] => Unit
  | a :: r => a.Ty × Atoms.Ty r
def Atoms.vals : (l : List Atom) → Atoms.Ty l → List Value
  | [], _ => []
  | a :: r, x => a.val x.1 :: Atoms.vals r x.2
def Atoms.of : (l : List Atom) → List Value → Option (Atoms.Ty l)
  | [], [] => some ()
  | a :: r, v :: vs => match a.of v, Atoms.of r vs with
    | some x, some y => some (x, y)
    | _, _ => none
  | _, _ => none
theorem Atoms.of_vals : ∀ (l : List Atom) (vs : List Value) (x : Atoms.Ty l), Atoms.of l vs = some x → vs = Atoms.vals l x := by
  intro l
  induction l with
  | nil => intro vs x h; cases vs <;> simp_all [Atoms.of, Atoms.vals]
  | cons a r ih =>
    intro vs x h
    cases vs with
    | nil => simp [Atoms.of] at h
    | cons v vs =>
      simp only [Atoms.of] at h
      split at h
      · rename_i x1 y1 h1 h2
        cases h
        rw [Atom.of_val a v x1 h1, ih vs y1 h2]
        rfl
      · cases h

/-- The shape of a value: one cell, or a row of cells. -/
inductive Sh1 where
  | atom (a : Atom)
  | agg (l : List Atom)
  deriving Inhabited
abbrev Sh1.Ty : Sh1 → Type
  | .atom a => a.Ty
  | .agg l => Atoms.Ty l
def Sh1.val : (s : Sh1) → s.Ty → Value
  | .atom a, x => a.val x
  | .agg l, x => .agg (Atoms.vals l x).toArray
def Sh1.of : (s : Sh1) → Value → Option s.Ty
  | .atom a, v => a.of v
  | .agg l, .agg cs => Atoms.of l cs.toList
  | .agg _, _ => none
theorem Sh1.of_val (s : Sh1) (v : Value) (x : s.Ty) (h : s.of v = some x) : v = s.val x := by
  cases s with
  | atom a => exact Atom.of_val a v x h
  | agg l =>
    cases v <;> simp only [Sh1.of] at h <;> first | cases h | skip
    rename_i cs
    have := Atoms.of_vals l cs.toList x h
    simp only [Sh1.val, ← this]

abbrev Shs.Ty : List Sh1 → Type
  | [] => Unit
  | s :: r => s.Ty × Shs.Ty r
def Shs.vals : (l : List Sh1) → Shs.Ty l → List Value
  | [], _ => []
  | a :: r, x => a.val x.1 :: Shs.vals r x.2
def Shs.of : (l : List Sh1) → List Value → Option (Shs.Ty l)
  | [], [] => some ()
  | a :: r, v :: vs => match a.of v, Shs.of r vs with
    | some x, some y => some (x, y)
    | _, _ => none
  | _, _ => none
theorem Shs.of_vals : ∀ (l : List Sh1) (vs : List Value) (x : Shs.Ty l), Shs.of l vs = some x → vs = Shs.vals l x := by
  intro l
  induction l with
  | nil => intro vs x h; cases vs <;> simp_all [Shs.of, Shs.vals]
  | cons a r ih =>
    intro vs x h
    cases vs with
    | nil => simp [Shs.of] at h
    | cons v vs =>
      simp only [Shs.of] at h
      split at h
      · rename_i x1 y1 h1 h2
        cases h
        rw [Sh1.of_val a v x1 h1, ih vs y1 h2]
        rfl
      · cases h

/-- The shape of a call's result. -/
inductive Sh where
  | one (s : Sh1)
  | tuple (l : List Sh1)
  deriving Inhabited
abbrev Sh.Ty : Sh → Type
  | .one s => s.Ty
  | .tuple l => Shs.Ty l
def Sh.val : (s : Sh) → s.Ty → Value
  | .one s, x => s.val x
  | .tuple l, x => .tuple (Shs.vals l x).toArray

/-! ## trees -/
inductive Leaf where
  | out (vs : List Value)
  | brk (id : Nat) (vs : List Value)
  | ret (v : Value)
  | pan (chain : List PanicEntry)

/-- What a function does, without its temporaries: effects, and what comes behind. -/
inductive T : Type 1 where
  | out (vs : List Value)
  | brk (id : Nat) (vs : List Value)
  | ret (v : Value)
  | pan (v : Value)
  | stuck
  | load (s : Atom) (a : Addr) (k : s.Ty → T)
  | store (a : Addr) (v : Value) (k : T)
  | new (o : Obj) (k : Nat → T)
  | sem (s : Sem Value) (sh : Sh) (k : sh.Ty → T)
  | call (f : FuncId) (args : List Value) (sh : Sh) (k : sh.Ty → T)
  | still (a : Addr) (v : Value) (k : T)
  | both (x y : T)
  | join (ss : List Sh1) (x : T) (k : Shs.Ty ss → T)
  | block (id : Nat) (ss : List Sh1) (x : T) (k : Shs.Ty ss → T)
  | loop (ss : List Sh1) (init : List Value) (body : Shs.Ty ss → T)
  | sel (c : Nat) (send : Option Value) (zero : Value) (k : Int → Bool → Value → T)
  | later (f : FuncId) (args : List Value) (x k : T)
  | must (p : Prop) (k : T)

/-- A nil pointer is ruled out. -/
def deref (p : Option Addr) (k : Addr → T) : T := match p with
  | some a => k a
  | none => .stuck
/-- A condition that must hold. -/
abbrev chk (p : Prop) [Decidable p] (k : T) : T := .must p k

/-- How a call ends. -/
inductive Fin where
  | ret (v : Value)
  | pan (chain : List PanicEntry)

def CallsH (P : Program) (f : FuncId) (args : List Value) (h : Heap) (R : Fin → Heap → Prop) : Prop :=
  ∀ w, w.heap = h → Calls P f args.toArray w fun e w' => Same w w' ∧ match e with
    | .returned v => R (.ret v) w'.heap
    | .panicked chain => R (.pan chain) w'.heap
    | .outgrown => False

theorem CallsH.mono {P : Program} {f : FuncId} {args : List Value} {h : Heap} {R R' : Fin → Heap → Prop} (H : CallsH P f args h R)
    (hr : ∀ e h', R e h' → R' e h') : CallsH P f args h R' := fun w hw => (H w hw).mono fun e w' hw' => ⟨hw'.1, by
  have h2 := hw'.2
  cases e <;> first | exact hr _ _ h2 | exact h2⟩

/-- A deferred call, made while its function leaves in the mode u. -/
def CallsDH (P : Program) (f : FuncId) (args : List Value) (u : FrameMode) (h : Heap) (R : Fin → FrameMode → Heap → Prop) : Prop :=
  ∀ w, w.heap = h → CallsD P f args.toArray u w fun e u' w' => Same w w' ∧ match e with
    | .returned v => R (.ret v) u' w'.heap
    | .panicked chain => R (.pan chain) u' w'.heap
    | .outgrown => False
theorem CallsDH.mono {P : Program} {f : FuncId} {args : List Value} {u : FrameMode} {h : Heap} {R R' : Fin → FrameMode → Heap → Prop} (H : CallsDH P f args u h R)
    (hr : ∀ e u' h', R e u' h' → R' e u' h') : CallsDH P f args u h R' := fun w hw => (H w hw).mono fun e u' w' hw' => ⟨hw'.1, by
  have h2 := hw'.2
  cases e <;> first | exact hr _ _ _ h2 | exact h2⟩

/-- A select of one case with a default. -/
def selWp (c : Nat) (send : Option Value) (zero : Value) (k : Int → Bool → Value → Heap → Prop) (h : Heap) : Prop :=
  ∃ cap buf s r, h[c]? = some (.chan cap buf false s r false) ∧ match send with
    | some v => if buf.size < cap then k 0 false zero (h.setIfInBounds c (.chan cap (buf.push v) false (s + 1) r false)) else k (-1) false zero h
    | none => if 0 < buf.size then k 0 true (buf.getD 0 undef) (h.setIfInBounds c (.chan cap (buf.extract 1 buf.size) false s (r + 1) false)) else k (-1) false zero h

/-- What a tree promises. -/
def T.wp (P : Program) : T → (Leaf → Heap → Prop) → Heap → Prop
  | .out vs, Q, h => Q (.out vs) h
  | .brk id vs, Q, h => Q (.brk id vs) h
  | .ret v, Q, h => Q (.ret v) h
  | .pan v, Q, h => Q (.pan [{ v, recovered := false }]) h
  | .stuck, _, _ => False
  | .load s a k, Q, h => ∃ x : s.Ty, cellH h a = some (s.val x) ∧ (k x).wp P Q h
  | .store a v k, Q, h => Value.plain v = true ∧ (cellH h a).isSome = true ∧ frozenH h a = false ∧ k.wp P Q (setCellH h a v)
  | .new o k, Q, h => (k h.size).wp P Q (h.push o)
  | .sem s sh k, Q, h => semWp P s (fun v h' => ∃ x : sh.Ty, v = sh.val x ∧ (k x).wp P Q h') (fun v h' => Q (.pan [{ v, recovered := false }]) h') h
  | .call f args sh k, Q, h => CallsH P f args h fun e h' => match e with
      | .ret v => ∃ x : sh.Ty, v = sh.val x ∧ (k x).wp P Q h'
      | .pan chain => Q (.pan chain) h'
  | .still a v k, Q, h => cellH h a = some v ∧ k.wp P Q h
  | .both x y, Q, h => x.wp P Q h ∧ y.wp P Q h
  | .join ss x k, Q, h => x.wp P (fun lf h' => match lf with
      | .out vs => (match Shs.of ss vs with
          | some y => (k y).wp P Q h'
          | none => False)
      | lf => Q lf h') h
  | .block id ss x k, Q, h => x.wp P (fun lf h' => match lf with
      | .out vs => (match Shs.of ss vs with
          | some y => (k y).wp P Q h'
          | none => False)
      | .brk id' vs => bif Nat.beq id' id then (match Shs.of ss vs with
          | some y => (k y).wp P Q h'
          | none => False) else Q (.brk id' vs) h'
      | lf => Q lf h') h
  | .loop ss init body, Q, h => ∃ (I : Shs.Ty ss → Heap → Prop) (μ : Shs.Ty ss → Heap → Nat),
      (∃ y, Shs.of ss init = some y ∧ I y h) ∧
      ∀ y h, I y h → (body y).wp P (fun lf h' => match lf with
        | .out vs => (match Shs.of ss vs with
            | some y' => I y' h' ∧ μ y' h' < μ y h
            | none => False)
        | lf => Q lf h') h
  | .sel c send zero k, Q, h => selWp c send zero (fun i ok v h' => (k i ok v).wp P Q h') h
  | .must p k, Q, h => p ∧ k.wp P Q h
  | .later f args x k, Q, h => x.wp P (fun lf h' => match lf with
      | .ret _ => CallsDH P f args .returning h' fun e u h'' => match e with
          | .ret _ => settle u = .returning ∧ k.wp P Q h''
          | .pan _ => False
      | .pan chain => CallsDH P f args (.panicking chain) h' fun e u h'' => match e with
          | .ret _ => (match settle u with
              | .returning => k.wp P Q h''
              | .panicking c => Q (.pan c) h''
              | .run => False)
          | .pan _ => False
      | _ => False) h

theorem T.wp_mono {P : Program} (t : T) : ∀ {Q Q' : Leaf → Heap → Prop} {h : Heap}, (∀ l h, Q l h → Q' l h) → t.wp P Q h → t.wp P Q' h := by
  induction t with
  | out vs => intro Q Q' h hq H; exact hq _ _ H
  | brk id vs => intro Q Q' h hq H; exact hq _ _ H
  | ret v => intro Q Q' h hq H; exact hq _ _ H
  | pan v => intro Q Q' h hq H; exact hq _ _ H
  | stuck => intro Q Q' h hq H; exact H
  | load s a k ih => intro Q Q' h hq ⟨x, hx, H⟩; exact ⟨x, hx, ih x hq H⟩
  | store a v k ih => intro Q Q' h hq ⟨a, b, c, H⟩; exact ⟨a, b, c, ih hq H⟩
  | new o k ih => intro Q Q' h hq H; exact ih _ hq H
  | sem s sh k ih => intro Q Q' h hq H; exact semWp_mono s (fun v h' ⟨x, hx, hk⟩ => ⟨x, hx, ih x hq hk⟩) (fun v h' hk => hq _ _ hk) H
  | call f args sh k ih =>
    intro Q Q' h hq H
    simp only [T.wp] at H ⊢
    refine CallsH.mono H fun e h' he => ?_
    cases e with
    | ret v => obtain ⟨x, hx, hk⟩ := he; exact ⟨x, hx, ih x hq hk⟩
    | pan c => exact hq _ _ he
  | still a v k ih => intro Q Q' h hq ⟨x, H⟩; exact ⟨x, ih hq H⟩
  | both x y ihx ihy => intro Q Q' h hq ⟨a, b⟩; exact ⟨ihx hq a, ihy hq b⟩
  | join ss x k ihx ihk =>
    intro Q Q' h hq H
    simp only [T.wp] at H ⊢
    refine ihx (fun lf h' hl => ?_) H
    cases lf with
    | out vs =>
      dsimp only at hl ⊢
      split at hl
      · exact ihk _ hq hl
      · exact hl
    | brk id vs => exact hq _ _ hl
    | ret v => exact hq _ _ hl
    | pan v => exact hq _ _ hl
  | block id ss x k ihx ihk =>
    intro Q Q' h hq H
    simp only [T.wp] at H ⊢
    refine ihx (fun lf h' hl => ?_) H
    cases lf with
    | out vs =>
      dsimp only at hl ⊢
      split at hl
      · exact ihk _ hq hl
      · exact hl
    | brk id' vs =>
      dsimp only at hl ⊢
      cases hb : Nat.beq id' id with
      | true =>
        simp only [hb, cond_true] at hl ⊢
        split at hl
        · exact ihk _ hq hl
        · exact hl
      | false => simp only [hb, cond_false] at hl ⊢; exact hq _ _ hl
    | ret v => exact hq _ _ hl
    | pan v => exact hq _ _ hl
  | loop ss init body ih =>
    intro Q Q' h hq ⟨I, μ, h0, hr⟩
    refine ⟨I, μ, h0, fun y h hI => ih y (fun lf h' hl => ?_) (hr y h hI)⟩
    cases lf with
    | out vs => exact hl
    | brk id vs => exact hq _ _ hl
    | ret v => exact hq _ _ hl
    | pan v => exact hq _ _ hl
  | sel c send zero k ih =>
    intro Q Q' h hq H
    obtain ⟨cap, buf, s, r, hc, H⟩ := H
    refine ⟨cap, buf, s, r, hc, ?_⟩
    cases send with
    | none =>
      by_cases hh : 0 < buf.size
      · simp only [if_pos hh] at H ⊢; exact ih _ _ _ hq H
      · simp only [if_neg hh] at H ⊢; exact ih _ _ _ hq H
    | some v =>
      by_cases hh : buf.size < cap
      · simp only [if_pos hh] at H ⊢; exact ih _ _ _ hq H
      · simp only [if_neg hh] at H ⊢; exact ih _ _ _ hq H
  | must p k ih => intro Q Q' h hq H; exact ⟨H.1, ih hq H.2⟩
  | later f args x k ihx ihk =>
    intro Q Q' h hq H
    simp only [T.wp] at H ⊢
    refine ihx (fun lf h' hl => ?_) H
    cases lf with
    | out vs => exact hl
    | brk id vs => exact hl
    | ret v =>
      exact CallsDH.mono hl fun e u h'' he => by
        cases e with
        | ret v => exact ⟨he.1, ihk hq he.2⟩
        | pan c => exact he
    | pan chain =>
      exact CallsDH.mono hl fun e u h'' he => by
        cases e with
        | ret v =>
          dsimp only at he ⊢
          generalize settle u = m at he ⊢
          cases m with
          | run => exact he
          | returning => exact ihk hq he
          | panicking c => exact hq _ _ he
        | pan c => exact he
end Go.Eng
