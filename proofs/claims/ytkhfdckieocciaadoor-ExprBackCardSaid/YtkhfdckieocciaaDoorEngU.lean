/-
  THE ENGINE, PART U: the words in which trees are proved: one law a node; what stays of a heap; rows of cells; append.
  Conditions: none; it speaks of any program.
-/
import Derived.Test.YtkhfdckieocciaaDoorEngI
import Derived.Below
import Derived.IntWalk
namespace Go.Eng
open Go

section
variable {P : Program} {Q : Leaf → Heap → Prop} {h : Heap}

/-! ## nodes -/
theorem t_load {s : Atom} {a : Addr} {k : s.Ty → T} (x : s.Ty) (hx : cellH h a = some (s.val x)) (H : (k x).wp P Q h) : (T.load s a k).wp P Q h := ⟨x, hx, H⟩
theorem t_store {a : Addr} {v : Value} {k : T} (hp : Value.plain v = true) (hs : (cellH h a).isSome = true) (hf : frozenH h a = false) (H : k.wp P Q (setCellH h a v)) : (T.store a v k).wp P Q h := ⟨hp, hs, hf, H⟩
theorem t_new {o : Obj} {k : Nat → T} (H : (k h.size).wp P Q (h.push o)) : (T.new o k).wp P Q h := H
theorem t_call {f : FuncId} {args : List Value} {sh : Sh} {k : sh.Ty → T} {R : Fin → Heap → Prop} (hc : CallsH P f args h R)
    (hk : ∀ e h', R e h' → ∃ x, e = .ret (sh.val x) ∧ (k x).wp P Q h') : (T.call f args sh k).wp P Q h := by
  simp only [T.wp]
  refine hc.mono fun e h' hr => ?_
  obtain ⟨x, rfl, H⟩ := hk e h' hr
  exact ⟨x, rfl, H⟩
theorem t_sem {s : Sem Value} {sh : Sh} {k : sh.Ty → T} (H : semWp P s (fun v h' => ∃ x : sh.Ty, v = sh.val x ∧ (k x).wp P Q h') (fun _ _ => False) h) : (T.sem s sh k).wp P Q h := by
  simp only [T.wp]
  exact semWp_mono s (fun _ _ x => x) (fun _ _ x => x.elim) H
theorem t_still {a : Addr} {v : Value} {k : T} (hx : cellH h a = some v) (H : k.wp P Q h) : (T.still a v k).wp P Q h := ⟨hx, H⟩
theorem t_both {x y : T} (hx : x.wp P Q h) (hy : y.wp P Q h) : (T.both x y).wp P Q h := ⟨hx, hy⟩
theorem t_cond {b : Bool} {x y : T} (hx : b = true → x.wp P Q h) (hy : b = false → y.wp P Q h) : (cond b x y).wp P Q h := by
  cases b
  · exact hy rfl
  · exact hx rfl
theorem t_true {b : Bool} {x y : T} (hb : b = true) (hx : x.wp P Q h) : (cond b x y).wp P Q h := by subst hb; exact hx
theorem t_false {b : Bool} {x y : T} (hb : b = false) (hy : y.wp P Q h) : (cond b x y).wp P Q h := by subst hb; exact hy
theorem t_deref {p : Option Addr} {k : Addr → T} (a : Addr) (hp : p = some a) (H : (k a).wp P Q h) : (deref p k).wp P Q h := by subst hp; exact H
theorem t_derefN {p : Option Nat} {k : Nat → T} (a : Nat) (hp : p = some a) (H : (k a).wp P Q h) : (derefN p k).wp P Q h := by subst hp; exact H
theorem t_chk {p : Prop} [Decidable p] {k : T} (hp : p) (H : k.wp P Q h) : (chk p k).wp P Q h := ⟨hp, H⟩
theorem t_ret {v : Value} (H : Q (.ret v) h) : (T.ret v).wp P Q h := H
theorem t_pan {v : Value} (H : Q (.pan [{ v, recovered := false }]) h) : (T.pan v).wp P Q h := H

def joinQ (P : Program) (ss : List Sh1) (k : Shs.Ty ss → T) (Q : Leaf → Heap → Prop) (lf : Leaf) (h' : Heap) : Prop := match lf with
  | .out vs => (match Shs.of ss vs with
      | some y => (k y).wp P Q h'
      | none => False)
  | lf => Q lf h'
theorem t_join {ss : List Sh1} {x : T} {k : Shs.Ty ss → T} (H : x.wp P (joinQ P ss k Q) h) : (T.join ss x k).wp P Q h := by
  simp only [T.wp]
  exact H
/-- Through an assertion at the join. -/
theorem t_join' {ss : List Sh1} {x : T} {k : Shs.Ty ss → T} (M : Shs.Ty ss → Heap → Prop) (H : x.wp P (fun lf h' => match lf with
      | .out vs => ∃ y, Shs.of ss vs = some y ∧ M y h'
      | lf => Q lf h') h) (hk : ∀ y h', M y h' → (k y).wp P Q h') : (T.join ss x k).wp P Q h := by
  refine t_join (T.wp_mono x (fun lf h' hl => ?_) H)
  cases lf with
  | out vs =>
    obtain ⟨y, hy, hm⟩ := hl
    show (match Shs.of ss vs with | some y => (k y).wp P Q h' | none => False)
    rw [hy]
    exact hk y h' hm
  | brk id vs => exact hl
  | ret v => exact hl
  | pan c => exact hl
theorem t_out {vs : List Value} (H : Q (.out vs) h) : (T.out vs).wp P Q h := H
theorem t_brk {id : Nat} {vs : List Value} (H : Q (.brk id vs) h) : (T.brk id vs).wp P Q h := H
theorem joinQ_out {ss : List Sh1} {k : Shs.Ty ss → T} {vs : List Value} (y : Shs.Ty ss) (hy : Shs.of ss vs = some y) (H : (k y).wp P Q h) : joinQ P ss k Q (.out vs) h := by
  show (match Shs.of ss vs with | some y => (k y).wp P Q h | none => False)
  rw [hy]
  exact H
def blockQ (P : Program) (id : Nat) (ss : List Sh1) (k : Shs.Ty ss → T) (Q : Leaf → Heap → Prop) (lf : Leaf) (h' : Heap) : Prop := match lf with
  | .out vs => (match Shs.of ss vs with
      | some y => (k y).wp P Q h'
      | none => False)
  | .brk id' vs => bif Nat.beq id' id then (match Shs.of ss vs with
      | some y => (k y).wp P Q h'
      | none => False) else Q (.brk id' vs) h'
  | lf => Q lf h'
theorem t_block {id : Nat} {ss : List Sh1} {x : T} {k : Shs.Ty ss → T} (H : x.wp P (blockQ P id ss k Q) h) : (T.block id ss x k).wp P Q h := by
  simp only [T.wp]
  exact H
theorem t_block' {id : Nat} {ss : List Sh1} {x : T} {k : Shs.Ty ss → T} (M : Shs.Ty ss → Heap → Prop) (H : x.wp P (fun lf h' => match lf with
      | .out vs => ∃ y, Shs.of ss vs = some y ∧ M y h'
      | .brk id' vs => bif Nat.beq id' id then (∃ y, Shs.of ss vs = some y ∧ M y h') else Q (.brk id' vs) h'
      | lf => Q lf h') h) (hk : ∀ y h', M y h' → (k y).wp P Q h') : (T.block id ss x k).wp P Q h := by
  refine t_block (T.wp_mono x (fun lf h' hl => ?_) H)
  cases lf with
  | out vs =>
    obtain ⟨y, hy, hm⟩ := hl
    show (match Shs.of ss vs with | some y => (k y).wp P Q h' | none => False)
    rw [hy]
    exact hk y h' hm
  | brk id' vs =>
    unfold blockQ
    dsimp only at hl ⊢
    cases hb : Nat.beq id' id with
    | true =>
      rw [hb] at hl
      obtain ⟨y, hy, hm⟩ := hl
      rw [hy]
      exact hk y h' hm
    | false => rw [hb] at hl; exact hl
  | ret v => exact hl
  | pan c => exact hl
theorem blockQ_out {id : Nat} {ss : List Sh1} {k : Shs.Ty ss → T} {vs : List Value} (y : Shs.Ty ss) (hy : Shs.of ss vs = some y) (H : (k y).wp P Q h) : blockQ P id ss k Q (.out vs) h := by
  show (match Shs.of ss vs with | some y => (k y).wp P Q h | none => False)
  rw [hy]
  exact H
theorem blockQ_brk {id : Nat} {ss : List Sh1} {k : Shs.Ty ss → T} {vs : List Value} (y : Shs.Ty ss) (hy : Shs.of ss vs = some y) (H : (k y).wp P Q h) : blockQ P id ss k Q (.brk id vs) h := by
  unfold blockQ
  have : Nat.beq id id = true := by simp
  simp only [this, cond_true, hy]
  exact H

def loopQ (ss : List Sh1) (I : Shs.Ty ss → Heap → Prop) (μ : Shs.Ty ss → Heap → Nat) (m : Nat) (Q : Leaf → Heap → Prop) (lf : Leaf) (h' : Heap) : Prop := match lf with
  | .out vs => (match Shs.of ss vs with
      | some y' => I y' h' ∧ μ y' h' < m
      | none => False)
  | lf => Q lf h'
theorem t_loop {ss : List Sh1} {init : List Value} {body : Shs.Ty ss → T} (I : Shs.Ty ss → Heap → Prop) (μ : Shs.Ty ss → Heap → Nat) (y0 : Shs.Ty ss) (h0 : Shs.of ss init = some y0) (hi : I y0 h)
    (hr : ∀ y h, I y h → (body y).wp P (loopQ ss I μ (μ y h) Q) h) : (T.loop ss init body).wp P Q h := ⟨I, μ, ⟨y0, h0, hi⟩, hr⟩
theorem loopQ_out {ss : List Sh1} {I : Shs.Ty ss → Heap → Prop} {μ : Shs.Ty ss → Heap → Nat} {m : Nat} {vs : List Value} (y : Shs.Ty ss) (hy : Shs.of ss vs = some y) (hI : I y h) (hm : μ y h < m) : loopQ ss I μ m Q (.out vs) h := by
  show (match Shs.of ss vs with | some y' => I y' h ∧ μ y' h < m | none => False)
  rw [hy]
  exact ⟨hI, hm⟩

/-- A loop with a way out: the relation I at each round's head, the measure, what holds at the way out. -/
def forQ (id : Nat) (ss : List Sh1) (I : Shs.Ty ss → Heap → Prop) (μ : Shs.Ty ss → Heap → Nat) (m : Nat) (M : Shs.Ty ss → Heap → Prop) (Q : Leaf → Heap → Prop) (lf : Leaf) (h' : Heap) : Prop := match lf with
  | .out vs => ∃ y, Shs.of ss vs = some y ∧ I y h' ∧ μ y h' < m
  | .brk id' vs => bif Nat.beq id' id then (∃ y, Shs.of ss vs = some y ∧ M y h') else Q (.brk id' vs) h'
  | lf => Q lf h'
theorem t_for {id : Nat} {ss : List Sh1} {init : List Value} {body : Shs.Ty ss → T} {k : Shs.Ty ss → T} (I : Shs.Ty ss → Heap → Prop) (μ : Shs.Ty ss → Heap → Nat) (M : Shs.Ty ss → Heap → Prop)
    (y0 : Shs.Ty ss) (h0 : Shs.of ss init = some y0) (hi : I y0 h) (hr : ∀ y h, I y h → (body y).wp P (forQ id ss I μ (μ y h) M Q) h) (hk : ∀ y h', M y h' → (k y).wp P Q h') :
    (T.block id ss (T.loop ss init body) k).wp P Q h := by
  refine t_block' M (t_loop I μ y0 h0 hi fun y g hI => T.wp_mono _ (fun lf h' hl => ?_) (hr y g hI)) hk
  cases lf with
  | out vs =>
    obtain ⟨y', h1, h2, h3⟩ := hl
    exact loopQ_out y' h1 h2 h3
  | brk id' vs => exact hl
  | ret v => exact hl
  | pan c => exact hl
section
variable {id : Nat} {ss : List Sh1} {I : Shs.Ty ss → Heap → Prop} {μ : Shs.Ty ss → Heap → Nat} {m : Nat} {M : Shs.Ty ss → Heap → Prop}
theorem t_next {vs : List Value} (y : Shs.Ty ss) (hy : Shs.of ss vs = some y) (hI : I y h) (hm : μ y h < m) : (T.out vs).wp P (forQ id ss I μ m M Q) h := ⟨y, hy, hI, hm⟩
theorem t_exit {vs : List Value} (y : Shs.Ty ss) (hy : Shs.of ss vs = some y) (hM : M y h) : (T.brk id vs).wp P (forQ id ss I μ m M Q) h := by
  show forQ id ss I μ m M Q (.brk id vs) h
  unfold forQ
  have : Nat.beq id id = true := by simp
  simp only [this, cond_true]
  exact ⟨y, hy, hM⟩
end
theorem t_jout {ss : List Sh1} {k : Shs.Ty ss → T} {vs : List Value} (y : Shs.Ty ss) (hy : Shs.of ss vs = some y) (H : (k y).wp P Q h) : (T.out vs).wp P (joinQ P ss k Q) h := joinQ_out y hy H
theorem t_bout {id : Nat} {ss : List Sh1} {k : Shs.Ty ss → T} {vs : List Value} (y : Shs.Ty ss) (hy : Shs.of ss vs = some y) (H : (k y).wp P Q h) : (T.out vs).wp P (blockQ P id ss k Q) h := blockQ_out y hy H
theorem t_bbrk {id : Nat} {ss : List Sh1} {k : Shs.Ty ss → T} {vs : List Value} (y : Shs.Ty ss) (hy : Shs.of ss vs = some y) (H : (k y).wp P Q h) : (T.brk id vs).wp P (blockQ P id ss k Q) h := blockQ_brk y hy H

theorem forQ_ret {id : Nat} {ss : List Sh1} {I : Shs.Ty ss → Heap → Prop} {μ : Shs.Ty ss → Heap → Nat} {m : Nat} {M : Shs.Ty ss → Heap → Prop} {v : Value} (H : Q (.ret v) h) : forQ id ss I μ m M Q (.ret v) h := H
theorem joinQ_ret {ss : List Sh1} {k : Shs.Ty ss → T} {v : Value} (H : Q (.ret v) h) : joinQ P ss k Q (.ret v) h := H
theorem blockQ_ret {id : Nat} {ss : List Sh1} {k : Shs.Ty ss → T} {v : Value} (H : Q (.ret v) h) : blockQ P id ss k Q (.ret v) h := H
/-- Through an inner join to a loop's own ends. -/
theorem joinQ_brk {ss : List Sh1} {k : Shs.Ty ss → T} {id : Nat} {vs : List Value} (H : Q (.brk id vs) h) : joinQ P ss k Q (.brk id vs) h := H
theorem forQ_brk {id : Nat} {ss : List Sh1} {I : Shs.Ty ss → Heap → Prop} {μ : Shs.Ty ss → Heap → Nat} {m : Nat} {M : Shs.Ty ss → Heap → Prop} {vs : List Value} (y : Shs.Ty ss) (hy : Shs.of ss vs = some y) (hM : M y h) : forQ id ss I μ m M Q (.brk id vs) h := by
  unfold forQ
  have : Nat.beq id id = true := by simp
  simp only [this, cond_true]
  exact ⟨y, hy, hM⟩

@[simp] theorem sh_val_atom (a : Atom) (x : a.Ty) : (Sh.one (Sh1.atom a)).val x = a.val x := rfl
@[simp] theorem sh1_val_atom (a : Atom) (x : a.Ty) : (Sh1.atom a).val x = a.val x := rfl
@[simp] theorem val_int (k : IntKind) (x : Int) : (Atom.int k).val x = .int k x := rfl
@[simp] theorem val_bool (x : Bool) : Atom.bool.val x = .bool x := rfl
@[simp] theorem val_string (x : ByteArray) : Atom.string.val x = .string x := rfl
@[simp] theorem val_pointer (x : Option Addr) : Atom.pointer.val x = .pointer x := rfl
@[simp] theorem val_slice (x : Option Addr × Nat × Nat) : Atom.slice.val x = .slice x.1 x.2.1 x.2.2 := rfl
@[simp] theorem val_map (x : Option Nat) : Atom.map.val x = .map x := rfl

theorem w64 {n : Int} (h0 : -9223372036854775808 ≤ n) (h1 : n ≤ 9223372036854775807) : IntKind.wrap .i64 n = n := IntWalk.i64_in n ⟨h0, h1⟩

/-- A call that comes back. -/
def Back (S : Value → Heap → Prop) (e : Fin) (h' : Heap) : Prop := ∃ v, e = .ret v ∧ S v h'
theorem t_callB {f : FuncId} {args : List Value} {sh : Sh} {k : sh.Ty → T} {S : Value → Heap → Prop} (hc : CallsH P f args h (Back S))
    (hk : ∀ v h', S v h' → ∃ x, v = sh.val x ∧ (k x).wp P Q h') : (T.call f args sh k).wp P Q h :=
  t_call hc fun e h' ⟨v, he, hs⟩ => by
    obtain ⟨x, hx, H⟩ := hk v h' hs
    exact ⟨x, by rw [he, hx], H⟩
theorem finOf_back {S : Value → Heap → Prop} {v : Value} (H : S v h) : finOf (Back S) (.ret v) h := ⟨v, rfl, H⟩
end

/-! ## what stays -/
/-- All blocks that were there are as they were, but for those of M. -/
def Keep (M : List Nat) (h h' : Heap) : Prop := h.size ≤ h'.size ∧ ∀ i, i < h.size → i ∉ M → h'[i]? = h[i]?
theorem Keep.refl (M : List Nat) (h : Heap) : Keep M h h := ⟨Nat.le_refl _, fun _ _ _ => rfl⟩
theorem Keep.trans {M : List Nat} {a b c : Heap} (h : Keep M a b) (k : Keep M b c) : Keep M a c :=
  ⟨Nat.le_trans h.1 k.1, fun i hi hm => (k.2 i (Nat.lt_of_lt_of_le hi h.1) hm).trans (h.2 i hi hm)⟩
theorem Keep.mono {M M' : List Nat} {a b : Heap} (h : Keep M a b) (hM : ∀ i, i ∈ M → i ∈ M') : Keep M' a b := ⟨h.1, fun i hi hm => h.2 i hi fun h' => hm (hM i h')⟩
/-- What is changed among new blocks alone. -/
theorem Keep.new {M M' : List Nat} {a b c : Heap} (h : Keep M a b) (k : Keep M' b c) (hM : ∀ i, i ∈ M' → i ∈ M ∨ a.size ≤ i) : Keep M a c :=
  ⟨Nat.le_trans h.1 k.1, fun i hi hm => (k.2 i (Nat.lt_of_lt_of_le hi h.1) fun h' => (hM i h').elim hm (fun g => by omega)).trans (h.2 i hi hm)⟩
theorem Keep.push (M : List Nat) (h : Heap) (o : Obj) : Keep M h (h.push o) := ⟨by simp, fun i hi _ => by rw [Array.getElem?_push]; simp; omega⟩
theorem Keep.set (h : Heap) (c : Nat) (o : Obj) : Keep [c] h (h.setIfInBounds c o) :=
  ⟨by simp, fun i _ hm => by simp at hm; rw [Array.getElem?_setIfInBounds_ne (fun e => hm e.symm)]⟩
theorem setCellH_ne {h : Heap} {a : Addr} {v : Value} {i : Nat} (hi : i ≠ a.block) : (setCellH h a v)[i]? = h[i]? := by
  unfold setCellH ofHeap World.setCell
  simp only [Array.getElem?_modify]
  rw [if_neg (by omega)]
theorem setCellH_size {h : Heap} {a : Addr} {v : Value} : (setCellH h a v).size = h.size := by
  unfold setCellH ofHeap World.setCell
  simp
theorem Keep.setCell (h : Heap) (a : Addr) (v : Value) : Keep [a.block] h (setCellH h a v) :=
  ⟨by rw [setCellH_size]; exact Nat.le_refl _, fun i _ hm => setCellH_ne (by simpa using hm)⟩
theorem Keep.at {M : List Nat} {h h' : Heap} (k : Keep M h h') {i : Nat} {o : Obj} (ho : h[i]? = some o) (hm : i ∉ M) : h'[i]? = some o := by
  have hlt : i < h.size := by
    rcases Nat.lt_or_ge i h.size with g | g
    · exact g
    · rw [Array.getElem?_eq_none g] at ho; cases ho
  rw [k.2 i hlt hm]; exact ho

theorem cellH_of {h : Heap} {a : Addr} {c : Array Value} {t : TypeId} {f : Nat × Nat} (hb : h[a.block]? = some (.cells c t f)) (hs : a.spot = none) : cellH h a = c[a.off]? := by
  unfold cellH ofHeap World.cell?
  simp [hb, hs]
theorem cellH_block {h h' : Heap} {a : Addr} (hb : h'[a.block]? = h[a.block]?) : cellH h' a = cellH h a := by
  unfold cellH ofHeap World.cell?
  simp only [hb]
theorem frozenH_block {h h' : Heap} {a : Addr} (hb : h'[a.block]? = h[a.block]?) : frozenH h' a = frozenH h a := by
  unfold frozenH ofHeap World.frozen?
  simp only [hb]
theorem cellH_lt {h : Heap} {a : Addr} {v : Value} (hc : cellH h a = some v) : a.block < h.size := by
  rcases Nat.lt_or_ge a.block h.size with g | g
  · exact g
  · unfold cellH ofHeap World.cell? at hc
    simp [Array.getElem?_eq_none g] at hc
theorem Keep.cell {M : List Nat} {h h' : Heap} (k : Keep M h h') {a : Addr} {v : Value} (hc : cellH h a = some v) (hm : a.block ∉ M) : cellH h' a = some v := by
  rw [cellH_block (k.2 a.block (cellH_lt hc) hm)]; exact hc

theorem add_block (a : Addr) (n : Nat) : (a.add n).block = a.block := by unfold Addr.add; split <;> rfl
theorem add_zero (a : Addr) : a.add 0 = a := by simp [Addr.add]
theorem add_mk (b o n : Nat) : (⟨b, o, none⟩ : Addr).add n = ⟨b, o + n, none⟩ := by
  unfold Addr.add
  split
  · rename_i h; subst h; rfl
  · rfl
theorem add_add (a : Addr) (m n : Nat) : (a.add m).add n = a.add (m + n) := by
  unfold Addr.add
  by_cases hm : m = 0
  · subst hm; simp
  · by_cases hn : n = 0
    · subst hn; simp
    · simp [hm, hn, Nat.add_assoc]

/-- A slice's cells read so. -/
def CellsAt (h : Heap) (p : Option Addr) (vs : List Value) : Prop := ∀ i v, vs[i]? = some v → ∃ a, p = some a ∧ cellH h (a.add i) = some v
def blk : Option Addr → List Nat
  | some a => [a.block]
  | none => []
theorem CellsAt.nil (h : Heap) (p : Option Addr) : CellsAt h p [] := fun i v hv => by simp at hv
theorem CellsAt.keep {M : List Nat} {h h' : Heap} {p : Option Addr} {vs : List Value} (c : CellsAt h p vs) (k : Keep M h h') (hm : ∀ i, i ∈ blk p → i ∉ M) : CellsAt h' p vs := fun i v hv => by
  obtain ⟨a, rfl, hc⟩ := c i v hv
  exact ⟨a, rfl, k.cell hc (by rw [add_block]; exact hm a.block (by simp [blk]))⟩
theorem CellsAt.get {h : Heap} {p : Option Addr} {vs : List Value} (c : CellsAt h p vs) {i : Nat} {v : Value} (hv : vs[i]? = some v) : ∃ a, p = some a ∧ cellH h (a.add i) = some v := c i v hv
theorem CellsAt.old {h : Heap} {p : Option Addr} {vs : List Value} (c : CellsAt h p vs) (hn : vs ≠ []) : ∀ i, i ∈ blk p → i < h.size := fun i hi => by
  cases vs with
  | nil => exact absurd rfl hn
  | cons v r =>
    obtain ⟨a, rfl, hc⟩ := c 0 v rfl
    simp [blk] at hi
    subst hi
    rw [← add_block a 0]
    exact cellH_lt hc

/-- A slice that is the function's own: nil, or a row of an unfrozen block, with room up to its capacity. -/
def Own (sz : Nat) (ty : TypeId) (h : Heap) (p : Option Addr) (n c : Nat) (vs : List Value) : Prop :=
  (p = none ∧ n = 0 ∧ c = 0 ∧ vs = []) ∨
  (∃ b off arr, p = some ⟨b, off, none⟩ ∧ h[b]? = some (.cells arr ty (0, 0)) ∧ vs.length = n * sz ∧ n ≤ c ∧ off + c * sz ≤ arr.size ∧ ∀ i v, vs[i]? = some v → arr[off + i]? = some v)
theorem Own.cells {sz : Nat} {ty : TypeId} {h : Heap} {p : Option Addr} {n c : Nat} {vs : List Value} (o : Own sz ty h p n c vs) : CellsAt h p vs := by
  rcases o with ⟨rfl, _, _, rfl⟩ | ⟨b, off, arr, rfl, hb, h1, h2, h3, h4⟩
  · exact CellsAt.nil h none
  · intro i v hv
    exact ⟨_, rfl, by rw [add_mk, cellH_of hb rfl]; exact h4 i v hv⟩
theorem Own.length {sz : Nat} {ty : TypeId} {h : Heap} {p : Option Addr} {n c : Nat} {vs : List Value} (o : Own sz ty h p n c vs) : vs.length = n * sz := by
  rcases o with ⟨_, rfl, _, rfl⟩ | ⟨b, off, arr, _, hb, h1, _⟩
  · simp
  · exact h1
theorem Own.keep {sz : Nat} {ty : TypeId} {M : List Nat} {h h' : Heap} {p : Option Addr} {n c : Nat} {vs : List Value} (o : Own sz ty h p n c vs) (k : Keep M h h') (hm : ∀ i, i ∈ blk p → i ∉ M) : Own sz ty h' p n c vs := by
  rcases o with h0 | ⟨b, off, arr, rfl, hb, h1⟩
  · exact .inl h0
  · exact .inr ⟨b, off, arr, rfl, k.at hb (hm b (by simp [blk])), h1⟩
theorem Own.nil (sz : Nat) (ty : TypeId) (h : Heap) : Own sz ty h none 0 0 [] := .inl ⟨rfl, rfl, rfl, rfl⟩
theorem Own.ty {sz : Nat} {ty : TypeId} {h : Heap} {p : Option Addr} {n c : Nat} {vs : List Value} (o : Own sz ty h p n c vs) : ∀ i, i ∈ blk p → ∃ arr, h[i]? = some (.cells arr ty (0, 0)) := by
  rcases o with ⟨rfl, _⟩ | ⟨b, off, arr, rfl, hb, _⟩
  · intro i hi; cases hi
  · intro i hi
    simp [blk] at hi
    subst hi
    exact ⟨arr, hb⟩
theorem Own.cap {sz : Nat} {ty : TypeId} {h : Heap} {p : Option Addr} {n c : Nat} {vs : List Value} (o : Own sz ty h p n c vs) : n ≤ c := by
  rcases o with ⟨rfl, rfl, rfl, _⟩ | ⟨b, off, arr, rfl, hb, _, h, _⟩
  · exact Nat.le_refl _
  · exact h
theorem Own.old {sz : Nat} {ty : TypeId} {h : Heap} {p : Option Addr} {n c : Nat} {vs : List Value} (o : Own sz ty h p n c vs) : ∀ i, i ∈ blk p → i < h.size := by
  rcases o with ⟨rfl, _⟩ | ⟨b, off, arr, rfl, hb, _⟩
  · intro i hi; cases hi
  · intro i hi
    simp [blk] at hi
    subst hi
    rcases Nat.lt_or_ge i h.size with g | g
    · exact g
    · rw [Array.getElem?_eq_none g] at hb; cases hb

/-! ## append -/
theorem loadCells_wp {P : Program} {X : Value → Heap → Prop} {h : Heap} {a : Addr} : ∀ (vs : List Value) (i : Nat) (acc : Array Value) {K : Array Value → Heap → Prop},
    (∀ j v, vs[j]? = some v → cellH h (a.add (i + j)) = some v) → K (acc ++ vs.toArray) h → semWp P (loadCellsFrom a i vs.length acc) K X h := by
  intro vs
  induction vs with
  | nil => intro i acc K _ hk; simpa [loadCellsFrom, pure, semWp] using hk
  | cons v r ih =>
    intro i acc K hc hk
    refine ⟨v, by simpa using hc 0 v rfl, ?_⟩
    refine ih (i + 1) (acc.push v) (fun j u hj => ?_) ?_
    · have := hc (j + 1) u (by simpa using hj)
      rw [show i + 1 + j = i + (j + 1) by omega]; exact this
    · have e : acc ++ (v :: r).toArray = acc.push v ++ r.toArray := by
        apply Array.ext'
        simp
      rw [← e]; exact hk

theorem setCellH_at {h : Heap} {b off : Nat} {arr : Array Value} {ty : TypeId} {f : Nat × Nat} {v : Value} (hb : h[b]? = some (.cells arr ty f)) :
    (setCellH h ⟨b, off, none⟩ v)[b]? = some (.cells (arr.setIfInBounds off v) ty f) := by
  unfold setCellH ofHeap World.setCell
  simp [Array.getElem?_modify, hb]

/-- Cells stored in a row: the block holds them. -/
theorem storeCells_wp {P : Program} {X : Value → Heap → Prop} {b off : Nat} {ty : TypeId} : ∀ (vs : List Value) (i : Nat) (h : Heap) (arr : Array Value) {K : Unit → Heap → Prop},
    (∀ v ∈ vs, Value.plain v = true) → h[b]? = some (.cells arr ty (0, 0)) → off + i + vs.length ≤ arr.size →
    (∀ h' arr', h'[b]? = some (.cells arr' ty (0, 0)) → arr'.size = arr.size → (∀ j, (j < off + i ∨ off + i + vs.length ≤ j) → arr'[j]? = arr[j]?) → (∀ j v, vs[j]? = some v → arr'[off + i + j]? = some v) →
      h'.size = h.size → (∀ k, k ≠ b → h'[k]? = h[k]?) → K () h') → semWp P (storeCells ⟨b, off, none⟩ vs i) K X h := by
  intro vs
  induction vs with
  | nil => intro i h arr K _ hb _ hk; exact hk h arr hb rfl (fun _ _ => rfl) (fun j v hj => by simp at hj) rfl (fun _ _ => rfl)
  | cons v r ih =>
    intro i h arr K hp hb hle hk
    simp only [List.length_cons] at hle
    have hcell : cellH h (Addr.add ⟨b, off, none⟩ i) = arr[off + i]? := by rw [add_mk, cellH_of (c := arr) (t := ty) (f := (0, 0)) hb rfl]
    refine ⟨hp v (List.mem_cons_self ..), ?_, ?_, ?_⟩
    · rw [hcell]; simp; omega
    · rw [add_mk]; unfold frozenH ofHeap World.frozen?; simp [hb]
    · rw [add_mk]
      have hb1 := setCellH_at (off := off + i) (v := v) hb
      refine ih (i + 1) (setCellH h ⟨b, off + i, none⟩ v) (arr.setIfInBounds (off + i) v) (fun u hu => hp u (List.mem_cons_of_mem _ hu)) hb1 (by simp; omega) ?_
      intro h' arr' g1 g2 g3 g4 g5 g6
      refine hk h' arr' g1 (by simpa using g2) (fun j hj => ?_) (fun j u hj => ?_) (by rw [g5, setCellH_size]) (fun k hk' => by rw [g6 k hk']; exact setCellH_ne hk')
      · simp only [List.length_cons] at hj
        rw [g3 j (by omega), Array.getElem?_setIfInBounds_ne (by omega)]
      · cases j with
        | zero =>
          simp at hj; subst hj
          rw [g3 (off + i + 0) (by omega), Nat.add_zero]
          rw [Array.getElem?_setIfInBounds]
          simp only [if_true]
          rw [if_pos (by omega)]
        | succ j =>
          have := g4 j u (by simpa using hj)
          rw [show off + i + (j + 1) = off + (i + 1) + j by omega]; exact this

/-- What an append asks of the tables. -/
structure AppT (P : Program) (st xt elem : TypeId) (sz : Nat) : Prop where
  st : P.underlying st = some (.slice elem)
  xt : P.underlying xt = some (.slice elem) ∨ P.underlying xt = some .string
  info : ∃ i, P.info? elem = some i ∧ i.size = sz ∧ (∃ z, i.zero = some z ∧ z.cells.size = sz) ∧ 0 < i.bytes ∧ i.bytes ≤ 4096
  pos : 0 < sz

theorem growBy_le (newLen : Nat) : ∀ (r c : Nat), Builtin.growBy newLen r c ≤ max c (newLen + (newLen + 768) / 4) := by
  intro r
  induction r with
  | zero => intro c; simp only [Builtin.growBy]; omega
  | succ r ih =>
    intro c
    simp only [Builtin.growBy]
    split
    · omega
    · have := ih (c + (c + 768) / 4)
      omega
theorem nextcap_le (need c : Nat) (h : c < need) : Builtin.nextslicecap need c ≤ 2 * need + 200 := by
  unfold Builtin.nextslicecap
  split
  · omega
  · split
    · omega
    · have := growBy_le need 4 c
      omega

/-- How a row grew: in place, or into a new block of its own. -/
def Grew (sz : Nat) (elem : TypeId) (h h' : Heap) (p : Option Addr) (c : Nat) (p' : Option Addr) (c' : Nat) : Prop :=
  (p' = p ∧ c' = c ∧ ∀ b off, p = some ⟨b, off, none⟩ → ∀ arr f, h[b]? = some (.cells arr elem f) → ∃ arr', h'[b]? = some (.cells arr' elem (0, 0)) ∧ arr'.size = arr.size) ∨
  (p' = some ⟨h.size, 0, none⟩ ∧ c' ≤ maxLen ∧ ∃ arr, h'[h.size]? = some (.cells arr elem (0, 0)) ∧ arr.size = c' * sz)
theorem append_wpX {P : Program} {h : Heap} {st xt rt elem : TypeId} {sz : Nat} (A : AppT P st xt elem sz) {p xp : Option Addr} {n c m xc : Nat} {vs ws : List Value}
    (o : Own sz elem h p n c vs) (cx : CellsAt h xp ws) (hm : ws.length = m * sz) (hpl : ∀ v ∈ ws, Value.plain v = true) (hle : n + m ≤ 1073741824)
    {K : Value → Heap → Prop} {X : Value → Heap → Prop}
    (hk : ∀ p' c' h', Own sz elem h' p' (n + m) c' (vs ++ ws) → Keep (blk p) h h' → (∀ i, i ∈ blk p' → i ∈ blk p ∨ h.size ≤ i) → Grew sz elem h h' p c p' c' → K (.slice p' (n + m) c') h') :
    semWp P (Builtin.append_ #[st, xt] rt #[.slice p n c, .slice xp m xc]) K X h := by
  obtain ⟨i, hi, hsz, ⟨z, hz, hzs⟩, hb0, hb⟩ := A.info
  have hxt : ∃ d, P.underlying xt = some d ∧ (d matches .int _) = false := by
    rcases A.xt with g | g <;> exact ⟨_, g, rfl⟩
  obtain ⟨d, hd, hdi⟩ := hxt
  have first : ∀ {K' : Array Value → Heap → Prop} (q : Option Addr) (k kc : Nat) (us : List Value), CellsAt h q us → us.length = k * sz → K' us.toArray h →
      semWp P (Builtin.firstCells sz k (.slice q k kc)) K' X h := by
    intro K' q k kc us hq hl hk'
    cases q with
    | none =>
      cases us with
      | nil => exact hk'
      | cons u r => obtain ⟨a, ha, _⟩ := hq 0 u rfl; cases ha
    | some a =>
      show semWp P (loadCellsFrom a 0 (k * sz) #[]) K' X h
      rw [← hl]
      refine loadCells_wp us 0 #[] (fun j v hj => ?_) (by simpa using hk')
      obtain ⟨a', ha', hc⟩ := hq j v hj
      cases ha'
      simpa using hc
  unfold Builtin.append_
  simp only [List.getElem?_toArray, List.getElem?_cons_zero, List.getElem?_cons_succ]
  refine underlying_run A.st ?_
  refine sizeOf_run hi ?_
  rw [hsz]
  have key : ∀ (K : Value → Heap → Prop), (∀ p' c' h', Own sz elem h' p' (n + m) c' (vs ++ ws) → Keep (blk p) h h' → (∀ i, i ∈ blk p' → i ∈ blk p ∨ h.size ≤ i) → Grew sz elem h h' p c p' c' → K (.slice p' (n + m) c') h') →
      (n + m ≤ c → semWp P ((Builtin.firstCells sz m (Value.slice xp m xc)).bind fun new =>
        match p with
        | some a => (storeCells (a.add (n * sz)) new.toList).bind fun __r => Sem.pure (Value.slice p (n + m) c)
        | _ => Sem.pure (Value.slice p (n + m) c)) K X h) ∧
      (¬ n + m ≤ c → semWp P ((choose (Question.appendCap (n + m) c elem)).bind fun newCap =>
        (typeInfo elem).bind fun i =>
          (askRoom (newCap * i.bytes)).bind fun __r =>
            (Builtin.firstCells sz n (Value.slice p n c)).bind fun old =>
              (Builtin.firstCells sz m (Value.slice xp m xc)).bind fun new =>
                (zeroValue elem).bind fun z =>
                  (newRow elem (old ++ new ++ Builtin.zeroCells z.cells (newCap - (n + m)))).bind
                    fun a => Sem.pure (Value.slice (some a) (n + m) newCap)) K X h) := by
    intro K hk
    have hlen := o.length
    constructor
    · intro hfit
      refine semWp_bind _ _ (first xp m xc ws cx hm ?_)
      rcases o with ⟨rfl, rfl, rfl, rfl⟩ | ⟨b, off, arr, rfl, hbk, h1, h2, h3, h4⟩
      · have : m = 0 := by omega
        subst this
        have : ws = [] := List.eq_nil_of_length_eq_zero (by simpa using hm)
        subst this
        exact hk none 0 h (Own.nil sz elem h) (Keep.refl _ h) (fun i hi => .inl hi) (.inl ⟨rfl, rfl, fun b off e => by cases e⟩)
      · dsimp only
        refine semWp_bind _ _ ?_
        rw [add_mk]
        have hmul : (n + m) * sz ≤ c * sz := Nat.mul_le_mul_right sz hfit
        rw [Nat.add_mul] at hmul
        refine storeCells_wp ws 0 h arr hpl hbk (by rw [hm]; omega) ?_
        intro h' arr' g1 g2 g3 g4 g5 g6
        refine hk _ c h' (.inr ⟨b, off, arr', rfl, g1, ?_, hfit, by omega, ?_⟩) ⟨by omega, fun i _ hi => g6 i (by simpa [blk] using hi)⟩ (fun i hi => .inl hi) (.inl ⟨rfl, rfl, fun b' off' e arr0 f e0 => by cases e; rw [hbk] at e0; cases e0; exact ⟨arr', g1, g2⟩⟩)
        · rw [List.length_append, h1, hm, Nat.add_mul]
        · intro i v hv
          rcases Nat.lt_or_ge i vs.length with hi' | hi'
          · rw [List.getElem?_append_left hi'] at hv
            rw [g3 (off + i) (by omega)]
            exact h4 i v hv
          · rw [List.getElem?_append_right hi'] at hv
            have := g4 (i - vs.length) v hv
            rw [show off + i = off + n * sz + 0 + (i - vs.length) by omega]
            exact this
    · intro hgrow
      show semWp P (.choose _ _) K X h
      simp only [semWp]
      rw [if_neg (by simp [Question.forced])]
      intro t
      have hcut : n + m ≤ (Question.appendCap (n + m) c elem).cut t := by simp only [Question.cut]; omega
      have hnc : (Question.appendCap (n + m) c elem).cut t ≤ maxLen := by
        simp only [Question.cut]
        have := Nat.mod_lt t (y := 2 ^ 63 - (n + m)) (by omega)
        unfold maxLen
        omega
      generalize (Question.appendCap (n + m) c elem).cut t = nc at hcut hnc
      refine typeInfo_run hi ?_
      have rest : semWp P ((Builtin.firstCells sz n (Value.slice p n c)).bind fun old =>
              (Builtin.firstCells sz m (Value.slice xp m xc)).bind fun new =>
                (zeroValue elem).bind fun z =>
                  (newRow elem (old ++ new ++ Builtin.zeroCells z.cells (nc - (n + m)))).bind
                    fun a => Sem.pure (Value.slice (some a) (n + m) nc)) K X h := by
        refine semWp_bind _ _ (first p n c vs o.cells hlen ?_)
        refine semWp_bind _ _ (first xp m xc ws cx hm ?_)
        have ez : (zeroValue elem) = Sem.program fun P' => ((match P'.info? elem with | some i => Sem.pure i | none => stuck "no such type").bind fun i => match i.zero with | some v => Sem.pure v | none => unsupported (.resourceLimit "a value of more than 2^22 cells")) := rfl
        rw [ez]
        simp only [Sem.bind, semWp, hi, hz]
        show semWp P (Sem.new _ _) K X h
        have hzc : (Builtin.zeroCells z.cells (nc - (n + m))).size = (nc - (n + m)) * sz := by simp [Builtin.zeroCells, hzs]
        refine hk _ nc _ (.inr ⟨h.size, 0, vs.toArray ++ ws.toArray ++ Builtin.zeroCells z.cells (nc - (n + m)), rfl, by rw [Array.getElem?_push, if_pos rfl], ?_, hcut, ?_, ?_⟩) (Keep.push _ h _) (fun i hi => .inr (by simp [blk] at hi; omega)) (.inr ⟨rfl, hnc, _, by rw [Array.getElem?_push, if_pos rfl], ?_⟩)
        · rw [List.length_append, hlen, hm, Nat.add_mul]
        · simp only [Array.size_append, List.size_toArray, hzc, hlen, hm]
          rw [← Nat.add_mul, ← Nat.add_mul, show n + m + (nc - (n + m)) = nc by omega]
          omega
        · intro i v hv
          have hlt : i < (vs ++ ws).length := by
            rcases Nat.lt_or_ge i (vs ++ ws).length with g | g
            · exact g
            · rw [List.getElem?_eq_none g] at hv; cases hv
          have e : (vs.toArray ++ ws.toArray : Array Value) = (vs ++ ws).toArray := by simp
          rw [e, Nat.zero_add, Array.getElem?_append_left (by simpa using hlt)]
          simpa using hv
        · simp only [Array.size_append, List.size_toArray, hzc, hlen, hm]
          rw [← Nat.add_mul, ← Nat.add_mul, show n + m + (nc - (n + m)) = nc by omega]
      refine semWp_bind _ _ ?_
      unfold askRoom
      split
      · exact rest
      · exact rest
  obtain ⟨k1, k2⟩ := key K hk
  have hnb : ∀ (b : Prop), ¬ (((n + m : Nat) : Int) > IntKind.i64.max ∧ b) := by
    intro b hh
    have : ((n + m : Nat) : Int) ≤ 1073741824 := by omega
    have e : IntKind.i64.max = 9223372036854775807 := rfl
    omega
  have hcap : ¬ n + m ≤ c → ¬ Builtin.nextslicecap (n + m) c * i.bytes > 2 ^ 48 := by
    intro hg
    have h1 := nextcap_le (n + m) c (by omega)
    have h2 : Builtin.nextslicecap (n + m) c * i.bytes ≤ (2 * (n + m) + 200) * 4096 := Nat.mul_le_mul h1 hb
    omega
  rcases A.xt with g | g
  all_goals
    refine underlying_run g ?_
    simp only [bind, Sem.bind, pure, Bool.false_eq_true, if_false, Builtin.lenOf, Bool.not_false, if_true]
    by_cases hfit : n + m ≤ c
    · rw [if_pos hfit]; exact k1 hfit
    · rw [if_neg hfit]
      refine typeInfo_run hi ?_
      rw [if_neg (hnb _)]
      refine typeInfo_run hi ?_
      rw [if_neg (hcap hfit)]
      exact k2 hfit

theorem append_wp {P : Program} {h : Heap} {st xt rt elem : TypeId} {sz : Nat} (A : AppT P st xt elem sz) {p xp : Option Addr} {n c m xc : Nat} {vs ws : List Value}
    (o : Own sz elem h p n c vs) (cx : CellsAt h xp ws) (hm : ws.length = m * sz) (hpl : ∀ v ∈ ws, Value.plain v = true) (hle : n + m ≤ 1073741824)
    {K : Value → Heap → Prop} {X : Value → Heap → Prop}
    (hk : ∀ p' c' h', Own sz elem h' p' (n + m) c' (vs ++ ws) → Keep (blk p) h h' → (∀ i, i ∈ blk p' → i ∈ blk p ∨ h.size ≤ i) → K (.slice p' (n + m) c') h') :
    semWp P (Builtin.append_ #[st, xt] rt #[.slice p n c, .slice xp m xc]) K X h :=
  append_wpX A o cx hm hpl hle fun p' c' h' h1 h2 h3 _ => hk p' c' h' h1 h2 h3

end Go.Eng
