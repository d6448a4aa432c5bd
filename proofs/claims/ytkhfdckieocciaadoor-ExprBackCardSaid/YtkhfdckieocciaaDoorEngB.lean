/-
  THE ENGINE, PART B: the tree of one operation, and that it promises what the model's own operation does.
  Conditions: none; it speaks of any program.
-/
import Derived.Test.YtkhfdckieocciaaDoorEngA
import Derived.Orders
namespace Go.Eng
open Go

/-! ## the model's monad as a tree, where nothing is asked of a symbol -/
/- 'q': only what is quiet is let by: nothing is made, nothing written, nobody called. -/
def denSem (q : Bool) (P : Program) {α : Type} : Sem α → (α → T) → T
  | .pure a, k => k a
  | .program f, k => denSem q P (f P) k
  | .new o f, k => bif q then .stuck else .new o fun r => denSem q P (f r) k
  | .store _ a v f, k => bif q then .stuck else .store a v (denSem q P f k)
  | .mark _ f, k => denSem q P f k
  | .halt (.panic v), _ => bif q then .stuck else .pan v
  | _, _ => .stuck

theorem denSem_ok {q : Bool} {P : Program} {α : Type} (s : Sem α) : ∀ {k : α → T} {Q : Leaf → Heap → Prop} {h : Heap}, (denSem q P s k).wp P Q h →
    semWp P s (fun a h' => (k a).wp P Q h') (fun v h' => Q (.pan [{ v, recovered := false }]) h') h := by
  induction s with
  | pure a => intro k Q h H; exact H
  | load m a k ih => intro k Q h H; exact H.elim
  | store m a v k ih =>
    intro k Q h H
    cases q with
    | true => exact H.elim
    | false => exact ⟨H.1, H.2.1, H.2.2.1, ih H.2.2.2⟩
  | new o k ih =>
    intro k Q h H
    cases q with
    | true => exact H.elim
    | false => exact ih _ H
  | shape r k ih => intro k Q h H; exact H.elim
  | freeze a n k ih => intro k Q h H; exact H.elim
  | frozen a k ih => intro k Q h H; exact H.elim
  | getObj r k ih => intro k Q h H; exact H.elim
  | setObj r o k ih => intro k Q h H; exact H.elim
  | choose q k ih => intro k Q h H; exact H.elim
  | sys c k ih => intro k Q h H; exact H.elim
  | program k ih => intro k Q h H; exact ih _ H
  | mark m k ih => intro k Q h H; exact ih H
  | halt x => intro k Q h H; cases q <;> cases x <;> first | exact H | exact H.elim

/-! ## shapes out of a type's zero value -/
def atomOf : Value → Atom
  | .int k _ => .int k
  | .bool _ => .bool
  | .string _ => .string
  | .pointer _ => .pointer
  | .slice _ _ _ => .slice
  | .map _ => .map
  | .chan _ => .chan
  | .func _ _ _ => .func
  | .nilFunc => .func
  | _ => .iface
def sh1Of : Value → Sh1
  | .agg cs => .agg (cs.toList.map atomOf)
  | v => .atom (atomOf v)
def shOf : Value → Sh
  | .tuple vs => .tuple (vs.toList.map sh1Of)
  | v => .one (sh1Of v)
def zeroOf (P : Program) (t : TypeId) : Value := ((P.info? t).bind (·.zero)).getD .nilIface
def resSh (P : Program) (fn : Func) : Sh := match fn.resultTypes.toList with
  | [t] => .one (sh1Of (zeroOf P t))
  | ts => .tuple (ts.map fun t => sh1Of (zeroOf P t))

/-! ## one operation -/
/-- A loaded row of cells. -/
def loadsT : List Atom → Addr → Nat → Array Value → (Array Value → T) → T
  | [], _, _, acc, k => k acc
  | s :: r, a, i, acc, k => .load s (a.add i) fun x => loadsT r a (i + 1) (acc.push (s.val x)) k

def isAggD : TypeDesc → Bool
  | .struct _ | .array _ _ => true
  | _ => false
def denLoad (P : Program) (t : TypeId) (a : Addr) (k : Value → T) : T :=
  match P.underlying t, P.info? t with
  | some d, some i =>
    match isAggD d, sh1Of (i.zero.getD .nilIface) with
    | true, .agg l => if l.length = i.size then loadsT l a 0 #[] fun cs => k (.agg cs) else .stuck
    | false, .atom s => .load s a fun x => k (s.val x)
    | _, _ => .stuck
  | _, _ => .stuck

/-- Any other operation that yields a value: the model's own, its result's shape by its type. -/
def semR (q : Bool) (s : Sem Value) (sh : Sh) (k : sh.Ty → T) : T := bif q then .stuck else .sem s sh k
def semT (q : Bool) (P : Program) (s : Sem Value) (t : TypeId) (k : Value → T) : T :=
  semR q s (shOf (zeroOf P t)) fun x => k ((shOf (zeroOf P t)).val x)
def semU (q : Bool) (s : Sem Unit) (k : Value → T) : T :=
  semR q (s.bind fun _ => .pure undef) (.tuple []) fun _ => k undef

def byteAt (s : ByteArray) (i : Nat) : UInt8 := s.data.toList.getD i 0

def denBin (q : Bool) (P : Program) (op : BinOp) (t : TypeId) (x y : Operand) (a b : Value) (k : Value → T) : T :=
  match op, a, b with
  | .add, .int j m, .int j' n => if j = j' then k (.int j (j.wrap (m + n))) else .stuck
  | .sub, .int j m, .int j' n => if j = j' then k (.int j (j.wrap (m - n))) else .stuck
  | .mul, .int j m, .int j' n => if j = j' then k (.int j (j.wrap (m * n))) else .stuck
  | .quo, .int j m, .int j' n => if j = j' then chk (n ≠ 0) (k (.int j (j.wrap (m.tdiv n)))) else .stuck
  | .rem, .int j m, .int j' n => if j = j' then chk (n ≠ 0) (k (.int j (m.tmod n))) else .stuck
  | .shl, .int j m, .int _ n => chk (0 ≤ n) (k (.int j (j.wrap (m * 2 ^ (min n.toNat j.bits)))))
  | .shr, .int j m, .int _ n => chk (0 ≤ n) (k (.int j (m.fdiv (2 ^ (min n.toNat j.bits)))))
  | .eql, .int j m, .int j' n => if j = j' then k (.bool (m == n)) else .stuck
  | .neq, .int j m, .int j' n => if j = j' then k (.bool (m != n)) else .stuck
  | .lss, .int j m, .int j' n => if j = j' then k (.bool (m < n)) else .stuck
  | .leq, .int j m, .int j' n => if j = j' then k (.bool (m ≤ n)) else .stuck
  | .gtr, .int j m, .int j' n => if j = j' then k (.bool (m > n)) else .stuck
  | .geq, .int j m, .int j' n => if j = j' then k (.bool (m ≥ n)) else .stuck
  | .add, .string m, .string n => chk (((m.size + n.size : Nat) : Int) ≤ IntKind.i64.max) (k (.string (m ++ n)))
  | .eql, .string m, .string n => k (.bool (m.toList == n.toList))
  | .neq, .string m, .string n => k (.bool !(m.toList == n.toList))
  | .eql, .pointer p, .pointer none => denSem q P (underlying t) fun | .pointer _ => k (.bool p.isNone) | _ => .stuck
  | .neq, .pointer p, .pointer none => denSem q P (underlying t) fun | .pointer _ => k (.bool !p.isNone) | _ => .stuck
  | .eql, .slice p _ _, .slice none _ _ => denSem q P (underlying t) fun | .slice _ => k (.bool p.isNone) | _ => .stuck
  | .neq, .slice p _ _, .slice none _ _ => denSem q P (underlying t) fun | .slice _ => k (.bool !p.isNone) | _ => .stuck
  | .eql, .bool m, .bool n => denSem q P (underlying t) fun | .bool => k (.bool (m == n)) | _ => .stuck
  | .neq, .bool m, .bool n => denSem q P (underlying t) fun | .bool => k (.bool !(m == n)) | _ => .stuck
  | .eql, a, b => semR q (do eqGuard .eql t x y a b; binOp .eql t a b) (.one (.atom .bool)) fun r => k (.bool r)
  | .neq, a, b => semR q (do eqGuard .neq t x y a b; binOp .neq t a b) (.one (.atom .bool)) fun r => k (.bool r)
  | op, a, b => denSem q P (do eqGuard op t x y a b; binOp op t a b) k

/-- The bounds of 's[lo:hi]'. -/
def bound (d : Int) : Option Value → Option Int
  | none => some d
  | some (.int _ n) => some n
  | _ => none
def denSlice (q : Bool) (P : Program) (t : TypeId) (x : Value) (lo hi mx : Option Value) (k : Value → T) : T :=
  match mx, P.underlying t, x with
  | none, some .string, .string s => match bound 0 lo, bound s.size hi with
    | some l, some h => chk (0 ≤ l ∧ l ≤ h ∧ h ≤ s.size) (k (.string (s.extract l.toNat h.toNat)))
    | _, _ => .stuck
  | none, some (.slice e), .slice p n c => match bound 0 lo, bound n hi, P.info? e with
    | some l, some h, some i => chk (0 ≤ l ∧ l ≤ h ∧ h ≤ c) (k (.slice (if c = l.toNat then p else p.map (·.add (l.toNat * i.size))) (h.toNat - l.toNat) (c - l.toNat)))
    | _, _, _ => .stuck
  | _, _, _ => semT q P (Instr.sliceAt t x lo hi mx) t k

def denCall (q : Bool) (P : Program) (ρ : Operand → Value) (c : Call) (t : TypeId) (k : Value → T) : T :=
  match c.callee with
  | .builtin b =>
    let args := c.args.map ρ
    match b with
    | .len => match c.argTypes.toList, args.toList with
      | at0 :: _, x :: _ => match P.underlying at0, x with
        | some .string, .string s => k (goInt s.size)
        | some (.slice _), .slice _ n _ => k (goInt n)
        | some (.array n _), _ => k (goInt n)
        | _, _ => semT q P (Builtin.len_ c.argTypes t args) t k
      | _, _ => .stuck
    | .cap => match c.argTypes.toList, args.toList with
      | at0 :: _, x :: _ => match P.underlying at0, x with
        | some (.slice _), .slice _ _ n => k (goInt n)
        | _, _ => semT q P (Builtin.cap_ c.argTypes t args) t k
      | _, _ => .stuck
    | .max => denSem q P (Builtin.max_ c.argTypes t args) k
    | .min => denSem q P (Builtin.min_ c.argTypes t args) k
    | .append => semT q P (Builtin.append_ c.argTypes t args) t k
    | .copy => semR q (Builtin.copy_ c.argTypes t args) (.one (.atom (.int .i64))) fun n => k (.int .i64 n)
    | .delete => semR q (Builtin.delete_ c.argTypes t args) (.tuple []) fun _ => k undef
    | .clear => semR q (Builtin.clear_ c.argTypes t args) (.tuple []) fun _ => k undef
    | _ => .stuck
  | .value f => match ρ f with
    | .func (.func g) first cap => match P.funcs[g]? with
      | some fn => match fn.name == "runtime.NumGoroutine", fn.body.isNone with
        | false, false => bif q then .stuck else .call g ((first ++ c.args.map ρ) ++ cap).toList (resSh P fn) fun x => k ((resSh P fn).val x)
        | _, _ => .stuck
      | none => .stuck
    | _ => .stuck
  | _ => .stuck

def denOp (q : Bool) (P : Program) (ρ : Operand → Value) (o : Oper) (k : Value → T) : T :=
  match o.op with
  | .move x | .assign x => k (ρ x)
  | .pick c a b => match ρ c with
    | .bool t => cond t (k (ρ a)) (k (ρ b))
    | _ => .stuck
  | .load t a => match ρ a with
    | .pointer (some a) => denLoad P t a k
    | _ => .stuck
  | .nilCheck x => match ρ x with
    | .pointer p => deref p fun a => k (.pointer (some a))
    | .func (.func f) a b => k (.func (.func f) a b)
    | .iface t v => k (.iface t v)
    | _ => .stuck
  | .binOp op t x y _ => denBin q P op t x y (ρ x) (ρ y) k
  | .slice t x lo hi mx => denSlice q P t (ρ x) (lo.map ρ) (hi.map ρ) (mx.map ρ) k
  | .index t x ix => match P.underlying t, ρ x, ρ ix with
    | some .string, .string s, .int _ i => chk (0 ≤ i ∧ i < s.size) (k (.int .u8 (byteAt s i.toNat).toNat))
    | _, x, ix => denSem q P (Instr.index t x ix) k
  | .indexAddr t x ix => match P.underlying t, ρ x, ρ ix with
    | some (.slice e), .slice p n _, .int _ i => match P.info? e with
      | some info => deref p fun a => chk (0 ≤ i ∧ i < n) (k (.pointer (some (a.add (i.toNat * info.size)))))
      | none => .stuck
    | some (.array n e), .pointer (some a), .int _ i => match P.info? e with
      | some info => chk (0 ≤ i ∧ i < n) (k (.pointer (some (a.add (i.toNat * info.size)))))
      | none => .stuck
    | _, _, _ => .stuck
  | .call c => denCall q P ρ c o.type k
  | .alloc elem => denSem q P (Instr.alloc elem true (.tuple #[])) k
  | .box elem x => denSem q P (Instr.box elem (ρ x)) k
  | .build t parts => denSem q P (Instr.build t (parts.map fun (i, x) => (i, ρ x))) k
  | .buildSlice t len parts => denSem q P (Instr.buildSlice t len (parts.map fun (i, x) => (i, ρ x))) k
  | .store t a x => denSem q P (Instr.storeAt t (ρ a) (ρ x)) fun _ => k undef
  | .unOp op _ x => denSem q P (Op.unary op (ρ x)) k
  | .convert src dst x => match P.underlying src, P.underlying dst with
    | some (.int _), some (.int _) => denSem q P (convert src dst (ρ x)) k
    | some .string, some .string => denSem q P (convert src dst (ρ x)) k
    | _, _ => semT q P (convert src dst (ρ x)) dst k
  | .makeInterface t x => denSem q P (Instr.makeInterface t (ρ x)) k
  | .makeFunc fn first captured => k (.func fn (first.map ρ) (captured.map ρ))
  | .makeMap t r => denSem q P (Instr.makeMap t (r.map ρ)) k
  | .makeChan t s => semT q P (Instr.makeChan t (ρ s)) t k
  | .makeSlice t l c => semT q P (Instr.makeSlice t (ρ l) (ρ c)) t k
  | .fieldAddr s x f => denSem q P (Instr.fieldAt s (ρ x) f) k
  | .field t x f => denSem q P (Instr.field t (ρ x) f) k
  | .extract t ix => denSem q P (Instr.extract (ρ t) ix) k
  | .lookup t x ix ok => semT q P (Instr.lookup t (ρ x) (ρ ix) ok) o.type k
  | .mapUpdate t m key x | .insert t m key x => semU q (Instr.mapUpdate t (ρ m) (ρ key) (ρ x)) k
  | .range t x => semR q (Instr.range t (ρ x)) (.one (.atom .pointer)) fun p => k (.pointer p)
  | .next it isString => semR q (Instr.next (ρ it) isString o.type) (shOf (zeroOf P o.type)) fun x => k ((shOf (zeroOf P o.type)).val x)
  | .typeAssert x xt at_ ok => semT q P (Instr.typeAssert (ρ x) xt at_ ok) o.type k
  | .panic x => denSem q P (Instr.panic (ρ x)) k
  | _ => .stuck

/-! ## that it promises what the operation does -/
def NextK (q : Bool) (P : Program) (k : Value → T) (Q : Leaf → Heap → Prop) : Next → Heap → Prop
  | .value v, h => (k v).wp P Q h
  | .skip, h => (k undef).wp P Q h
  | .enter f args, h => q = false ∧ CallsH P f args.toList h fun e h' => match e with
    | .ret v => (k v).wp P Q h'
    | .pan c => Q (.pan c) h'
  | _, _ => False
def OpOk (q : Bool) (P : Program) (s : Sem Next) (k : Value → T) (Q : Leaf → Heap → Prop) (h : Heap) : Prop :=
  semWp P s (NextK q P k Q) (fun v h' => Q (.pan [{ v, recovered := false }]) h') h

section
variable {q : Bool} {P : Program} {ρ : Operand → Value} {k : Value → T} {Q : Leaf → Heap → Prop} {h : Heap}

theorem ok_v {s : Sem Value} (H : semWp P s (fun v h' => (k v).wp P Q h') (fun v h' => Q (.pan [{ v, recovered := false }]) h') h) :
    OpOk q P (do pure (.value (← s))) k Q h := semWp_bind s _ H
theorem ok_u {s : Sem Unit} (H : semWp P s (fun _ h' => (k undef).wp P Q h') (fun v h' => Q (.pan [{ v, recovered := false }]) h') h) :
    OpOk q P (do s; pure .skip) k Q h := semWp_bind s _ H
theorem ok_pure {v : Value} (H : (k v).wp P Q h) : OpOk q P (pure (.value v)) k Q h := H

theorem deref_ok {p : Option Addr} {f : Addr → T} (H : (deref p f).wp P Q h) : ∃ a, p = some a ∧ (f a).wp P Q h := by
  cases p with
  | none => exact H.elim
  | some a => exact ⟨a, rfl, H⟩
theorem chk_ok {p : Prop} [Decidable p] {t : T} (H : (chk p t).wp P Q h) : p ∧ t.wp P Q h := by
  exact H

theorem sem_ok {s : Sem Value} {sh : Sh} {f : sh.Ty → T} (H : (semR q s sh f).wp P Q h) :
    semWp P s (fun v h' => ∃ x : sh.Ty, v = sh.val x ∧ (f x).wp P Q h') (fun v h' => Q (.pan [{ v, recovered := false }]) h') h := by
  cases q with
  | true => exact H.elim
  | false =>
    simp only [semR, cond_false] at H
    simpa only [T.wp] using H
theorem semT_ok {s : Sem Value} {t : TypeId} (H : (semT q P s t k).wp P Q h) :
    semWp P s (fun v h' => (k v).wp P Q h') (fun v h' => Q (.pan [{ v, recovered := false }]) h') h :=
  semWp_mono s (fun _ _ ⟨_, hx, hk⟩ => hx ▸ hk) (fun _ _ hx => hx) (sem_ok H)

theorem bind_pure_unit (s : Sem Unit) : ∀ {K : Value → Heap → Prop} {X : Value → Heap → Prop} {h : Heap}, semWp P (s.bind fun _ => .pure undef) K X h →
    semWp P s (fun _ h' => K undef h') X h := by
  induction s with
  | pure a => intro K X h H; exact H
  | load m a k ih => intro K X h ⟨v, hv, H⟩; exact ⟨v, hv, ih v H⟩
  | store m a v k ih => intro K X h ⟨a, b, c, H⟩; exact ⟨a, b, c, ih H⟩
  | new o k ih => intro K X h H; exact ih _ H
  | shape r k ih => intro K X h H; exact ih _ H
  | freeze a n k ih => intro K X h H; exact ih H
  | frozen a k ih => intro K X h H; exact ih _ H
  | getObj r k ih => intro K X h ⟨o, a, b, H⟩; exact ⟨o, a, b, ih o H⟩
  | setObj r o k ih => intro K X h ⟨a, H⟩; exact ⟨a, ih H⟩
  | choose q k ih =>
    intro K X h H
    simp only [semWp, Sem.bind] at H ⊢
    split at H
    · rename_i hq; simp only [hq, if_true]; exact ih _ H
    · rename_i hq; simp only [hq]; exact fun t => ih _ (H t)
  | sys c k ih => intro K X h H; exact H
  | program k ih => intro K X h H; exact ih _ H
  | mark m k ih => intro K X h H; exact ih H
  | halt x => intro K X h H; cases x <;> exact H
theorem semU_ok {s : Sem Unit} (H : (semU q s k).wp P Q h) :
    semWp P s (fun _ h' => (k undef).wp P Q h') (fun v h' => Q (.pan [{ v, recovered := false }]) h') h :=
  semWp_mono s (fun _ _ ⟨_, _, hk⟩ => hk) (fun _ _ hx => hx) (bind_pure_unit s (sem_ok H))

theorem loadsT_ok (l : List Atom) : ∀ (a : Addr) (i : Nat) (acc : Array Value) {f : Array Value → T}, (loadsT l a i acc f).wp P Q h →
    semWp P (loadCellsFrom a i l.length acc) (fun cs h' => h' = h ∧ (f cs).wp P Q h') (fun _ _ => False) h := by
  induction l with
  | nil => intro a i acc f H; exact ⟨rfl, H⟩
  | cons s r ih =>
    intro a i acc f H
    obtain ⟨x, hx, H⟩ := H
    exact ⟨s.val x, hx, ih a (i + 1) (acc.push (s.val x)) H⟩

theorem underlying_run {t : TypeId} {d : TypeDesc} (hd : P.underlying t = some d) {α : Type} {f : TypeDesc → Sem α} {K : α → Heap → Prop} {X : Value → Heap → Prop}
    (H : semWp P (f d) K X h) : semWp P (do let d ← underlying t; f d) K X h := by
  show semWp P (Sem.bind (underlying t) f) K X h
  simp only [underlying, program, bind, Sem.bind, semWp, hd, pure]
  exact H
theorem typeInfo_run {t : TypeId} {i : TypeInfo} (hi : P.info? t = some i) {α : Type} {f : TypeInfo → Sem α} {K : α → Heap → Prop} {X : Value → Heap → Prop}
    (H : semWp P (f i) K X h) : semWp P (do let i ← typeInfo t; f i) K X h := by
  show semWp P (Sem.bind (typeInfo t) f) K X h
  simp only [typeInfo, program, bind, Sem.bind, semWp, hi, pure]
  exact H

theorem isAgg_run {t : TypeId} {d : TypeDesc} (hd : P.underlying t = some d) {α : Type} {f : Bool → Sem α} {K : α → Heap → Prop} {X : Value → Heap → Prop}
    (H : semWp P (f (isAggD d)) K X h) : semWp P (do let b ← isAgg t; f b) K X h := by
  show semWp P (Sem.bind (isAgg t) f) K X h
  simp only [isAgg, underlying, program, bind, Sem.bind, semWp, hd, pure]
  cases d <;> exact H
theorem sizeOf_run {t : TypeId} {i : TypeInfo} (hi : P.info? t = some i) {α : Type} {f : Nat → Sem α} {K : α → Heap → Prop} {X : Value → Heap → Prop}
    (H : semWp P (f i.size) K X h) : semWp P (do let n ← Go.sizeOf t; f n) K X h := by
  show semWp P (Sem.bind (Go.sizeOf t) f) K X h
  simp only [Go.sizeOf, typeInfo, program, bind, Sem.bind, semWp, hi, pure]
  exact H

theorem denLoad_ok {t : TypeId} {a : Addr} (H : (denLoad P t a k).wp P Q h) :
    semWp P (loadVar t a) (fun v h' => h' = h ∧ (k v).wp P Q h') (fun _ _ => False) h := by
  unfold denLoad at H
  split at H
  · rename_i d i hd hi
    split at H
    · rename_i l hag hsh
      split at H
      · rename_i hlen
        unfold loadVar
        refine isAgg_run hd ?_
        rw [hag]
        simp only [if_true]
        refine sizeOf_run hi ?_
        rw [← hlen]
        show semWp P (Sem.bind (loadCellsFrom a 0 l.length #[]) _) _ _ _
        refine semWp_bind _ _ (semWp_mono _ (fun cs h' hc => ?_) (fun _ _ x => x) (loadsT_ok l a 0 #[] H))
        exact ⟨hc.1, hc.2⟩
      · exact H.elim
    · rename_i s hag hsh
      unfold loadVar
      refine isAgg_run hd ?_
      rw [hag]
      obtain ⟨x, hx, H⟩ := H
      exact ⟨_, hx, rfl, H⟩
    · exact H.elim
  · exact H.elim
end
end Go.Eng
