/-
  THE ENGINE, PART D: a region whose order is the text's: its operations one by one; a select of one case with a default.
  Conditions: none; it speaks of any program.
-/
import Derived.Test.YtkhfdckieocciaaDoorEngC
import Derived.Conc.LoneSelect
namespace Go.Eng
open Go

/-! ## what is known of the temporaries -/
abbrev Env := List (Nat × Value)
def Env.get? : Env → Nat → Option Value
  | [], _ => none
  | (i, v) :: r, t => bif Nat.beq i t then some v else Env.get? r t
def Env.put (e : Env) (dst : Option Tmp) (v : Value) : Env := match dst with
  | some d => (d, v) :: e
  | none => e
def Env.ev (e : Env) : Operand → Value
  | .tmp t => (e.get? t).getD undef
  | .const v => v
  | .global g => .pointer (some ⟨g, 0, none⟩)
  | .func f => .func (.func f) #[] #[]
def Env.has (e : Env) : Operand → Bool
  | .tmp t => (e.get? t).isSome
  | _ => true
def Agrees (e : Env) (tm : Array Value) : Prop := ∀ t v, e.get? t = some v → tm[t]? = some v

theorem Env.get?_cons (i : Nat) (v : Value) (r : Env) (t : Nat) : Env.get? ((i, v) :: r) t = if i = t then some v else Env.get? r t := by
  show (bif Nat.beq i t then some v else Env.get? r t) = _
  by_cases h : i = t
  · subst h; simp
  · have : Nat.beq i t = false := by
      cases hb : Nat.beq i t with
      | false => rfl
      | true => exact absurd (Nat.eq_of_beq_eq_true hb) h
    simp [this, h]

theorem Agrees.ev {e : Env} {a : Act} (h : Agrees e a.tmps) {x : Operand} (hx : e.has x = true) : a.eval x = e.ev x := by
  cases x with
  | tmp t =>
    obtain ⟨v, hv⟩ := Option.isSome_iff_exists.1 hx
    have := h t v hv
    simp [Act.eval, Env.ev, hv, this]
  | const v => rfl
  | global g => rfl
  | func f => rfl

theorem Agrees.put {e : Env} {a : Act} (h : Agrees e a.tmps) (dst : Option Tmp) (v : Value) (hd : ∀ d, dst = some d → d < a.tmps.size) : Agrees (e.put dst v) (a.put dst v).tmps := by
  cases dst with
  | none => exact h
  | some d =>
    intro t u hu
    simp only [Env.put, Env.get?_cons] at hu
    have hlt := hd d rfl
    by_cases hdt : d = t
    · subst hdt
      simp only [if_true, Option.some.injEq] at hu
      subst hu
      simp [Act.put, hlt]
    · simp only [hdt, if_false] at hu
      simp only [Act.put, Array.getElem?_setIfInBounds_ne hdt]
      exact h t u hu

theorem Act.put_size (a : Act) (dst : Option Tmp) (v : Value) : (a.put dst v).tmps.size = a.tmps.size := by
  cases dst <;> simp [Act.put]
theorem Act.put_defers' (a : Act) (dst : Option Tmp) (v : Value) : (a.put dst v).defers = a.defers := by
  cases dst <;> rfl

/-- What was written: all else is as it was. -/
def Fr (W : List Nat) (a a' : Act) : Prop := a'.tmps.size = a.tmps.size ∧ a'.defers = a.defers ∧ ∀ t, t ∉ W → a'.tmps[t]? = a.tmps[t]?
theorem Fr.refl (W : List Nat) (a : Act) : Fr W a a := ⟨rfl, rfl, fun _ _ => rfl⟩
theorem Fr.trans {W : List Nat} {a b c : Act} (h : Fr W a b) (k : Fr W b c) : Fr W a c := ⟨k.1.trans h.1, k.2.1.trans h.2.1, fun t ht => (k.2.2 t ht).trans (h.2.2 t ht)⟩
theorem Fr.mono {W W' : List Nat} {a b : Act} (h : Fr W a b) (hW : ∀ t, t ∈ W → t ∈ W') : Fr W' a b := ⟨h.1, h.2.1, fun t ht => h.2.2 t (fun h' => ht (hW t h'))⟩
theorem Fr.put (W : List Nat) (a : Act) (dst : Option Tmp) (v : Value) (h : ∀ d, dst = some d → d ∈ W) : Fr W a (a.put dst v) := by
  refine ⟨Act.put_size a dst v, Act.put_defers' a dst v, fun t ht => ?_⟩
  cases dst with
  | none => rfl
  | some d =>
    have : d ≠ t := fun e => ht (e ▸ h d rfl)
    simp [Act.put, Array.getElem?_setIfInBounds_ne this]

/-! ## inside a region -/
def IR (P : Program) (ops : Array Oper) (l : List Nat) (Q : Exit → Act → World → Prop) (a : Act) (w : World) : Prop :=
  ∀ (b : Frame) (k : List Item) (cs : List Frame),
    ∃ e a' w', Q e a' w' ∧ Arrives P (lone (b.at a (.inRegion ops l :: k)) cs w) b k cs e a' w'

section
variable {P : Program} {ops : Array Oper} {Q : Exit → Act → World → Prop} {a : Act} {w : World}

theorem ir_nil (h : Q .normal a w) : IR P ops [] Q a w := fun _ _ _ => ⟨.normal, a, w, h, .one step_region_end⟩

theorem ir_skip {i : Nat} {rest : List Nat} (h : ((ops[i]?).map (Region.wanted · (yielded ops a.tmps))).getD false = false)
    (H : IR P ops rest Q (a.put ((ops[i]?).bind (·.dst)) undef) w) : IR P ops (i :: rest) Q a w := fun b k cs => by
  obtain ⟨e, a', w', hq, harr⟩ := H b k cs
  exact ⟨e, a', w', hq, .of_steps (.one (step_op_skip h)) harr⟩

theorem ir_value {i : Nat} {rest : List Nat} {o : Oper} {v : Value} {w' : World} (ho : ops[i]? = some o) (hw : Region.wanted o (yielded ops a.tmps) = true)
    (hr : (execOp a.eval o).run P w = .ok (.value v) w') (H : IR P ops rest Q (a.put o.dst v) w') : IR P ops (i :: rest) Q a w := fun b k cs => by
  obtain ⟨e, a', w'', hq, harr⟩ := H b k cs
  refine ⟨e, a', w'', hq, .of_steps (.one (step_lone_go ?_)) harr⟩
  have hfin : (b.at a (.inRegion ops (i :: rest) :: k)).finish v = b.at (a.put o.dst v) (.inRegion ops rest :: k) := by rw [Frame.finish_at, ho]; rfl
  rw [stepG_op ho hw, ← hfin]; simp [stepG.apply, hr]

theorem ir_none {i : Nat} {rest : List Nat} {o : Oper} {w' : World} (ho : ops[i]? = some o) (hw : Region.wanted o (yielded ops a.tmps) = true)
    (hr : (execOp a.eval o).run P w = .ok .skip w') (H : IR P ops rest Q (a.put o.dst undef) w') : IR P ops (i :: rest) Q a w := fun b k cs => by
  obtain ⟨e, a', w'', hq, harr⟩ := H b k cs
  refine ⟨e, a', w'', hq, .of_steps (.one (step_lone_go ?_)) harr⟩
  have hfin : (b.at a (.inRegion ops (i :: rest) :: k)).finish undef = b.at (a.put o.dst undef) (.inRegion ops rest :: k) := by rw [Frame.finish_at, ho]; rfl
  rw [stepG_op ho hw, ← hfin]; simp [stepG.apply, hr]

theorem ir_panic {i : Nat} {rest : List Nat} {o : Oper} {v : Value} {w' : World} (ho : ops[i]? = some o) (hw : Region.wanted o (yielded ops a.tmps) = true)
    (hr : (execOp a.eval o).run P w = .halt (.panic v) w') (H : Q (.panic [{ v, recovered := false }]) a w') : IR P ops (i :: rest) Q a w := fun b k cs => by
  refine ⟨_, a, w', H, .inRegion ops (i :: rest) :: k, .one (step_lone_go ?_)⟩
  rw [stepG_op ho hw, ← Frame.raise_at]; simp [stepG.apply, hr]

theorem ir_enter {i : Nat} {rest : List Nat} {o : Oper} {f : FuncId} {args : Array Value} {w' : World} (ho : ops[i]? = some o) (hw : Region.wanted o (yielded ops a.tmps) = true)
    (hr : (execOp a.eval o).run P w = .ok (.enter f args) w')
    (H : Calls P f args w' fun e w'' => match e with
      | .returned v => IR P ops rest Q (a.put o.dst v) w''
      | .panicked chain => Q (.panic chain) a w''
      | .outgrown => False) : IR P ops (i :: rest) Q a w := fun b k cs => by
  obtain ⟨e, w'', fr, hR, hsteps, _, hleave⟩ := H (b.at a (.inRegion ops (i :: rest) :: k) :: cs)
  have henter : step P (lone (b.at a (.inRegion ops (i :: rest) :: k)) cs w) =
      .next (lone (Frame.enter P f args .normal) (b.at a (.inRegion ops (i :: rest) :: k) :: cs) w') :=
    step_lone_go (by rw [stepG_op ho hw]; simp [stepG.apply, hr, Frame.at])
  cases e with
  | returned v =>
    obtain ⟨e, a', w₃, hq, harr⟩ := hR b k cs
    refine ⟨e, a', w₃, hq, .of_steps (.head henter (hsteps.trans (.one ?_))) harr⟩
    have hfin : (b.at a (.inRegion ops (i :: rest) :: k)).finish v = b.at (a.put o.dst v) (.inRegion ops rest :: k) := by rw [Frame.finish_at, ho]; rfl
    rw [← hfin]; exact step_leave_returned hleave
  | panicked chain =>
    refine ⟨.panic chain, a, w'', hR, .inRegion ops (i :: rest) :: k, .head henter (hsteps.trans (.one ?_))⟩
    rw [← Frame.raise_at]; exact step_leave_panicked hleave
  | outgrown => exact hR.elim

theorem stepG_comm' {b : Frame} {k : List Item} {cs : List Frame} {i : Nat} {rest : List Nat} {o : Oper} {cases_ : Array CommCase} {blocking : Bool} {shape : CommShape} (ho : ops[i]? = some o)
    (hw : Region.wanted o (yielded ops a.tmps) = true) (hr : (execOp a.eval o).run P w = .ok (.comm cases_ blocking shape) w) :
    ∃ es, stepG P true (Conc.G (b.at a (.inRegion ops (i :: rest) :: k)) cs) w = .comm (Conc.G (b.at a (.inRegion ops (i :: rest) :: k)) cs) cases_ blocking shape w es := by
  have hg := stepG_op (P := P) (b := b) (k := k) (cs := cs) (w := w) (rest := rest) ho hw
  have : stepG P true (Conc.G (b.at a (.inRegion ops (i :: rest) :: k)) cs) w = stepG.apply P true (b.at a (.inRegion ops (i :: rest) :: k)) cs none (execOp a.eval o) w := hg
  rw [this]
  refine ⟨(stepG.apply P true (b.at a (.inRegion ops (i :: rest) :: k)) cs none (execOp a.eval o) w).es, ?_⟩
  simp [stepG.apply, hr, Conc.G, Frame.at, GStep.after, GStep.es]

/-- The value that a select of one case with a default yields. -/
def selVal (send : Option Value) (i : Int) (ok : Bool) (v : Value) : Value := match send with
  | some _ => .tuple #[goInt i, .bool ok]
  | none => .tuple #[goInt i, .bool ok, v]

theorem ir_select {i : Nat} {rest : List Nat} {o : Oper} {c : Nat} {send : Option Value} {zero : Value} (ho : ops[i]? = some o) (hw : Region.wanted o (yielded ops a.tmps) = true)
    (hr : (execOp a.eval o).run P w = .ok (.comm #[{ chan := .chan (some c), send, zero }] false .select) w)
    (H : selWp c send zero (fun j ok v h' => ∀ w', Same w w' → w'.heap = h' → IR P ops rest Q (a.put o.dst (selVal send j ok v)) w') w.heap) : IR P ops (i :: rest) Q a w := by
  intro b k cs
  obtain ⟨es, hst⟩ := stepG_comm' (b := b) (k := k) (cs := cs) (rest := rest) ho hw hr
  obtain ⟨cap, buf, s, r, hc, H⟩ := H
  have fin : ∀ v, (b.at a (.inRegion ops (i :: rest) :: k)).finish v = b.at (a.put o.dst v) (.inRegion ops rest :: k) := fun v => by rw [Frame.finish_at, ho]; rfl
  cases send with
  | none =>
    by_cases hh : 0 < buf.size
    · simp only [if_pos hh] at H
      have hs := Conc.step_lone_select_recv_buf hst hc hh
      obtain ⟨e, a', w', hq, harr⟩ := H (w.setChan c cap (buf.extract 1 buf.size) false s (r + 1) false) ⟨rfl, rfl, rfl⟩ rfl b k cs
      refine ⟨e, a', w', hq, .of_steps (.one ?_) harr⟩
      rw [← fin]; exact hs
    · simp only [if_neg hh] at H
      have hb : buf = #[] := by
        have : buf.size = 0 := by omega
        exact Array.eq_empty_of_size_eq_zero this
      subst hb
      have hs := Conc.step_lone_select_default hst hc
      obtain ⟨e, a', w', hq, harr⟩ := H w (.refl w) rfl b k cs
      refine ⟨e, a', w', hq, .of_steps (.one ?_) harr⟩
      rw [← fin]; exact hs
  | some v =>
    by_cases hh : buf.size < cap
    · simp only [if_pos hh] at H
      have hs := Conc.step_lone_select_send_room hst hc hh
      obtain ⟨e, a', w', hq, harr⟩ := H (w.setChan c cap (buf.push v) false (s + 1) r false) ⟨rfl, rfl, rfl⟩ rfl b k cs
      refine ⟨e, a', w', hq, .of_steps (.one ?_) harr⟩
      rw [← fin]; exact hs
    · simp only [if_neg hh] at H
      have hs := Conc.step_lone_select_send_full hst hc (by omega)
      obtain ⟨e, a', w', hq, harr⟩ := H w (.refl w) rfl b k cs
      refine ⟨e, a', w', hq, .of_steps (.one ?_) harr⟩
      rw [← fin]; exact hs
end
end Go.Eng
