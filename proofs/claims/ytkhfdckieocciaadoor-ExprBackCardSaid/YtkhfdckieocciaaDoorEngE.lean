/-
  THE ENGINE, PART E: one step inside a region; the operations of a region in the text's order.
  Conditions: none; it speaks of any program.
-/
import Derived.Test.YtkhfdckieocciaaDoorEngD
namespace Go.Eng
open Go

section
variable {P : Program} {ops : Array Oper}

/-- One step inside a region. -/
def StepTo (P : Program) (ops : Array Oper) (i : Nat) (a : Act) (w : World) (K : Act → World → Prop) (X : List PanicEntry → World → Prop) : Prop :=
  match ops[i]? with
  | none => K a w
  | some o =>
    (Region.wanted o (yielded ops a.tmps) = false ∧ K (a.put o.dst undef) w) ∨
    (Region.wanted o (yielded ops a.tmps) = true ∧
      ((∃ v w', (execOp a.eval o).run P w = .ok (.value v) w' ∧ K (a.put o.dst v) w') ∨
       (∃ w', (execOp a.eval o).run P w = .ok .skip w' ∧ K (a.put o.dst undef) w') ∨
       (∃ f args w', (execOp a.eval o).run P w = .ok (.enter f args) w' ∧ Calls P f args w' fun e w'' => match e with
          | .returned v => K (a.put o.dst v) w''
          | .panicked ch => X ch w''
          | .outgrown => False) ∨
       (∃ v w', (execOp a.eval o).run P w = .halt (.panic v) w' ∧ X [{ v, recovered := false }] w')))

theorem stepTo_mono {i : Nat} {a : Act} {w : World} {K K' : Act → World → Prop} {X X' : List PanicEntry → World → Prop} (hK : ∀ a w, K a w → K' a w) (hX : ∀ c w, X c w → X' c w)
    (H : StepTo P ops i a w K X) : StepTo P ops i a w K' X' := by
  unfold StepTo at *
  split
  · rename_i h; simp only [h] at H; exact hK _ _ H
  · rename_i o h
    simp only [h] at H
    rcases H with ⟨h1, h2⟩ | ⟨h1, h2⟩
    · exact .inl ⟨h1, hK _ _ h2⟩
    · refine .inr ⟨h1, ?_⟩
      rcases h2 with ⟨v, w', h3, h4⟩ | ⟨w', h3, h4⟩ | ⟨f, args, w', h3, h4⟩ | ⟨v, w', h3, h4⟩
      · exact .inl ⟨v, w', h3, hK _ _ h4⟩
      · exact .inr (.inl ⟨w', h3, hK _ _ h4⟩)
      · refine .inr (.inr (.inl ⟨f, args, w', h3, h4.mono fun e w'' he => ?_⟩))
        cases e <;> first | exact hK _ _ he | exact hX _ _ he | exact he
      · exact .inr (.inr (.inr ⟨v, w', h3, hX _ _ h4⟩))

theorem stepTo_fr {W : List Nat} (hW : ∀ o ∈ ops, ∀ d, o.dst = some d → d ∈ W) {i : Nat} {a : Act} {w : World} {K : Act → World → Prop} {X : List PanicEntry → World → Prop}
    (H : StepTo P ops i a w K X) : StepTo P ops i a w (fun a' w' => Fr W a a' ∧ K a' w') X := by
  unfold StepTo at *
  split
  · rename_i h; simp only [h] at H; exact ⟨.refl W a, H⟩
  · rename_i o h
    simp only [h] at H
    have hd : ∀ v, Fr W a (a.put o.dst v) := fun v => Fr.put W a o.dst v (hW o (Array.mem_of_getElem? h))
    rcases H with ⟨h1, h2⟩ | ⟨h1, h2⟩
    · exact .inl ⟨h1, hd _, h2⟩
    · refine .inr ⟨h1, ?_⟩
      rcases h2 with ⟨v, w', h3, h4⟩ | ⟨w', h3, h4⟩ | ⟨f, args, w', h3, h4⟩ | ⟨v, w', h3, h4⟩
      · exact .inl ⟨v, w', h3, hd _, h4⟩
      · exact .inr (.inl ⟨w', h3, hd _, h4⟩)
      · refine .inr (.inr (.inl ⟨f, args, w', h3, h4.mono fun e w'' he => ?_⟩))
        cases e <;> first | exact ⟨hd _, he⟩ | exact he
      · exact .inr (.inr (.inr ⟨v, w', h3, h4⟩))

theorem stepTo_ir {i : Nat} {rest : List Nat} {a : Act} {w : World} {Q : Exit → Act → World → Prop} (H : StepTo P ops i a w (IR P ops rest Q) (fun c w => Q (.panic c) a w)) :
    IR P ops (i :: rest) Q a w := by
  unfold StepTo at H
  split at H
  · rename_i h
    refine ir_skip (by simp [h]) ?_
    simpa [h, Act.put] using H
  · rename_i o h
    rcases H with ⟨h1, h2⟩ | ⟨h1, h2⟩
    · exact ir_skip (by simp [h, h1]) (by simpa [h] using h2)
    · rcases h2 with ⟨v, w', h3, h4⟩ | ⟨w', h3, h4⟩ | ⟨f, args, w', h3, h4⟩ | ⟨v, w', h3, h4⟩
      · exact ir_value h h1 h3 h4
      · exact ir_none h h1 h3 h4
      · exact ir_enter h h1 h3 h4
      · exact ir_panic h h1 h3 h4

theorem stepTo_wpOp {i : Nat} {a : Act} {w : World} {K : Act → World → Prop} {Q : Exit → Act → World → Prop} (H : StepTo P ops i a w K (fun c w => Q (.panic c) a w)) :
    wpOp P ops Q i K a w := by
  unfold StepTo at H
  unfold wpOp
  split at H
  · rename_i h; simp only [h]; exact H
  · rename_i o h
    simp only [h]
    rcases H with ⟨h1, h2⟩ | ⟨h1, h2⟩
    · simp only [h1, Bool.false_eq_true, if_false]; exact h2
    · simp only [h1, if_true]
      refine .inl ?_
      unfold Oper.wp
      rcases h2 with ⟨v, w', h3, h4⟩ | ⟨w', h3, h4⟩ | ⟨f, args, w', h3, h4⟩ | ⟨v, w', h3, h4⟩
      · rw [h3]; exact h4
      · rw [h3]; exact h4
      · rw [h3]
        exact Calls.mono h4 fun e w'' he => by cases e <;> first | exact he | exact he.elim
      · rw [h3]; exact h4

/-- One step, said of heaps alone. -/
def StepH (P : Program) (ops : Array Oper) (i : Nat) (K : Act → Heap → Prop) (X : List PanicEntry → Heap → Prop) (a : Act) (h : Heap) : Prop :=
  ∀ w, w.heap = h → StepTo P ops i a w (fun a' w' => Same w w' ∧ K a' w'.heap) (fun c w' => Same w w' ∧ X c w'.heap)

theorem stepH_mono {i : Nat} {a : Act} {h : Heap} {K K' : Act → Heap → Prop} {X X' : List PanicEntry → Heap → Prop} (hK : ∀ a h, K a h → K' a h) (hX : ∀ c h, X c h → X' c h)
    (H : StepH P ops i K X a h) : StepH P ops i K' X' a h := fun w hw => stepTo_mono (fun _ _ ⟨x, y⟩ => ⟨x, hK _ _ y⟩) (fun _ _ ⟨x, y⟩ => ⟨x, hX _ _ y⟩) (H w hw)

/-! ## the tree of a step -/
def gval (ops : Array Oper) (e : Env) (o : Oper) : Option Bool := match o.guard with
  | none => some true
  | some (j, want) => match (ops[j]?).bind (·.dst) with
    | none => none
    | some d => match e.get? d with
      | some (.bool b) => some (b == want)
      | some _ => some false
      | none => none
theorem gval_ok {e : Env} {a : Act} {o : Oper} {b : Bool} (h : Agrees e a.tmps) (hg : gval ops e o = some b) : Region.wanted o (yielded ops a.tmps) = b := by
  unfold gval at hg
  unfold Region.wanted
  split at hg
  · rename_i h1; cases hg; simp [h1]
  · rename_i j want h1
    simp only [h1]
    split at hg
    · cases hg
    · rename_i d h2
      split at hg
      · rename_i b' h3
        cases hg
        have := h d _ h3
        simp [yielded, h2, this]
      · rename_i v h3 h4
        cases hg
        have := h d _ h4
        have hy : yielded ops a.tmps j = none := by
          unfold yielded
          rw [h2]
          simp only [Option.bind_some, this]
          cases v <;> first | rfl | exact absurd rfl (h3 _)
        simp [hy]
      · cases hg

def splitG (g : Bool) (v : Value) (k : Value → T) : T := match g, v with
  | true, .bool b => cond b (k (.bool true)) (k (.bool false))
  | _, v => k v
theorem splitG_ok {g : Bool} {v : Value} {k : Value → T} {Q : Leaf → Heap → Prop} {h : Heap} (H : (splitG g v k).wp P Q h) : (k v).wp P Q h := by
  unfold splitG at H
  split at H
  · rename_i b; cases b <;> exact H
  · exact H

def denStep (q : Bool) (P : Program) (ops : Array Oper) (gs : List Nat) (e : Env) (i : Nat) (k : Env → T) : T := match ops[i]? with
  | none => k e
  | some o => match gval ops e o with
    | none => .stuck
    | some false => k (e.put o.dst undef)
    | some true => bif o.op.operands.toList.all e.has then denOp q P e.ev o fun v => splitG (gs.contains i) v fun v => k (e.put o.dst v) else .stuck

theorem notSelect {q : Bool} {P : Program} {ρ : Operand → Value} {o : Oper} {k : Value → T} {Q : Leaf → Heap → Prop} {h : Heap} (H : (denOp q P ρ o k).wp P Q h) (cs : Array SelectCase) (b : Bool) : o.op ≠ .select cs b := by
  intro he
  simp only [denOp, he] at H
  exact H

def Bound (W : List Nat) (a : Act) : Prop := ∀ d ∈ W, d < a.tmps.size
theorem Bound.fr {W W' : List Nat} {a a' : Act} (h : Bound W a) (f : Fr W' a a') : Bound W a' := fun d hd => by rw [f.1]; exact h d hd

theorem denStep_ok {q : Bool} {gs : List Nat} {e : Env} {i : Nat} {k : Env → T} {QT : Leaf → Heap → Prop} {a : Act} {h : Heap} {W : List Nat} (hag : Agrees e a.tmps) (hW : ∀ o ∈ ops, ∀ d, o.dst = some d → d ∈ W) (hb : Bound W a)
    (H : (denStep q P ops gs e i k).wp P QT h) :
    StepH P ops i (fun a' h' => ∃ e', Agrees e' a'.tmps ∧ Fr W a a' ∧ (k e').wp P QT h') (fun c h' => QT (.pan c) h') a h := by
  intro w hw
  subst hw
  unfold denStep at H
  unfold StepTo
  cases ho : ops[i]? with
  | none => rw [ho] at H; exact ⟨.refl w, e, hag, .refl W a, H⟩
  | some o =>
    rw [ho] at H
    have hdW : ∀ d, o.dst = some d → d ∈ W := hW o (Array.mem_of_getElem? ho)
    have hput : ∀ v, Agrees (e.put o.dst v) (a.put o.dst v).tmps := fun v => hag.put o.dst v fun d hd => hb d (hdW d hd)
    dsimp only at H ⊢
    cases hg : gval ops e o with
    | none => rw [hg] at H; exact H.elim
    | some b =>
      rw [hg] at H
      have hwt := gval_ok hag hg
      cases b with
      | false => exact .inl ⟨hwt, .refl w, _, hput undef, Fr.put W a o.dst undef hdW, H⟩
      | true =>
        refine .inr ⟨hwt, ?_⟩
        dsimp only at H
        cases hall : o.op.operands.toList.all e.has with
        | false => rw [hall] at H; exact H.elim
        | true =>
          rw [hall] at H
          simp only [cond_true] at H
          have hcong : execOp a.eval o = execOp e.ev o := execOp_congr o (notSelect H) fun x hx => hag.ev (List.all_eq_true.1 hall x (Array.mem_toList_iff.2 hx))
          rw [hcong]
          rcases semWp_run _ w (denOp_ok H) with ⟨nx, w', h1, h2, h3⟩ | ⟨v, w', h1, h2, h3⟩
          · cases nx <;> first | exact h3.elim | skip
            case value v => exact .inl ⟨v, w', h1, h2, _, hput v, Fr.put W a o.dst v hdW, splitG_ok h3⟩
            case skip => exact .inr (.inl ⟨w', h1, h2, _, hput undef, Fr.put W a o.dst undef hdW, splitG_ok h3⟩)
            case enter f args =>
              refine .inr (.inr (.inl ⟨f, args, w', h1, (by simpa using h3.2 w' rfl : Calls P f args w' _).mono fun e2 w'' he => ?_⟩))
              cases e2 with
              | returned v => exact ⟨h2.trans he.1, _, hput v, Fr.put W a o.dst v hdW, splitG_ok he.2⟩
              | panicked ch => exact ⟨h2.trans he.1, he.2⟩
              | outgrown => exact he.2
          · exact .inr (.inr (.inr ⟨v, w', h1, h2, h3⟩))

/-! ## the text's order -/
def selOf (ops : Array Oper) (i : Nat) : Option (Oper × SelectCase) := match ops[i]? with
  | some o => match o.guard, o.op with
    | none, .select cs false => match cs.toList with
      | [c] => some (o, c)
      | _ => none
    | _, _ => none
  | none => none
def derefN (p : Option Nat) (k : Nat → T) : T := match p with
  | some r => k r
  | none => .stuck
def denSel (P : Program) (e : Env) (c : SelectCase) (k : Value → T) : T :=
  bif e.has c.chan && c.send.toList.all e.has then
    match e.ev c.chan, (P.info? c.elem).bind (·.zero) with
    | .chan p, some z => derefN p fun r => .sel r (c.send.map e.ev) z fun j ok v => k (selVal (c.send.map e.ev) j ok v)
    | _, _ => .stuck
  else .stuck
def denOps (P : Program) (ops : Array Oper) (gs : List Nat) : List Nat → Env → (Env → T) → T
  | [], e, k => k e
  | i :: r, e, k => match selOf ops i with
    | some (o, c) => denSel P e c fun v => denOps P ops gs r (e.put o.dst v) k
    | none => denStep false P ops gs e i fun e' => denOps P ops gs r e' k

theorem denOps_irT {gs : List Nat} {QT : Leaf → Heap → Prop} {W : List Nat} {QC : Exit → Act → World → Prop} {k : Env → T} (hW : ∀ o ∈ ops, ∀ d, o.dst = some d → d ∈ W) (t : List Nat) (l : List Nat) :
    ∀ (e : Env) (a : Act) (w : World), Agrees e a.tmps → Bound W a → (denOps P ops gs l e k).wp P QT w.heap →
      (∀ e' a' w', Agrees e' a'.tmps → Fr W a a' → Same w w' → (k e').wp P QT w'.heap → IR P ops t QC a' w') →
      (∀ c a' w', Fr W a a' → Same w w' → QT (.pan c) w'.heap → QC (.panic c) a' w') → IR P ops (l ++ t) QC a w := by
  induction l with
  | nil => intro e a w hag hb H hn hp; exact hn e a w hag (.refl W a) (.refl w) H
  | cons i r ih =>
    intro e a w hag hb H hn hp
    unfold denOps at H
    split at H
    · rename_i o c hs
      unfold selOf at hs
      split at hs
      · rename_i o' ho
        split at hs
        · rename_i cs hgd hop
          split at hs
          · rename_i c' hcs
            simp only [Option.some.injEq, Prod.mk.injEq] at hs
            obtain ⟨rfl, rfl⟩ := hs
            unfold denSel at H
            cases hk : (e.has c'.chan && c'.send.toList.all e.has) with
            | false => rw [hk] at H; exact H.elim
            | true =>
              rw [hk] at H
              simp only [cond_true] at H
              split at H
              · rename_i p z hch hz
                cases p with
                | none => exact H.elim
                | some rr =>
                  have hdW : ∀ d, o'.dst = some d → d ∈ W := hW o' (Array.mem_of_getElem? ho)
                  rw [Bool.and_eq_true] at hk
                  have e1 : a.eval c'.chan = .chan (some rr) := by rw [hag.ev hk.1]; exact hch
                  have e2 : c'.send.map a.eval = c'.send.map e.ev := by
                    cases hsd : c'.send with
                    | none => rfl
                    | some x =>
                      have := hk.2
                      simp only [hsd, Option.toList_some, List.all_cons, List.all_nil, Bool.and_true] at this
                      simp [hag.ev this]
                  have e3 : cs = #[c'] := by cases cs; simp at hcs; subst hcs; rfl
                  obtain ⟨inf, hinf, hzero⟩ : ∃ i, P.info? c'.elem = some i ∧ i.zero = some z := by
                    cases hi : P.info? c'.elem with
                    | none => simp [hi] at hz
                    | some i => exact ⟨i, rfl, by simpa [hi] using hz⟩
                  have hrun : (execOp a.eval o').run P w = .ok (.comm #[{ chan := .chan (some rr), send := c'.send.map e.ev, zero := z }] false .select) w := by
                    simp [execOp, hop, e3, zeroValue, typeInfo, program, bind, Sem.bind, pure, hinf, hzero, Sem.run, e1, e2, Functor.map]
                  refine ir_select ho (by simp [Region.wanted, hgd]) hrun ?_
                  have H' : selWp rr (c'.send.map e.ev) z (fun j ok v h' => (denOps P ops gs r (e.put o'.dst (selVal (c'.send.map e.ev) j ok v)) k).wp P QT h') w.heap := H
                  obtain ⟨cap, buf, s, rc, hc, H'⟩ := H'
                  refine ⟨cap, buf, s, rc, hc, ?_⟩
                  have go : ∀ j ok v h', (denOps P ops gs r (e.put o'.dst (selVal (c'.send.map e.ev) j ok v)) k).wp P QT h' → ∀ w', Same w w' → w'.heap = h' →
                      IR P ops (r ++ t) QC (a.put o'.dst (selVal (c'.send.map e.ev) j ok v)) w' := fun j ok v h' hh w' hs hw' => by
                    subst hw'
                    have hf : Fr W a (a.put o'.dst (selVal (c'.send.map e.ev) j ok v)) := Fr.put W a _ _ hdW
                    exact ih _ _ _ (hag.put o'.dst _ fun d hd => hb d (hdW d hd)) (hb.fr hf) hh
                      (fun e' a' w'' h1 h2 h3 h4 => hn e' a' w'' h1 (hf.trans h2) (hs.trans h3) h4) (fun c a' w'' h2 h3 h4 => hp c a' w'' (hf.trans h2) (hs.trans h3) h4)
                  cases hsd : c'.send.map e.ev with
                  | none =>
                    rw [hsd] at H' go
                    by_cases hh : 0 < buf.size
                    · simp only [if_pos hh] at H' ⊢; exact go _ _ _ _ H'
                    · simp only [if_neg hh] at H' ⊢; exact go _ _ _ _ H'
                  | some x =>
                    rw [hsd] at H' go
                    by_cases hh : buf.size < cap
                    · simp only [if_pos hh] at H' ⊢; exact go _ _ _ _ H'
                    · simp only [if_neg hh] at H' ⊢; exact go _ _ _ _ H'
              · exact H.elim
          · cases hs
        · cases hs
      · cases hs
    · refine stepTo_ir (stepTo_mono (fun a' w' hx => ?_) (fun c w' hx => ?_) (denStep_ok hag hW hb H w rfl))
      · obtain ⟨h1, e', h2, h3, h4⟩ := hx
        exact ih e' a' w' h2 (hb.fr h3) h4 (fun e2 a2 w2 g1 g2 g3 g4 => hn e2 a2 w2 g1 (h3.trans g2) (h1.trans g3) g4) (fun c a2 w2 g2 g3 g4 => hp c a2 w2 (h3.trans g2) (h1.trans g3) g4)
      · exact hp c a w' (.refl W a) hx.1 hx.2
theorem denOps_ir {gs : List Nat} {QT : Leaf → Heap → Prop} {W : List Nat} {QC : Exit → Act → World → Prop} {k : Env → T} (hW : ∀ o ∈ ops, ∀ d, o.dst = some d → d ∈ W) (l : List Nat)
    (e : Env) (a : Act) (w : World) (hag : Agrees e a.tmps) (hb : Bound W a) (H : (denOps P ops gs l e k).wp P QT w.heap)
    (hn : ∀ e' a' w', Agrees e' a'.tmps → Fr W a a' → Same w w' → (k e').wp P QT w'.heap → QC .normal a' w')
    (hp : ∀ c a' w', Fr W a a' → Same w w' → QT (.pan c) w'.heap → QC (.panic c) a' w') : IR P ops l QC a w := by
  have := denOps_irT (QC := QC) hW [] l e a w hag hb H (fun e' a' w' h1 h2 h3 h4 => ir_nil (hn e' a' w' h1 h2 h3 h4)) hp
  rwa [List.append_nil] at this
end
end Go.Eng
