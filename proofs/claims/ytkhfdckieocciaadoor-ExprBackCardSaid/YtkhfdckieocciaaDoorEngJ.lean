/-
  THE ENGINE, PART J: a function that defers one call on its straight road; a deferred function; one that recovers first of all.
  Conditions: the program follows 'mixedOrders' (each loaded program of the kit does).
-/
import Derived.Test.YtkhfdckieocciaaDoorEngI
import Derived.Recover
namespace Go.Eng
open Go

/-- The call that a region's last operation defers. -/
def deferOf (P : Program) (ops : Array Oper) (e : Env) : Option (FuncId × List Value) := match ops[ops.size - 1]? with
  | some o => match o.op, o.guard, o.dst with
    | .defer c, none, none => match c.callee with
      | .value x => match e.has x && c.args.toList.all e.has, e.ev x with
        | true, .func (.func f) first cap => match P.funcs[f]? with
          | some fn => match fn.name == "runtime.NumGoroutine", fn.body.isNone with
            | false, false => some (f, ((first ++ c.args.map e.ev) ++ cap).toList)
            | _, _ => none
          | none => none
        | _, _ => none
      | _ => none
    | _, _, _ => none
  | none => none
def defers (ops : Array Oper) : Bool := match ops[ops.size - 1]? with
  | some o => match o.op with
    | .defer _ => true
    | _ => false
  | none => false
def deferRegion : Code → Option (Array Oper)
  | .region _ ops false => match defers ops, guardsOf ops with
    | true, [] => some ops
    | _, _ => none
  | _ => none
def quiet0 : Env → T := fun _ => .ret .nilIface
def denD (P : Program) (fn : Func) : Code → Env → T
  | .seq x y, e => match deferRegion x with
    | some ops => denOps P ops [] (List.range (ops.size - 1)) e fun e' => match deferOf P ops e' with
        | some (f, args) => .later f args (denCode P quiet0 y [] e' quiet0) (retT P fn (e'.kill (writes y)))
        | none => .stuck
    | none => denCode P (retT P fn) x [] e fun e' => denD P fn y e'
  | c, e => denCode P (retT P fn) c [] e (retT P fn)
def denFunD (P : Program) (fn : Func) (args : List Value) : T := match fn.body with
  | some c => bif (writes c).all fun d => Nat.blt d fn.ntmps then denD P fn c (envOf 0 args) else .stuck
  | none => .stuck
/-- A deferred function's body whose first operation recovers: v is what it recovers. -/
def denRec (P : Program) (fn : Func) (v : Value) : Code → Env → T
  | .seq (.region _ ops false) y, e => match ops[0]?, guardsOf ops with
    | some o, [] => match o.op, o.guard with
      | .call c, none => match c.callee with
        | .builtin .recover => denOps P ops [] (List.range' 1 (ops.size - 1)) (e.put o.dst v) fun e' => denCode P (retT P fn) y [] e' (retT P fn)
        | _ => .stuck
      | _, _ => .stuck
    | _, _ => .stuck
  | _, _ => .stuck
def denFunRec (P : Program) (fn : Func) (v : Value) (args : List Value) : T := match fn.body with
  | some c => bif (writes c).all fun d => Nat.blt d fn.ntmps then denRec P fn v c (envOf 0 args) else .stuck
  | none => .stuck

section
variable {P : Program} {ops : Array Oper}

theorem ir_defer {Q : Exit → Act → World → Prop} {a : Act} {w : World} {i : Nat} {rest : List Nat} {o : Oper} {d : Deferred} {w' : World} (ho : ops[i]? = some o) (hw : Region.wanted o (yielded ops a.tmps) = true)
    (hr : (execOp a.eval o).run P w = .ok (.defer d) w') (H : IR P ops rest Q ({ a with defers := d :: a.defers }.put o.dst undef) w') : IR P ops (i :: rest) Q a w := fun b k cs => by
  obtain ⟨e, a', w'', hq, harr⟩ := H b k cs
  refine ⟨e, a', w'', hq, .of_steps (.one (step_lone_go ?_)) harr⟩
  have : ({ b.at a (.inRegion ops (i :: rest) :: k) with defers := d :: a.defers } : Frame).finish undef =
      b.at ({ a with defers := d :: a.defers }.put o.dst undef) (.inRegion ops rest :: k) := by
    have := Frame.finish_at b { a with defers := d :: a.defers } ops i rest k undef
    rw [ho] at this; exact this
  rw [stepG_op ho hw]
  simp only [stepG.apply, Sem.runT_eq, hr, GStep.bare_after]
  exact congrArg (fun fr => GStep.go { frame := fr, callers := cs, status := .running, dying := none } w') this

/-- A call's ends, read as heaps. -/
def endOf (w0 : World) (R : Fin → Heap → Prop) : Ending → World → Prop := fun e w' => Same w0 w' ∧ match e with
  | .returned v => R (.ret v) w'.heap
  | .panicked c => R (.pan c) w'.heap
  | .outgrown => False

theorem deferOf_ok {e : Env} {a : Act} {f : FuncId} {args : List Value} (hag : Agrees e a.tmps) (hd : deferOf P ops e = some (f, args)) :
    ∃ o d fv cap, ops[ops.size - 1]? = some o ∧ o.dst = none ∧ o.guard = none ∧ (∀ w, (execOp a.eval o).run P w = .ok (.defer d) w) ∧ d.target = .fn fv cap ∧
      ∀ w, (invoke d.target d.args).run P w = .ok (.enter f args.toArray) w := by
  unfold deferOf at hd
  split at hd
  case h_2 => cases hd
  rename_i o ho
  split at hd
  case h_2 => cases hd
  rename_i c hop hg hds
  split at hd
  case h_2 => cases hd
  rename_i x hx
  split at hd
  case h_2 => cases hd
  rename_i g first cap hall hev
  split at hd
  case h_2 => cases hd
  rename_i fn hfn
  split at hd
  case h_2 => cases hd
  rename_i hname hbody
  simp only [Option.some.injEq, Prod.mk.injEq] at hd
  obtain ⟨rfl, rfl⟩ := hd
  rw [Bool.and_eq_true] at hall
  have e1 : a.eval x = .func (.func g) first cap := by rw [hag.ev hall.1]; exact hev
  have e2 : c.args.map a.eval = c.args.map e.ev := by
    apply Array.map_congr_left
    intro y hy
    exact hag.ev (List.all_eq_true.1 hall.2 y (Array.mem_toList_iff.2 hy))
  refine ⟨o, { target := .fn (.func g) cap, args := first ++ c.args.map e.ev }, .func g, cap, ho, hds, hg, fun w => ?_, rfl, fun w => ?_⟩
  · simp only [execOp, hop, resolve, hx, e1, e2, Deferred.ofValue, bind, pure, Sem.bind, Sem.run]
  · simp only [invoke, callFunc, program, bind, Sem.bind, pure, Sem.run, hfn, hname, hbody, Bool.false_eq_true, if_false]

theorem quiet0_rets : Rets P quiet0 := fun _ _ _ _ hq H => hq _ _ H

theorem denD_ok {fn : Func} {R : Fin → Heap → Prop} {w0 : World} (hm : P.follows .mixedOrders = true) (code : Code) :
    ∀ (e : Env) (a : Act) (w : World), Agrees e a.tmps → Bound (writes code) a → a.defers = [] → Same w0 w → (denD P fn code e).wp P (finOf R) w.heap →
      code.wp P (bodyPostD P fn (endOf w0 R)) a w := by
  have fin : ∀ (e' : Env) (a' : Act) (w' : World), Agrees e' a'.tmps → a'.defers = [] → Same w0 w' → (retT P fn e').wp P (finOf R) w'.heap → Leaves P fn a'.tmps (endOf w0 R) a'.defers .returning w' := by
    intro e' a' w' h1 hd hs h4
    obtain ⟨v, g1, g2⟩ := retT_ok h1 h4
    rw [hd]
    exact ⟨v, g1, hs, g2⟩
  have finp : ∀ (ch : List PanicEntry) (a' : Act) (w' : World), a'.defers = [] → Same w0 w' → finOf R (.pan ch) w'.heap → Leaves P fn a'.tmps (endOf w0 R) a'.defers (.panicking ch) w' := by
    intro ch a' w' hd hs h4
    rw [hd]
    exact ⟨hs, h4⟩
  have base : ∀ (code : Code) (e : Env) (a : Act) (w : World), Agrees e a.tmps → Bound (writes code) a → a.defers = [] → Same w0 w → (denCode P (retT P fn) code [] e (retT P fn)).wp P (finOf R) w.heap →
      code.wp P (bodyPostD P fn (endOf w0 R)) a w := by
    intro code e a w hag hb hd hs H
    exact denCode_ok hm (retT_rets fn) code [] e _ (finOf R) a w _ hag hb H (fun e' a' w' h1 h2 h3 h4 => fin e' a' w' h1 (h2.2.1.trans hd) (hs.trans h3) h4)
      ⟨fun id p hp => (by cases hp), fun e' a' w' h1 h2 h3 h4 => fin e' a' w' h1 (h2.2.1.trans hd) (hs.trans h3) h4, fun ch a' w' h1 h2 h3 => finp ch a' w' (h1.2.1.trans hd) (hs.trans h2) h3⟩
  induction code with
  | seq x y ihx ihy =>
    intro e a w hag hb hd hs H
    have hbx : Bound (writes x) a := fun d hd => hb d (List.mem_append_left _ hd)
    have hby : Bound (writes y) a := fun d hd => hb d (List.mem_append_right _ hd)
    simp only [denD] at H
    split at H
    · rename_i ops hdr
      cases x with
      | region id ops' draw =>
        cases draw with
        | true => simp [deferRegion] at hdr
        | false =>
          simp only [deferRegion] at hdr
          split at hdr
          case h_2 => cases hdr
          rename_i hdf hgs
          cases hdr
          have hW : ∀ o ∈ ops, ∀ d, o.dst = some d → d ∈ ops.toList.filterMap (·.dst) := fun o ho d hd => List.mem_filterMap.2 ⟨o, Array.mem_toList_iff.2 ho, hd⟩
          have hsz : ops.size ≠ 0 := by
            intro h0
            unfold defers at hdf
            simp [h0] at hdf
          have hrange : List.range ops.size = List.range (ops.size - 1) ++ [ops.size - 1] := by
            have : ops.size = (ops.size - 1) + 1 := by omega
            rw [this, List.range_succ]
            simp
          refine wp_seq fun b k' cs => ?_
          have hir : IR P ops (List.range ops.size) (Exit.then (y.wp P (bodyPostD P fn (endOf w0 R))) (bodyPostD P fn (endOf w0 R))) a w := by
            rw [hrange]
            refine denOps_irT hW [ops.size - 1] (List.range (ops.size - 1)) e a w hag hbx H (fun e' a' w' h1 h2 h3 h4 => ?_) (fun ch a' w' h1 h2 h3 => ?_)
            · split at h4
              case h_2 => exact h4.elim
              rename_i f args hdo
              obtain ⟨o, d, fv, cap, ho, hds, hg, hex, htar, hinv⟩ := deferOf_ok h1 hdo
              refine ir_defer ho (by simp [Region.wanted, hg]) (hex w') (ir_nil ?_)
              rw [hds]
              show y.wp P (bodyPostD P fn (endOf w0 R)) { a' with defers := d :: a'.defers } w'
              have hd' : a'.defers = [] := h2.2.1.trans hd
              simp only [T.wp] at h4
              have hb' : Bound (writes y) a' := hby.fr h2
              have fin2 : ∀ (u : FrameMode) (a3 : Act) (w3 : World), u ≠ .run → Fr (writes y) { a' with defers := d :: a'.defers } a3 → Same w' w3 →
                  CallsDH P f args u w3.heap (fun e u h'' => match e with
                    | .ret _ => (match settle u with
                        | .returning => (retT P fn (e'.kill (writes y))).wp P (finOf R) h''
                        | .panicking c => finOf R (.pan c) h''
                        | .run => False)
                    | .pan _ => False) → Leaves P fn a3.tmps (endOf w0 R) a3.defers u w3 := by
                intro u a3 w3 hu hf h3' hcd
                have ed : a3.defers = [d] := by rw [hf.2.1, hd']
                rw [ed]
                refine ⟨hu, fv, cap, f, args.toArray, htar, hinv w3, (hcd w3 rfl).mono fun e2 u' w4 he => ?_⟩
                obtain ⟨s4, he⟩ := he
                cases e2 with
                | panicked c => exact he.elim
                | outgrown => exact he.elim
                | returned v =>
                  dsimp only at he ⊢
                  have s5 : Same w0 w4 := hs.trans (h3.trans (h3'.trans s4))
                  generalize settle u' = m at he ⊢
                  cases m with
                  | run => exact he.elim
                  | returning =>
                    have hk : Agrees (e'.kill (writes y)) a3.tmps := agrees_kill (a := { a' with defers := d :: a'.defers }) h1 hf
                    obtain ⟨v, g1, g2⟩ := retT_ok hk he
                    exact ⟨v, g1, s5, g2⟩
                  | panicking c => exact ⟨s5, he⟩
              have fin3 : ∀ (a3 : Act) (w3 : World), Fr (writes y) { a' with defers := d :: a'.defers } a3 → Same w' w3 →
                  CallsDH P f args .returning w3.heap (fun e u h'' => match e with
                    | .ret _ => settle u = .returning ∧ (retT P fn (e'.kill (writes y))).wp P (finOf R) h''
                    | .pan _ => False) → Leaves P fn a3.tmps (endOf w0 R) a3.defers .returning w3 := fun a3 w3 hf h3' hcd =>
                fin2 .returning a3 w3 (by simp) hf h3' (hcd.mono fun e2 u' h' he => by
                  cases e2 with
                  | ret v => dsimp only at he ⊢; rw [he.1]; exact he.2
                  | pan c => exact he)
              refine denCode_ok hm quiet0_rets y [] e' quiet0 _ { a' with defers := d :: a'.defers } w' _ h1 hb' h4 (fun e3 a3 w3 g1 g2 g3 g4 => ?_) ⟨fun id p hp => (by cases hp), fun e3 a3 w3 g1 g2 g3 g4 => ?_, fun ch a3 w3 g1 g2 g3 => ?_⟩
              · exact fin3 a3 w3 g2 g3 g4
              · exact fin3 a3 w3 g2 g3 g4
              · exact fin2 (.panicking ch) a3 w3 (by simp) g1 g2 g3
            · exact finp ch a' w' (h1.2.1.trans hd) (hs.trans h2) h3
          obtain ⟨ex, a', w', hq, harr⟩ := hir b k' cs
          exact ⟨ex, a', w', hq, .of_steps (.one step_region) harr⟩
      | _ => simp [deferRegion] at hdr
    · refine wp_seq (denCode_ok hm (retT_rets fn) x [] e _ (finOf R) a w _ hag hbx H (fun e' a' w' h1 h2 h3 h4 => ?_)
        ⟨fun id p hp => (by cases hp), fun e' a' w' h1 h2 h3 h4 => fin e' a' w' h1 (h2.2.1.trans hd) (hs.trans h3) h4, fun ch a' w' h1 h2 h3 => finp ch a' w' (h1.2.1.trans hd) (hs.trans h2) h3⟩)
      exact ihy e' a' w' h1 (hby.fr h2) (h2.2.1.trans hd) (hs.trans h3) h4
  | _ => exact base _

theorem args_agree {fn : Func} (args : List Value) : Agrees (envOf 0 args) (args.toArray ++ Array.replicate (fn.ntmps - args.toArray.size) undef) := by
  have := envOf_agrees args 0 [] (List.replicate (fn.ntmps - args.toArray.size) undef) rfl
  have e : ([] ++ args ++ List.replicate (fn.ntmps - args.toArray.size) undef).toArray = args.toArray ++ Array.replicate (fn.ntmps - args.toArray.size) undef := by
    apply Array.ext'
    simp
  rw [← e]; exact this
theorem args_bound {fn : Func} {c : Code} (args : List Value) (hall : ((writes c).all fun d => Nat.blt d fn.ntmps) = true) :
    Bound (writes c) { tmps := args.toArray ++ Array.replicate (fn.ntmps - args.toArray.size) undef, defers := [] } := by
  intro d hd
  have := List.all_eq_true.1 hall d hd
  have hlt : d < fn.ntmps := by simpa [Nat.blt_eq] using this
  simp
  omega

/-- A call of a function that may defer one. -/
theorem calls_ofD {f : FuncId} {fn : Func} {args : List Value} {h : Heap} {R : Fin → Heap → Prop} (hm : P.follows .mixedOrders = true) (hf : P.funcs[f]? = some fn)
    (H : (denFunD P fn args).wp P (finOf R) h) : CallsH P f args h R := by
  intro w hw
  subst hw
  unfold denFunD at H
  split at H
  · rename_i c hc
    cases hall : (writes c).all fun d => Nat.blt d fn.ntmps with
    | false => rw [hall] at H; exact H.elim
    | true =>
      rw [hall] at H
      simp only [cond_true] at H
      exact calls_of_wp_defers hf hc (denD_ok hm c _ _ w (args_agree args) (args_bound args hall) rfl (.refl w) H)
  · exact H.elim

/-- A deferred call of a function that defers and recovers nothing. -/
theorem callsDH_of {f : FuncId} {fn : Func} {args : List Value} {u : FrameMode} {h : Heap} {R : Fin → FrameMode → Heap → Prop} (hm : P.follows .mixedOrders = true) (hf : P.funcs[f]? = some fn)
    (H : (denFun P fn args).wp P (finOf fun e h' => R e u h') h) : CallsDH P f args u h R := by
  intro w hw
  subst hw
  unfold denFun at H
  split at H
  · rename_i c hc
    cases hall : (writes c).all fun d => Nat.blt d fn.ntmps with
    | false => rw [hall] at H; exact H.elim
    | true =>
      rw [hall] at H
      simp only [cond_true] at H
      refine CallsD.mono (callsD_of_wp (R := endOf w fun e h' => R e u h') hf hc ?_) (fun e u' w' he => ?_)
      · refine denCode_ok hm (retT_rets fn) c [] _ _ (finOf fun e h' => R e u h') _ w _ (args_agree args) (args_bound args hall) H (fun e' a' w' h1 h2 h3 h4 => ?_) ⟨fun id p hp => (by cases hp), fun e' a' w' h1 h2 h3 h4 => ?_, fun ch a' w' h1 h2 h3 => ⟨h1.2.1, h2, h3⟩⟩
        · obtain ⟨v, g1, g2⟩ := retT_ok h1 h4
          exact ⟨h2.2.1, v, g1, h3, g2⟩
        · obtain ⟨v, g1, g2⟩ := retT_ok h1 h4
          exact ⟨h2.2.1, v, g1, h3, g2⟩
      · obtain ⟨rfl, s, he⟩ := he
        refine ⟨s, ?_⟩
        cases e <;> exact he
  · exact H.elim

theorem wpS_rec {Q : Exit → Act → List Frame → World → Prop} {id : Nat} {o : Oper} {rest : List Nat} {a : Act} {cs cs' : List Frame} {w : World} {v : Value} (hr : List.range ops.size = 0 :: rest) (ho : ops[0]? = some o)
    (hw : Region.wanted o (yielded ops a.tmps) = true) (hx : (execOp a.eval o).run P w = .ok .recover w) (hrec : recoverD cs = some (v, cs') ∨ (recoverD cs = none ∧ v = .nilIface ∧ cs' = cs))
    (H : IR P ops rest (fun e a' w' => Q e a' cs' w') (a.put o.dst v) w) : (Code.region id ops false).wpS P Q a cs w := fun b k hb hro => by
  obtain ⟨e, a', w', hq, harr⟩ := H b k cs'
  refine ⟨e, a', cs', w', hq, .of_steps (.head step_region (.one (step_lone_go ?_))) harr⟩
  have hg := stepG_op (P := P) (b := b) (k := k) (cs := cs) (w := w) (rest := rest) ho hw
  have hfin : ∀ v, (b.at a (.inRegion ops (0 :: rest) :: k)).finish v = b.at (a.put o.dst v) (.inRegion ops rest :: k) := by
    intro v; rw [Frame.finish_at, ho]; rfl
  have hk : (b.at a (.inRegion ops (0 :: rest) :: k)).kind = .deferred := hb
  have htr := tryRecover_deferred hk cs
  rw [hr, hg, ← hfin]
  rcases hrec with hrec | ⟨hrec, rfl, rfl⟩
  · rw [hrec] at htr
    simp only [Frame.at] at htr ⊢
    simp [stepG.apply, hx, htr]
  · rw [hrec] at htr
    simp only [Frame.at] at htr ⊢
    simp [stepG.apply, hx, htr]

/-- A deferred call of a function that recovers first of all. -/
theorem callsDH_rec {f : FuncId} {fn : Func} {args : List Value} {u u' : FrameMode} {v : Value} {h : Heap} {R : Fin → FrameMode → Heap → Prop} (hm : P.follows .mixedOrders = true) (hf : P.funcs[f]? = some fn)
    (hu : (∃ older, u = .panicking ({ v, recovered := false } :: older) ∧ u' = .panicking ({ v, recovered := true } :: older)) ∨ (u = .returning ∧ v = .nilIface ∧ u' = u))
    (H : (denFunRec P fn v args).wp P (finOf fun e h' => R e u' h') h) : CallsDH P f args u h R := by
  intro w hw
  subst hw
  unfold denFunRec at H
  split at H
  · rename_i c hc
    cases hall : (writes c).all fun d => Nat.blt d fn.ntmps with
    | false => rw [hall] at H; exact H.elim
    | true =>
      rw [hall] at H
      simp only [cond_true] at H
      refine callsD_of_wpS hf hc fun c₀ cs hmode => ?_
      have hag := args_agree (fn := fn) args
      have hb := args_bound args hall
      generalize hA : ({ tmps := args.toArray ++ Array.replicate (fn.ntmps - args.toArray.size) undef, defers := [] } : Act) = A at hb ⊢
      have hag' : Agrees (envOf 0 args) A.tmps := by rw [← hA]; exact hag
      have hAd : A.defers = [] := by rw [← hA]
      have hrec : recoverD (c₀ :: cs) = some (v, { c₀ with mode := u' } :: cs) ∨ (recoverD (c₀ :: cs) = none ∧ v = .nilIface ∧ ({ c₀ with mode := u' } :: cs) = c₀ :: cs) := by
        rcases hu with ⟨older, rfl, rfl⟩ | ⟨rfl, rfl, rfl⟩
        · left; simp [recoverD, hmode]
        · right; refine ⟨by simp [recoverD, hmode], rfl, ?_⟩
          rw [← hmode]
      unfold denRec at H
      split at H
      case h_2 => exact H.elim
      rename_i id ops y
      split at H
      case h_2 => exact H.elim
      rename_i o ho hgs
      split at H
      case h_2 => exact H.elim
      rename_i cl hop hgd
      split at H
      case h_2 => exact H.elim
      rename_i hcl
      have hW : ∀ o ∈ ops, ∀ d, o.dst = some d → d ∈ ops.toList.filterMap (·.dst) := fun o ho d hd => List.mem_filterMap.2 ⟨o, Array.mem_toList_iff.2 ho, hd⟩
      have hbx : Bound (ops.toList.filterMap (·.dst)) A := fun d hd => hb d (List.mem_append_left _ hd)
      have hby : Bound (writes y) A := fun d hd => hb d (List.mem_append_right _ hd)
      have hdW : ∀ d, o.dst = some d → d ∈ ops.toList.filterMap (·.dst) := hW o (Array.mem_of_getElem? ho)
      have hsz : ops.size = (ops.size - 1) + 1 := by
        have : 0 < ops.size := by
          rcases Nat.eq_zero_or_pos ops.size with h0 | h0
          · simp [h0] at ho
          · exact h0
        omega
      have hrange : List.range ops.size = 0 :: List.range' 1 (ops.size - 1) := by
        rw [List.range_eq_range', hsz, List.range'_succ]
        simp
      have fin : ∀ (e' : Env) (a' : Act) (w' : World), Agrees e' a'.tmps → a'.defers = [] → Same w w' → (retT P fn e').wp P (finOf fun e h' => R e u' h') w'.heap →
          a'.defers = [] ∧ ∃ u2, ({ c₀ with mode := u' } :: cs : List Frame) = { c₀ with mode := u2 } :: cs ∧ ∃ v, (results fn a'.tmps).run P w' = .ok v w' ∧ (Same w w' ∧ R (.ret v) u2 w'.heap) := by
        intro e' a' w' h1 hd hs h4
        obtain ⟨v, g1, g2⟩ := retT_ok h1 h4
        exact ⟨hd, u', rfl, v, g1, hs, g2⟩
      have f0 : Fr (ops.toList.filterMap (·.dst)) A (A.put o.dst v) := Fr.put _ A _ _ hdW
      refine wpS_seq (wpS_rec hrange ho (by simp [Region.wanted, hgd]) (by simp only [execOp, hop, resolve, hcl, bind, pure, Sem.bind, Sem.run, invoke, builtin]) hrec ?_)
      refine denOps_ir hW (List.range' 1 (ops.size - 1)) _ _ w (hag'.put o.dst v fun d hd => hbx d (hdW d hd)) (hbx.fr f0) H (fun e' a' w' h1 h2 h3 h4 => ?_) (fun ch a' w' h1 h2 h3 => ?_)
      · have hd' : a'.defers = [] := h2.2.1.trans (f0.2.1.trans hAd)
        refine wpS_of_wp (denCode_ok hm (retT_rets fn) y [] e' _ (finOf fun e h' => R e u' h') a' w' _ h1 (hby.fr (f0.trans h2)) h4 (fun e2 a2 w2 g1 g2 g3 g4 => ?_) ⟨fun id p hp => (by cases hp), fun e2 a2 w2 g1 g2 g3 g4 => ?_, fun ch a2 w2 g2 g3 g4 => ?_⟩)
        · exact fin e2 a2 w2 g1 (g2.2.1.trans hd') (h3.trans g3) g4
        · exact fin e2 a2 w2 g1 (g2.2.1.trans hd') (h3.trans g3) g4
        · exact ⟨g2.2.1.trans hd', u', rfl, h3.trans g3, g4⟩
      · exact ⟨h1.2.1.trans (f0.2.1.trans hAd), u', rfl, h2, h3⟩
  · exact H.elim
end
end Go.Eng
