/-
  EngJ, EngT, EngM, EngK, EngZ, Den, Base, VisitD, EngP, Tarjan, put together.
  Conditions: none; each part tells its own.
-/
import Derived.Test.YtbpbfoemghcfaaaDoorK1
import Derived.Recover
import Derived.Sort.Grow
import Derived.Test.YtbpbfoemghcfaaaDoorProg
import Derived.KernelRfl
/-
  THE ENGINE, PART J: a function that defers one call on its straight road; a deferred function; one that recovers first of all.
  Conditions: the program follows 'mixedOrders' (each loaded program of the kit does).
-/
namespace Go.Eng
open Go

/-- The call that a region's last operation defers. -/
def deferOf (P : Program) (ops : Array Oper) (e : Env) : Option (FuncId × List Value) := match ops[ops.size - 1]? with
  | some o => match o.op, o.guard, o.dst with
    | .defer c, none, none => match c.callee with
      | .value x => match e.has x && c.args.toList.all e.has, e.ev x with
        | true, .func (.func f) first cap => match P.funcs[f]? with
          | some fn => match fn.name == "runtime.NumGoroutine", fn.body.isNone with
            | false, false => some (f, ((first ++ c.args.map e.ev) ++ cap).toList)
            | _, _ => none
          | none => none
        | _, _ => none
      | _ => none
    | _, _, _ => none
  | none => none
def defers (ops : Array Oper) : Bool := match ops[ops.size - 1]? with
  | some o => match o.op with
    | .defer _ => true
    | _ => false
  | none => false
def deferRegion : Code → Option (Array Oper)
  | .region _ ops false => match defers ops, guardsOf ops with
    | true, [] => some ops
    | _, _ => none
  | _ => none
def quiet0 : Env → T := fun _ => .ret .nilIface
def denD (P : Program) (fn : Func) : Code → Env → T
  | .seq x y, e => match deferRegion x with
    | some ops => denOps P ops [] (List.range (ops.size - 1)) e fun e' => match deferOf P ops e' with
        | some (f, args) => .later f args (denCode P quiet0 y [] e' quiet0) (retT P fn (e'.kill (writes y)))
        | none => .stuck
    | none => denCode P (retT P fn) x [] e fun e' => denD P fn y e'
  | c, e => denCode P (retT P fn) c [] e (retT P fn)
def denFunD (P : Program) (fn : Func) (args : List Value) : T := match fn.body with
  | some c => bif (writes c).all fun d => Nat.blt d fn.ntmps then denD P fn c (envOf 0 args) else .stuck
  | none => .stuck
/-- A deferred function's body whose first operation recovers: v is what it recovers. -/
def denRec (P : Program) (fn : Func) (v : Value) : Code → Env → T
  | .seq (.region _ ops false) y, e => match ops[0]?, guardsOf ops with
    | some o, [] => match o.op, o.guard with
      | .call c, none => match c.callee with
        | .builtin .recover => denOps P ops [] (List.range' 1 (ops.size - 1)) (e.put o.dst v) fun e' => denCode P (retT P fn) y [] e' (retT P fn)
        | _ => .stuck
      | _, _ => .stuck
    | _, _ => .stuck
  | _, _ => .stuck
def denFunRec (P : Program) (fn : Func) (v : Value) (args : List Value) : T := match fn.body with
  | some c => bif (writes c).all fun d => Nat.blt d fn.ntmps then denRec P fn v c (envOf 0 args) else .stuck
  | none => .stuck

section
variable {P : Program} {ops : Array Oper}

theorem ir_defer {Q : Exit → Act → World → Prop} {a : Act} {w : World} {i : Nat} {rest : List Nat} {o : Oper} {d : Deferred} {w' : World} (ho : ops[i]? = some o) (hw : Region.wanted o (yielded ops a.tmps) = true)
    (hr : (execOp a.eval o).run P w = .ok (.defer d) w') (H : IR P ops rest Q ({ a with defers := d :: a.defers }.put o.dst undef) w') : IR P ops (i :: rest) Q a w := fun b k cs => by
  obtain ⟨e, a', w'', hq, harr⟩ := H b k cs
  refine ⟨e, a', w'', hq, .of_steps (.one (step_lone_go ?_)) harr⟩
  have : ({ b.at a (.inRegion ops (i :: rest) :: k) with defers := d :: a.defers } : Frame).finish undef =
      b.at ({ a with defers := d :: a.defers }.put o.dst undef) (.inRegion ops rest :: k) := by
    have := Frame.finish_at b { a with defers := d :: a.defers } ops i rest k undef
    rw [ho] at this; exact this
  rw [stepG_op ho hw]
  simp only [stepG.apply, Sem.runT_eq, hr, GStep.bare_after]
  exact congrArg (fun fr => GStep.go { frame := fr, callers := cs, status := .running, dying := none } w') this

/-- A call's ends, read as heaps. -/
def endOf (w0 : World) (R : Fin → Heap → Prop) : Ending → World → Prop := fun e w' => Same w0 w' ∧ match e with
  | .returned v => R (.ret v) w'.heap
  | .panicked c => R (.pan c) w'.heap
  | .outgrown => False

theorem deferOf_ok {e : Env} {a : Act} {f : FuncId} {args : List Value} (hag : Agrees e a.tmps) (hd : deferOf P ops e = some (f, args)) :
    ∃ o d fv cap, ops[ops.size - 1]? = some o ∧ o.dst = none ∧ o.guard = none ∧ (∀ w, (execOp a.eval o).run P w = .ok (.defer d) w) ∧ d.target = .fn fv cap ∧
      ∀ w, (invoke d.target d.args).run P w = .ok (.enter f args.toArray) w := by
  unfold deferOf at hd
  split at hd
  case h_2 => cases hd
  rename_i o ho
  split at hd
  case h_2 => cases hd
  rename_i c hop hg hds
  split at hd
  case h_2 => cases hd
  rename_i x hx
  split at hd
  case h_2 => cases hd
  rename_i g first cap hall hev
  split at hd
  case h_2 => cases hd
  rename_i fn hfn
  split at hd
  case h_2 => cases hd
  rename_i hname hbody
  simp only [Option.some.injEq, Prod.mk.injEq] at hd
  obtain ⟨rfl, rfl⟩ := hd
  rw [Bool.and_eq_true] at hall
  have e1 : a.eval x = .func (.func g) first cap := by rw [hag.ev hall.1]; exact hev
  have e2 : c.args.map a.eval = c.args.map e.ev := by
    apply Array.map_congr_left
    intro y hy
    exact hag.ev (List.all_eq_true.1 hall.2 y (Array.mem_toList_iff.2 hy))
  refine ⟨o, { target := .fn (.func g) cap, args := first ++ c.args.map e.ev }, .func g, cap, ho, hds, hg, fun w => ?_, rfl, fun w => ?_⟩
  · simp only [execOp, hop, resolve, hx, e1, e2, Deferred.ofValue, bind, pure, Sem.bind, Sem.run]
  · simp only [invoke, callFunc, program, bind, Sem.bind, pure, Sem.run, hfn, hname, hbody, Bool.false_eq_true, if_false]

theorem quiet0_rets : Rets P quiet0 := fun _ _ _ _ hq H => hq _ _ H

theorem denD_ok {fn : Func} {R : Fin → Heap → Prop} {w0 : World} (hm : P.follows .mixedOrders = true) (code : Code) :
    ∀ (e : Env) (a : Act) (w : World), Agrees e a.tmps → Bound (writes code) a → a.defers = [] → Same w0 w → (denD P fn code e).wp P (finOf R) w.heap →
      code.wp P (bodyPostD P fn (endOf w0 R)) a w := by
  have fin : ∀ (e' : Env) (a' : Act) (w' : World), Agrees e' a'.tmps → a'.defers = [] → Same w0 w' → (retT P fn e').wp P (finOf R) w'.heap → Leaves P fn a'.tmps (endOf w0 R) a'.defers .returning w' := by
    intro e' a' w' h1 hd hs h4
    obtain ⟨v, g1, g2⟩ := retT_ok h1 h4
    rw [hd]
    exact ⟨v, g1, hs, g2⟩
  have finp : ∀ (ch : List PanicEntry) (a' : Act) (w' : World), a'.defers = [] → Same w0 w' → finOf R (.pan ch) w'.heap → Leaves P fn a'.tmps (endOf w0 R) a'.defers (.panicking ch) w' := by
    intro ch a' w' hd hs h4
    rw [hd]
    exact ⟨hs, h4⟩
  have base : ∀ (code : Code) (e : Env) (a : Act) (w : World), Agrees e a.tmps → Bound (writes code) a → a.defers = [] → Same w0 w → (denCode P (retT P fn) code [] e (retT P fn)).wp P (finOf R) w.heap →
      code.wp P (bodyPostD P fn (endOf w0 R)) a w := by
    intro code e a w hag hb hd hs H
    exact denCode_ok hm (retT_rets fn) code [] e _ (finOf R) a w _ hag hb H (fun e' a' w' h1 h2 h3 h4 => fin e' a' w' h1 (h2.2.1.trans hd) (hs.trans h3) h4)
      ⟨fun id p hp => (by cases hp), fun e' a' w' h1 h2 h3 h4 => fin e' a' w' h1 (h2.2.1.trans hd) (hs.trans h3) h4, fun ch a' w' h1 h2 h3 => finp ch a' w' (h1.2.1.trans hd) (hs.trans h2) h3⟩
  induction code with
  | seq x y ihx ihy =>
    intro e a w hag hb hd hs H
    have hbx : Bound (writes x) a := fun d hd => hb d (List.mem_append_left _ hd)
    have hby : Bound (writes y) a := fun d hd => hb d (List.mem_append_right _ hd)
    simp only [denD] at H
    split at H
    · rename_i ops hdr
      cases x with
      | region id ops' draw =>
        cases draw with
        | true => simp [deferRegion] at hdr
        | false =>
          simp only [deferRegion] at hdr
          split at hdr
          case h_2 => cases hdr
          rename_i hdf hgs
          cases hdr
          have hW : ∀ o ∈ ops, ∀ d, o.dst = some d → d ∈ ops.toList.filterMap (·.dst) := fun o ho d hd => List.mem_filterMap.2 ⟨o, Array.mem_toList_iff.2 ho, hd⟩
          have hsz : ops.size ≠ 0 := by
            intro h0
            unfold defers at hdf
            simp [h0] at hdf
          have hrange : List.range ops.size = List.range (ops.size - 1) ++ [ops.size - 1] := by
            have : ops.size = (ops.size - 1) + 1 := by omega
            rw [this, List.range_succ]
            simp
          refine wp_seq fun b k' cs => ?_
          have hir : IR P ops (List.range ops.size) (Exit.then (y.wp P (bodyPostD P fn (endOf w0 R))) (bodyPostD P fn (endOf w0 R))) a w := by
            rw [hrange]
            refine denOps_irT hW [ops.size - 1] (List.range (ops.size - 1)) e a w hag hbx H (fun e' a' w' h1 h2 h3 h4 => ?_) (fun ch a' w' h1 h2 h3 => ?_)
            · split at h4
              case h_2 => exact h4.elim
              rename_i f args hdo
              obtain ⟨o, d, fv, cap, ho, hds, hg, hex, htar, hinv⟩ := deferOf_ok h1 hdo
              refine ir_defer ho (by simp [Region.wanted, hg]) (hex w') (ir_nil ?_)
              rw [hds]
              show y.wp P (bodyPostD P fn (endOf w0 R)) { a' with defers := d :: a'.defers } w'
              have hd' : a'.defers = [] := h2.2.1.trans hd
              simp only [T.wp] at h4
              have hb' : Bound (writes y) a' := hby.fr h2
              have fin2 : ∀ (u : FrameMode) (a3 : Act) (w3 : World), u ≠ .run → Fr (writes y) { a' with defers := d :: a'.defers } a3 → Same w' w3 →
                  CallsDH P f args u w3.heap (fun e u h'' => match e with
                    | .ret _ => (match settle u with
                        | .returning => (retT P fn (e'.kill (writes y))).wp P (finOf R) h''
                        | .panicking c => finOf R (.pan c) h''
                        | .run => False)
                    | .pan _ => False) → Leaves P fn a3.tmps (endOf w0 R) a3.defers u w3 := by
                intro u a3 w3 hu hf h3' hcd
                have ed : a3.defers = [d] := by rw [hf.2.1, hd']
                rw [ed]
                refine ⟨hu, fv, cap, f, args.toArray, htar, hinv w3, (hcd w3 rfl).mono fun e2 u' w4 he => ?_⟩
                obtain ⟨s4, he⟩ := he
                cases e2 with
                | panicked c => exact he.elim
                | outgrown => exact he.elim
                | returned v =>
                  dsimp only at he ⊢
                  have s5 : Same w0 w4 := hs.trans (h3.trans (h3'.trans s4))
                  generalize settle u' = m at he ⊢
                  cases m with
                  | run => exact he.elim
                  | returning =>
                    have hk : Agrees (e'.kill (writes y)) a3.tmps := agrees_kill (a := { a' with defers := d :: a'.defers }) h1 hf
                    obtain ⟨v, g1, g2⟩ := retT_ok hk he
                    exact ⟨v, g1, s5, g2⟩
                  | panicking c => exact ⟨s5, he⟩
              have fin3 : ∀ (a3 : Act) (w3 : World), Fr (writes y) { a' with defers := d :: a'.defers } a3 → Same w' w3 →
                  CallsDH P f args .returning w3.heap (fun e u h'' => match e with
                    | .ret _ => settle u = .returning ∧ (retT P fn (e'.kill (writes y))).wp P (finOf R) h''
                    | .pan _ => False) → Leaves P fn a3.tmps (endOf w0 R) a3.defers .returning w3 := fun a3 w3 hf h3' hcd =>
                fin2 .returning a3 w3 (by simp) hf h3' (hcd.mono fun e2 u' h' he => by
                  cases e2 with
                  | ret v => dsimp only at he ⊢; rw [he.1]; exact he.2
                  | pan c => exact he)
              refine denCode_ok hm quiet0_rets y [] e' quiet0 _ { a' with defers := d :: a'.defers } w' _ h1 hb' h4 (fun e3 a3 w3 g1 g2 g3 g4 => ?_) ⟨fun id p hp => (by cases hp), fun e3 a3 w3 g1 g2 g3 g4 => ?_, fun ch a3 w3 g1 g2 g3 => ?_⟩
              · exact fin3 a3 w3 g2 g3 g4
              · exact fin3 a3 w3 g2 g3 g4
              · exact fin2 (.panicking ch) a3 w3 (by simp) g1 g2 g3
            · exact finp ch a' w' (h1.2.1.trans hd) (hs.trans h2) h3
          obtain ⟨ex, a', w', hq, harr⟩ := hir b k' cs
          exact ⟨ex, a', w', hq, .of_steps (.one step_region) harr⟩
      | _ => simp [deferRegion] at hdr
    · refine wp_seq (denCode_ok hm (retT_rets fn) x [] e _ (finOf R) a w _ hag hbx H (fun e' a' w' h1 h2 h3 h4 => ?_)
        ⟨fun id p hp => (by cases hp), fun e' a' w' h1 h2 h3 h4 => fin e' a' w' h1 (h2.2.1.trans hd) (hs.trans h3) h4, fun ch a' w' h1 h2 h3 => finp ch a' w' (h1.2.1.trans hd) (hs.trans h2) h3⟩)
      exact ihy e' a' w' h1 (hby.fr h2) (h2.2.1.trans hd) (hs.trans h3) h4
  | _ => exact base _

theorem args_agree {fn : Func} (args : List Value) : Agrees (envOf 0 args) (args.toArray ++ Array.replicate (fn.ntmps - args.toArray.size) undef) := by
  have := envOf_agrees args 0 [] (List.replicate (fn.ntmps - args.toArray.size) undef) rfl
  have e : ([] ++ args ++ List.replicate (fn.ntmps - args.toArray.size) undef).toArray = args.toArray ++ Array.replicate (fn.ntmps - args.toArray.size) undef := by
    apply Array.ext'
    simp
  rw [← e]; exact this
theorem args_bound {fn : Func} {c : Code} (args : List Value) (hall : ((writes c).all fun d => Nat.blt d fn.ntmps) = true) :
    Bound (writes c) { tmps := args.toArray ++ Array.replicate (fn.ntmps - args.toArray.size) undef, defers := [] } := by
  intro d hd
  have := List.all_eq_true.1 hall d hd
  have hlt : d < fn.ntmps := by simpa [Nat.blt_eq] using this
  simp
  omega

/-- A call of a function that may defer one. -/
theorem calls_ofD {f : FuncId} {fn : Func} {args : List Value} {h : Heap} {R : Fin → Heap → Prop} (hm : P.follows .mixedOrders = true) (hf : P.funcs[f]? = some fn)
    (H : (denFunD P fn args).wp P (finOf R) h) : CallsH P f args h R := by
  intro w hw
  subst hw
  unfold denFunD at H
  split at H
  · rename_i c hc
    cases hall : (writes c).all fun d => Nat.blt d fn.ntmps with
    | false => rw [hall] at H; exact H.elim
    | true =>
      rw [hall] at H
      simp only [cond_true] at H
      exact calls_of_wp_defers hf hc (denD_ok hm c _ _ w (args_agree args) (args_bound args hall) rfl (.refl w) H)
  · exact H.elim

/-- A deferred call of a function that defers and recovers nothing. -/
theorem callsDH_of {f : FuncId} {fn : Func} {args : List Value} {u : FrameMode} {h : Heap} {R : Fin → FrameMode → Heap → Prop} (hm : P.follows .mixedOrders = true) (hf : P.funcs[f]? = some fn)
    (H : (denFun P fn args).wp P (finOf fun e h' => R e u h') h) : CallsDH P f args u h R := by
  intro w hw
  subst hw
  unfold denFun at H
  split at H
  · rename_i c hc
    cases hall : (writes c).all fun d => Nat.blt d fn.ntmps with
    | false => rw [hall] at H; exact H.elim
    | true =>
      rw [hall] at H
      simp only [cond_true] at H
      refine CallsD.mono (callsD_of_wp (R := endOf w fun e h' => R e u h') hf hc ?_) (fun e u' w' he => ?_)
      · refine denCode_ok hm (retT_rets fn) c [] _ _ (finOf fun e h' => R e u h') _ w _ (args_agree args) (args_bound args hall) H (fun e' a' w' h1 h2 h3 h4 => ?_) ⟨fun id p hp => (by cases hp), fun e' a' w' h1 h2 h3 h4 => ?_, fun ch a' w' h1 h2 h3 => ⟨h1.2.1, h2, h3⟩⟩
        · obtain ⟨v, g1, g2⟩ := retT_ok h1 h4
          exact ⟨h2.2.1, v, g1, h3, g2⟩
        · obtain ⟨v, g1, g2⟩ := retT_ok h1 h4
          exact ⟨h2.2.1, v, g1, h3, g2⟩
      · obtain ⟨rfl, s, he⟩ := he
        refine ⟨s, ?_⟩
        cases e <;> exact he
  · exact H.elim

theorem wpS_rec {Q : Exit → Act → List Frame → World → Prop} {id : Nat} {o : Oper} {rest : List Nat} {a : Act} {cs cs' : List Frame} {w : World} {v : Value} (hr : List.range ops.size = 0 :: rest) (ho : ops[0]? = some o)
    (hw : Region.wanted o (yielded ops a.tmps) = true) (hx : (execOp a.eval o).run P w = .ok .recover w) (hrec : recoverD cs = some (v, cs') ∨ (recoverD cs = none ∧ v = .nilIface ∧ cs' = cs))
    (H : IR P ops rest (fun e a' w' => Q e a' cs' w') (a.put o.dst v) w) : (Code.region id ops false).wpS P Q a cs w := fun b k hb hro => by
  obtain ⟨e, a', w', hq, harr⟩ := H b k cs'
  refine ⟨e, a', cs', w', hq, .of_steps (.head step_region (.one (step_lone_go ?_))) harr⟩
  have hg := stepG_op (P := P) (b := b) (k := k) (cs := cs) (w := w) (rest := rest) ho hw
  have hfin : ∀ v, (b.at a (.inRegion ops (0 :: rest) :: k)).finish v = b.at (a.put o.dst v) (.inRegion ops rest :: k) := by
    intro v; rw [Frame.finish_at, ho]; rfl
  have hk : (b.at a (.inRegion ops (0 :: rest) :: k)).kind = .deferred := hb
  have htr := tryRecover_deferred hk cs
  rw [hr, hg, ← hfin]
  rcases hrec with hrec | ⟨hrec, rfl, rfl⟩
  · rw [hrec] at htr
    simp only [Frame.at] at htr ⊢
    simp [stepG.apply, hx, htr]
  · rw [hrec] at htr
    simp only [Frame.at] at htr ⊢
    simp [stepG.apply, hx, htr]

/-- A deferred call of a function that recovers first of all. -/
theorem callsDH_rec {f : FuncId} {fn : Func} {args : List Value} {u u' : FrameMode} {v : Value} {h : Heap} {R : Fin → FrameMode → Heap → Prop} (hm : P.follows .mixedOrders = true) (hf : P.funcs[f]? = some fn)
    (hu : (∃ older, u = .panicking ({ v, recovered := false } :: older) ∧ u' = .panicking ({ v, recovered := true } :: older)) ∨ (u = .returning ∧ v = .nilIface ∧ u' = u))
    (H : (denFunRec P fn v args).wp P (finOf fun e h' => R e u' h') h) : CallsDH P f args u h R := by
  intro w hw
  subst hw
  unfold denFunRec at H
  split at H
  · rename_i c hc
    cases hall : (writes c).all fun d => Nat.blt d fn.ntmps with
    | false => rw [hall] at H; exact H.elim
    | true =>
      rw [hall] at H
      simp only [cond_true] at H
      refine callsD_of_wpS hf hc fun c₀ cs hmode => ?_
      have hag := args_agree (fn := fn) args
      have hb := args_bound args hall
      generalize hA : ({ tmps := args.toArray ++ Array.replicate (fn.ntmps - args.toArray.size) undef, defers := [] } : Act) = A at hb ⊢
      have hag' : Agrees (envOf 0 args) A.tmps := by rw [← hA]; exact hag
      have hAd : A.defers = [] := by rw [← hA]
      have hrec : recoverD (c₀ :: cs) = some (v, { c₀ with mode := u' } :: cs) ∨ (recoverD (c₀ :: cs) = none ∧ v = .nilIface ∧ ({ c₀ with mode := u' } :: cs) = c₀ :: cs) := by
        rcases hu with ⟨older, rfl, rfl⟩ | ⟨rfl, rfl, rfl⟩
        · left; simp [recoverD, hmode]
        · right; refine ⟨by simp [recoverD, hmode], rfl, ?_⟩
          rw [← hmode]
      unfold denRec at H
      split at H
      case h_2 => exact H.elim
      rename_i id ops y
      split at H
      case h_2 => exact H.elim
      rename_i o ho hgs
      split at H
      case h_2 => exact H.elim
      rename_i cl hop hgd
      split at H
      case h_2 => exact H.elim
      rename_i hcl
      have hW : ∀ o ∈ ops, ∀ d, o.dst = some d → d ∈ ops.toList.filterMap (·.dst) := fun o ho d hd => List.mem_filterMap.2 ⟨o, Array.mem_toList_iff.2 ho, hd⟩
      have hbx : Bound (ops.toList.filterMap (·.dst)) A := fun d hd => hb d (List.mem_append_left _ hd)
      have hby : Bound (writes y) A := fun d hd => hb d (List.mem_append_right _ hd)
      have hdW : ∀ d, o.dst = some d → d ∈ ops.toList.filterMap (·.dst) := hW o (Array.mem_of_getElem? ho)
      have hsz : ops.size = (ops.size - 1) + 1 := by
        have : 0 < ops.size := by
          rcases Nat.eq_zero_or_pos ops.size with h0 | h0
          · simp [h0] at ho
          · exact h0
        omega
      have hrange : List.range ops.size = 0 :: List.range' 1 (ops.size - 1) := by
        rw [List.range_eq_range', hsz, List.range'_succ]
        simp
      have fin : ∀ (e' : Env) (a' : Act) (w' : World), Agrees e' a'.tmps → a'.defers = [] → Same w w' → (retT P fn e').wp P (finOf fun e h' => R e u' h') w'.heap →
          a'.defers = [] ∧ ∃ u2, ({ c₀ with mode := u' } :: cs : List Frame) = { c₀ with mode := u2 } :: cs ∧ ∃ v, (results fn a'.tmps).run P w' = .ok v w' ∧ (Same w w' ∧ R (.ret v) u2 w'.heap) := by
        intro e' a' w' h1 hd hs h4
        obtain ⟨v, g1, g2⟩ := retT_ok h1 h4
        exact ⟨hd, u', rfl, v, g1, hs, g2⟩
      have f0 : Fr (ops.toList.filterMap (·.dst)) A (A.put o.dst v) := Fr.put _ A _ _ hdW
      refine wpS_seq (wpS_rec hrange ho (by simp [Region.wanted, hgd]) (by simp only [execOp, hop, resolve, hcl, bind, pure, Sem.bind, Sem.run, invoke, builtin]) hrec ?_)
      refine denOps_ir hW (List.range' 1 (ops.size - 1)) _ _ w (hag'.put o.dst v fun d hd => hbx d (hdW d hd)) (hbx.fr f0) H (fun e' a' w' h1 h2 h3 h4 => ?_) (fun ch a' w' h1 h2 h3 => ?_)
      · have hd' : a'.defers = [] := h2.2.1.trans (f0.2.1.trans hAd)
        refine wpS_of_wp (denCode_ok hm (retT_rets fn) y [] e' _ (finOf fun e h' => R e u' h') a' w' _ h1 (hby.fr (f0.trans h2)) h4 (fun e2 a2 w2 g1 g2 g3 g4 => ?_) ⟨fun id p hp => (by cases hp), fun e2 a2 w2 g1 g2 g3 g4 => ?_, fun ch a2 w2 g2 g3 g4 => ?_⟩)
        · exact fin e2 a2 w2 g1 (g2.2.1.trans hd') (h3.trans g3) g4
        · exact fin e2 a2 w2 g1 (g2.2.1.trans hd') (h3.trans g3) g4
        · exact ⟨g2.2.1.trans hd', u', rfl, h3.trans g3, g4⟩
      · exact ⟨h1.2.1.trans (f0.2.1.trans hAd), u', rfl, h2, h3⟩
  · exact H.elim
end
end Go.Eng

/-
  THE ENGINE, PART T: rules over pieces for calls that may panic, and for a function that defers a call.
  Conditions: none; it speaks of any program.
-/
namespace Go.Eng
open Go

section
variable {P : Program} {Q : Leaf → Heap → Prop} {φ : Snap} {h : Heap} {Γ : List Chk}
/-- How a call ends that may panic. -/
def Ends2 (S : Value → Heap → Prop) (X : List PanicEntry → Heap → Prop) : Fin → Heap → Prop
  | .ret v, h => S v h
  | .pan c, h => X c h
theorem finOf_ret {S : Value → Heap → Prop} {X : List PanicEntry → Heap → Prop} {v : Value} (H : S v h) : finOf (Ends2 S X) (.ret v) h := H
theorem finOf_pan {S : Value → Heap → Prop} {X : List PanicEntry → Heap → Prop} {c : List PanicEntry} (H : X c h) : finOf (Ends2 S X) (.pan c) h := H
theorem s_callP {f : FuncId} {args : List Value} {sh : Sh} {k : sh.Ty → T} {S : Value → Heap → Prop} {X : List PanicEntry → Heap → Prop} (hc : CallsH P f args h (Ends2 S X))
    (hk : ∀ v h', S v h' → ∃ x, v = sh.val x ∧ (k x).wp P Q h') (hp : ∀ c h', X c h' → Q (.pan c) h') : (T.call f args sh k).wp P Q h := by
  simp only [T.wp]
  refine CallsH.mono hc fun e h' he => ?_
  cases e with
  | ret v => exact hk v h' he
  | pan c => exact hp c h' he
theorem s_pan {v : Value} (H : Q (.pan [{ v, recovered := false }]) h) : (T.pan v).wp P Q h := H
theorem meet_pan {γ : Type} {ss : List Sh1} {M : Shs.Ty ss → Heap → γ → Prop} {g : γ} {c : List PanicEntry} (H : Q (.pan c) h) : meet ss M g Q (.pan c) h := H
theorem meetB_pan {γ : Type} {id : Nat} {ss : List Sh1} {M : Shs.Ty ss → Heap → γ → Prop} {g : γ} {c : List PanicEntry} (H : Q (.pan c) h) : meetB id ss M g Q (.pan c) h := H
theorem around_pan {σ : Type} {ss : List Sh1} {I : Shs.Ty ss → Heap → σ → Prop} {e : Option σ} {c : List PanicEntry} (H : Q (.pan c) h) : around ss I e Q (.pan c) h := H
/-- Ahead of a deferred call. -/
def aft (N : Heap → Prop) (X : List PanicEntry → Heap → Prop) : Leaf → Heap → Prop
  | .ret _, h => N h
  | .pan c, h => X c h
  | _, _ => False
theorem aft_ret {N : Heap → Prop} {X : List PanicEntry → Heap → Prop} {v : Value} (H : N h) : aft N X (.ret v) h := H
theorem aft_pan {N : Heap → Prop} {X : List PanicEntry → Heap → Prop} {c : List PanicEntry} (H : X c h) : aft N X (.pan c) h := H
theorem s_later {f : FuncId} {args : List Value} {x k : T} (N : Heap → Prop) (X : List PanicEntry → Heap → Prop) (H : x.wp P (aft N X) h)
    (hn : ∀ h', N h' → CallsDH P f args .returning h' fun e u h'' => (∃ v, e = .ret v) ∧ settle u = .returning ∧ k.wp P Q h'')
    (hx : ∀ c h', X c h' → CallsDH P f args (.panicking c) h' fun e u h'' => (∃ v, e = .ret v) ∧ ((settle u = .returning ∧ k.wp P Q h'') ∨ ∃ c', settle u = .panicking c' ∧ Q (.pan c') h'')) :
    (T.later f args x k).wp P Q h := by
  simp only [T.wp]
  refine T.wp_mono x (fun lf h' hl => ?_) H
  cases lf with
  | out vs => exact hl
  | brk id vs => exact hl
  | ret v =>
    refine CallsDH.mono (hn h' hl) ?_
    rintro _ u h'' ⟨⟨v, rfl⟩, h1, h2⟩
    exact ⟨h1, h2⟩
  | pan c =>
    refine CallsDH.mono (hx c h' hl) ?_
    rintro _ u h'' ⟨⟨v, rfl⟩, ⟨h1, h2⟩ | ⟨c', h1, h2⟩⟩
    · dsimp only; rw [h1]; exact h2
    · dsimp only; rw [h1]; exact h2
theorem St.ptr {α : Type} {ty : TypeId} {R : Rep α} {p : Option Addr} {x : α} (H : St φ (⟨Rep.obj ty R, [.pointer p], x⟩ :: Γ) h) : ∃ b, p = some ⟨b, 0, none⟩ := by
  obtain ⟨b, vs, e, _⟩ := H.open
  exact ⟨b, by simpa using e⟩
end
end Go.Eng

/-
  THE ENGINE, PART M: maps whose keys are texts; bytes as a text; strconv.AppendInt as a piece.
  Conditions: none; it speaks of any program.
-/
namespace Go.Eng
open Go

theorem bytes_beq (a b : ByteArray) : (a == b) = decide (a = b) := by
  cases a with | mk a => cases b with | mk b =>
  have e : ((ByteArray.mk a == ByteArray.mk b) : Bool) = (a == b) := rfl
  rw [e]
  by_cases h : a = b
  · subst h; simp
  · rw [decide_eq_false (by intro g; exact h (ByteArray.mk.inj g))]; exact beq_eq_false_iff_ne.2 h
def mget {β : Type} (k : ByteArray) : List (ByteArray × β) → Option β
  | [] => none
  | (k', v) :: m => if k = k' then some v else mget k m
def mset {β : Type} (k : ByteArray) (v : β) : List (ByteArray × β) → List (ByteArray × β)
  | [] => [(k, v)]
  | (k', v') :: m => if k = k' then (k', v) :: m else (k', v') :: mset k v m

inductive Ents {β : Type} (vv : Ro β) (φ : Snap) : List MapEntry → List (ByteArray × β) → Prop where
  | nil : Ents vv φ [] []
  | cons {e : MapEntry} {es : List MapEntry} {k : ByteArray} {x : β} {m : List (ByteArray × β)} : e.key = .string k → vv.is φ [e.val] x → Ents vv φ es m → Ents vv φ (e :: es) ((k, x) :: m)
theorem Ents.mono {β : Type} {vv : Ro β} {φ ψ : Snap} (hs : Sub φ ψ) {es : List MapEntry} {m : List (ByteArray × β)} (H : Ents vv φ es m) : Ents vv ψ es m := by
  induction H with
  | nil => exact .nil
  | cons h1 h2 _ ih => exact .cons h1 (vv.mono hs h2) ih
/-- A map of one's own, from texts. -/
def Rep.smap {β : Type} (vv : Ro β) : Rep (List (ByteArray × β)) where
  sz := 1
  is φ h F cs m := ∃ r es clock, cs = [.map (some r)] ∧ h[r]? = some (.map es clock) ∧ Ents vv φ es.toList m ∧ (∀ i, F i ↔ i = r)
  len h := by obtain ⟨r, es, c, rfl, _⟩ := h; rfl
  mono hs h := by obtain ⟨r, es, c, e, hr, he, hF⟩ := h; exact ⟨r, es, c, e, hr, he.mono hs, hF⟩
  loc hl h := by obtain ⟨r, es, c, e, hr, he, hF⟩ := h; exact ⟨r, es, c, e, by rw [hl r ((hF r).2 rfl)]; exact hr, he, hF⟩
  lt h i hi := by obtain ⟨r, es, c, e, hr, he, hF⟩ := h; rw [(hF i).1 hi]; exact lt_of_get hr
  plain h v hv := by obtain ⟨r, es, c, rfl, _⟩ := h; simp at hv; subst hv; rfl

theorem findNow_none {β : Type} {vv : Ro β} {φ : Snap} {k : ByteArray} : ∀ {es : List MapEntry} {m : List (ByteArray × β)} (i : Nat), Ents vv φ es m → mget k m = none → Instr.findNow .string (.string k) es i = some none := by
  intro es m i H
  induction H generalizing i with
  | nil => intro _; rfl
  | @cons e es k' x m h1 h2 _ ih =>
    intro hm
    simp only [mget] at hm
    split at hm
    · cases hm
    · rename_i hk
      unfold Instr.findNow
      rw [h1]
      simp only [Instr.sameNow, bytes_beq, decide_eq_false hk]
      exact ih (i + 1) hm
theorem findNow_some {β : Type} {vv : Ro β} {φ : Snap} {k : ByteArray} {x : β} : ∀ {es : List MapEntry} {m : List (ByteArray × β)} (i : Nat), Ents vv φ es m → mget k m = some x →
    ∃ j e, es[j]? = some e ∧ Instr.findNow .string (.string k) es i = some (some (i + j, e.val)) ∧ e.key = .string k ∧ vv.is φ [e.val] x ∧
      ∀ (y : β) (v : Value), vv.is φ [v] y → Ents vv φ (es.modify j fun e => { e with key := .string k, val := v }) (mset k y m) := by
  intro es m i H
  induction H generalizing i with
  | nil => intro hm; cases hm
  | @cons e es k' x' m h1 h2 h3 ih =>
    intro hm
    simp only [mget] at hm
    split at hm
    · rename_i hk
      cases hm
      subst hk
      refine ⟨0, e, rfl, ?_, h1, h2, fun y v hy => ?_⟩
      · unfold Instr.findNow
        rw [h1]
        simp only [Instr.sameNow, bytes_beq]
        rfl
      · simp only [mset, if_true, List.modify_cons, if_true]
        exact .cons rfl hy h3
    · rename_i hk
      obtain ⟨j, e', g1, g2, g3, g4, g5⟩ := ih (i + 1) hm
      refine ⟨j + 1, e', by simpa using g1, ?_, g3, g4, fun y v hy => ?_⟩
      · unfold Instr.findNow
        rw [h1]
        simp only [Instr.sameNow, bytes_beq, decide_eq_false hk]
        rw [g2, show i + 1 + j = i + (j + 1) by omega]
      · simp only [mset, if_neg hk, List.modify_cons]
        exact .cons h1 h2 (g5 y v hy)
theorem Ents.push {β : Type} {vv : Ro β} {φ : Snap} {k : ByteArray} {y : β} {e : MapEntry} : ∀ {es : List MapEntry} {m : List (ByteArray × β)}, Ents vv φ es m → mget k m = none → e.key = .string k → vv.is φ [e.val] y → Ents vv φ (es ++ [e]) (mset k y m) := by
  intro es m H
  induction H with
  | nil => intro _ h1 h2; exact .cons h1 h2 .nil
  | @cons e' es k' x m g1 g2 _ ih =>
    intro hm h1 h2
    simp only [mget] at hm
    split at hm
    · cases hm
    · rename_i hk
      simp only [mset, if_neg hk]
      exact .cons g1 g2 (ih hm h1 h2)

section
variable {P : Program} {Q : Leaf → Heap → Prop} {φ : Snap} {h : Heap} {Γ : List Chk}
theorem s_newmap {β : Type} {vv : Ro β} {k : Nat → T} (H : St φ Γ h) (hk : ∀ r h', St φ (⟨Rep.smap vv, [.map (some r)], []⟩ :: Γ) h' → (k r).wp P Q h') : (T.new (.map #[] 0) k).wp P Q h := by
  refine t_new (hk _ _ ?_)
  have hs := H.sub
  refine ⟨fun i => i = h.size, ⟨h.size, #[], 0, rfl, by rw [Array.getElem?_push, if_pos rfl], .nil, fun _ => Iff.rfl⟩, fun k hk => ⟨?_, fun g => g⟩, ?_⟩
  · subst hk
    cases hφ : φ h.size with
    | none => rfl
    | some o => have := lt_of_get (hs _ _ hφ); omega
  · refine StX.heap (StX.more H fun k hk => ?_) (fun k hk _ => by rw [Array.getElem?_push]; simp; omega) fun i o ho => ?_
    · rcases hk with hk | hk
      · exact hk.elim
      · left; omega
    · have hlt := lt_of_get (hs i o ho)
      show (h.push _)[i]? = some o
      rw [Array.getElem?_push, if_neg (by omega)]
      exact hs i o ho
theorem checkKey_str {kt : TypeId} {b : Bool} {k : ByteArray} (hk : P.underlying kt = some .string) {K : Unit → Heap → Prop} {X : Value → Heap → Prop} (H : K () h) : semWp P (Instr.checkKey b 10000 kt (.string k)) K X h := by
  unfold Instr.checkKey
  exact underlying_run hk H
theorem zeroValue_run {t : TypeId} {i : TypeInfo} {z : Value} (hi : P.info? t = some i) (hz : i.zero = some z) {K : Value → Heap → Prop} {X : Value → Heap → Prop} (H : K z h) : semWp P (zeroValue t) K X h := by
  have ez : (zeroValue t) = Sem.program fun P' => ((match P'.info? t with | some i => Sem.pure i | none => stuck "no such type").bind fun i => match i.zero with | some v => Sem.pure v | none => unsupported (.resourceLimit "a value of more than 2^22 cells")) := rfl
  rw [ez]
  simp only [Sem.bind, semWp, hi, hz]
  exact H
/-- v, ok := m[k], where numbers lie in the map -/
theorem s_lookupI {mt kt vt : TypeId} {j : IntKind} {r : Nat} {k : ByteArray} {m : List (ByteArray × Int)} {K : Int × Bool × Unit → T} (hm : P.underlying mt = some (.map kt vt)) (hk : P.underlying kt = some .string)
    {i : TypeInfo} (hi : P.info? vt = some i) (hz : i.zero = some (.int j 0)) (H : St φ (⟨Rep.smap (Ro.int j), [.map (some r)], m⟩ :: Γ) h) (hK : ∀ y : Int × Bool × Unit, y = ((mget k m).getD 0, (mget k m).isSome, ()) → (K y).wp P Q h) :
    (T.sem (Instr.lookup mt (.map (some r)) (.string k) true) (.tuple [.atom (.int j), .atom .bool]) K).wp P Q h := by
  obtain ⟨F, ⟨r', es, c, e, hr, he, hF⟩, h2, H⟩ := H
  cases e
  refine t_sem ?_
  unfold Instr.lookup
  refine underlying_run hm ?_
  refine ⟨_, hr, (fun _ _ _ g => by cases g), ?_⟩
  show semWp P (Sem.bind (Instr.checkKey _ 10000 kt (.string k)) fun _ => Sem.bind (Instr.findKey kt (.string k) es.toList) fun r => _) _ _ h
  refine semWp_bind _ _ (checkKey_str hk (semWp_bind _ _ ?_))
  unfold Instr.findKey
  refine underlying_run hk ?_
  cases hg : mget k m with
  | none =>
    rw [findNow_none 0 he hg]
    show semWp P (Sem.bind (zeroValue vt) fun z => _) _ _ h
    exact semWp_bind _ _ (zeroValue_run hi hz ⟨(0, false, ()), rfl, hK _ (by rw [hg]; rfl)⟩)
  | some x =>
    obtain ⟨q, e, g1, g2, g3, g4, _⟩ := findNow_some 0 he hg
    rw [g2]
    have hv : e.val = .int j x := by
      have : [e.val] = [Value.int j x] := g4
      simpa using this
    dsimp only
    show ∃ y, _
    refine ⟨(x, true, ()), ?_, hK _ (by rw [hg]; rfl)⟩
    rw [hv]
    rfl
/-- m[k] = v -/
theorem s_mapset {β : Type} {vv : Ro β} {mt kt vt : TypeId} {r : Nat} {k : ByteArray} {m : List (ByteArray × β)} {y : β} {v : Value} {K : Unit → T} (hm : P.underlying mt = some (.map kt vt)) (hk : P.underlying kt = some .string)
    (H : St φ (⟨Rep.smap vv, [.map (some r)], m⟩ :: Γ) h) (hv : vv.is φ [v] y) (hK : ∀ h', St φ (⟨Rep.smap vv, [.map (some r)], mset k y m⟩ :: Γ) h' → (K ()).wp P Q h') :
    (T.sem (Sem.bind (Instr.mapUpdate mt (.map (some r)) (.string k) v) fun _ => .pure undef) (.tuple []) K).wp P Q h := by
  obtain ⟨F, ⟨r', es, c, e, hr, he, hF⟩, h2, H⟩ := H
  cases e
  have hs := H.sub
  have key : ∀ (es' : Array MapEntry) (c' : Nat), Ents vv φ es'.toList (mset k y m) → (K ()).wp P Q (h.setIfInBounds r (.map es' c')) := fun es' c' he' => by
    have hlt := lt_of_get hr
    have hne : ∀ k, ¬ F k → (h.setIfInBounds r (Obj.map es' c'))[k]? = h[k]? := fun k hk => Array.getElem?_setIfInBounds_ne fun e => hk ((hF k).2 e.symm)
    refine hK _ ⟨F, ⟨r, es', c', rfl, ?_, he', hF⟩, h2, StX.heap H (fun k _ hX => hne k fun g => hX (.inr g)) fun i o ho => ?_⟩
    · rw [Array.getElem?_setIfInBounds, if_pos rfl, if_pos hlt]
    · show (h.setIfInBounds r _)[i]? = some o
      rw [hne i fun g => by rw [(h2 i g).1] at ho; cases ho]
      exact hs i o ho
  refine t_sem ?_
  refine semWp_bind _ _ ?_
  unfold Instr.mapUpdate
  refine underlying_run hm ?_
  refine ⟨_, hr, (fun _ _ _ g => by cases g), ?_⟩
  show semWp P (Sem.bind (Instr.checkKey _ 10000 kt (.string k)) fun _ => Sem.bind (Instr.findKey kt (.string k) es.toList) fun r => _) _ _ h
  refine semWp_bind _ _ (checkKey_str hk (semWp_bind _ _ ?_))
  unfold Instr.findKey
  refine underlying_run hk ?_
  cases hg : mget k m with
  | none =>
    rw [findNow_none 0 he hg]
    dsimp only
    refine ⟨⟨_, hr, (fun _ _ _ g => by cases g)⟩, (), rfl, key _ _ ?_⟩
    rw [Array.toList_push]
    exact he.push hg rfl hv
  | some x =>
    obtain ⟨q, e, g1, g2, g3, g4, g5⟩ := findNow_some 0 he hg
    rw [g2]
    have hq : es[0 + q]? = some e := by rw [Nat.zero_add]; simpa using g1
    have hks : Instr.keyThatStays ((Option.map (fun x => x.key) es[0 + q]?).getD (Value.string k)) (Value.string k) = Sem.pure (Value.string k) := by
      rw [hq]
      dsimp only [Option.map, Option.getD]
      rw [g3]
      unfold Instr.keyThatStays
      have hb : Instr.sameBits 10000 (.string k) (.string k) = true := by
        unfold Instr.sameBits
        rw [bytes_beq]; simp
      rw [hb]
      rfl
    show semWp P (Sem.bind (Instr.keyThatStays ((Option.map (fun x => x.key) es[0 + q]?).getD (Value.string k)) (Value.string k)) fun key => setObj r (Obj.map (es.modify (0 + q) fun e => { e with key, val := v }) c)) _ _ h
    rw [hks]
    refine ⟨⟨_, hr, (fun _ _ _ g => by cases g)⟩, (), rfl, key _ _ ?_⟩
    rw [Array.toList_modify, Nat.zero_add]
    exact g5 y v hv

/-! ## bytes -/
theorem all_atom {a : Atom} {vs : List Value} {l : List a.Ty} (H : (Ro.atom a).All φ vs l) : vs = l.map a.val := by
  induction H with
  | nil => rfl
  | cons h _ ih => have h' : _ = [_] := h; rw [h', ih]; rfl
def isByte (x : Int) : Bool := decide (0 ≤ x) && decide (x < 256)
def toStr (l : List Int) : Option ByteArray := if l.all isByte then some ⟨(l.map fun x => UInt8.ofNat x.toNat).toArray⟩ else none
theorem St.bytes {ty : TypeId} {t : Slc} {l : List Int} (H : St φ (⟨Rep.row ty (Ro.int .u8), [.slice t.1 t.2.1 t.2.2], l⟩ :: Γ) h) : l.length = t.2.1 ∧ CellsAt h t.1 (l.map (Atom.int .u8).val) := by
  have hl := H.rowLen
  obtain ⟨vs, ha, hc⟩ := H.all
  rw [all_atom ha] at hc
  exact ⟨hl.symm, hc⟩
theorem Ro.SliceIs.bytes {t : Slc} {l : List Int} (H : Ro.SliceIs (Ro.int .u8) φ t l) (hs : Sub φ (snap h)) : l.length = t.2.1 ∧ CellsAt h t.1 (l.map (Atom.int .u8).val) := by
  have hl := H.length
  obtain ⟨vs, ha, hc⟩ := H.heap hs
  rw [all_atom ha] at hc
  exact ⟨hl.symm, hc⟩
theorem s_toString {src dst e : TypeId} {t : Slc} {l : List Int} {x : ByteArray} {K : ByteArray → T} (hs : P.underlying src = some (.slice e)) (he : P.underlying e = some (.int .u8)) (hd : P.underlying dst = some .string)
    (hc : l.length = t.2.1 ∧ CellsAt h t.1 (l.map (Atom.int .u8).val)) (hx : toStr l = some x) (hK : (K x).wp P Q h) : (T.sem (convert src dst (.slice t.1 t.2.1 t.2.2)) (.one (.atom .string)) K).wp P Q h := by
  obtain ⟨hl, hc⟩ := hc
  unfold toStr at hx
  split at hx
  · rename_i hall
    cases hx
    have e1 : l.map (Atom.int .u8).val = (l.map fun x => UInt8.ofNat x.toNat).map fun b => Value.int .u8 (b.toNat : Int) := by
      rw [List.map_map]
      refine List.map_congr_left fun x hx => ?_
      have := List.all_eq_true.1 hall x hx
      simp only [isByte, Bool.and_eq_true, decide_eq_true_eq] at this
      show Value.int .u8 x = Value.int .u8 _
      have e : (UInt8.ofNat x.toNat).toNat = x.toNat := by simp; omega
      rw [show ((UInt8.ofNat x.toNat).toNat : Int) = x by rw [e]; omega]
    rw [e1] at hc
    have hl2 : t.2.1 = (l.map fun x => UInt8.ofNat x.toNat).length := by simp [← hl]
    refine t_sem ?_
    rw [hl2]
    exact convBytes_wp hs he hd hc ⟨_, rfl, hK⟩
  · cases hx
end
end Go.Eng

/-
  THE ENGINE, PART K: make([]T, n) of things of one cell; a slice's copy of one's own.
  Conditions: none; it speaks of any program.
-/
namespace Go.Eng
open Go

theorem all_replicate {α : Type} {r : Ro α} {φ : Snap} {v : Value} {x : α} (h : r.is φ [v] x) : ∀ n, r.All φ (List.replicate n v) (List.replicate n x) := by
  intro n
  induction n with
  | zero => exact .nil
  | succ n ih => exact .cons (a := [v]) h ih
/-- make([]T, n) -/
def mkRow {α : Type} (n : Int) (x : α) : Option (List α) := if 0 ≤ n ∧ n ≤ 1073741824 then some (List.replicate n.toNat x) else none
theorem mkRow_some {α : Type} {n : Int} {x : α} {l : List α} (h : mkRow n x = some l) : 0 ≤ n ∧ n ≤ 1073741824 ∧ l = List.replicate n.toNat x := by
  unfold mkRow at h
  split at h
  · rename_i g; exact ⟨g.1, g.2, (Option.some.inj h).symm⟩
  · cases h
structure MakeT (P : Program) (t elem : TypeId) (z : Value) : Prop where
  st : P.underlying t = some (.slice elem)
  info : ∃ i, P.info? elem = some i ∧ i.size = 1 ∧ (∃ zv, i.zero = some zv ∧ zv.cells = #[z]) ∧ i.bytes ≤ 4096
section
variable {P : Program} {Q : Leaf → Heap → Prop} {φ : Snap} {h : Heap} {Γ : List Chk}
theorem s_make {α : Type} {t elem : TypeId} {z : Value} {r : Ro α} {x : α} {l : List α} {n m : Int} {k : Slc → T} (A : MakeT P t elem z) (H : St φ Γ h) (hr : r.is φ [z] x) (hnm : m = n) (hD : mkRow n x = some l)
    (hk : ∀ (t : Slc) h', St φ (⟨Rep.row elem r, [.slice t.1 t.2.1 t.2.2], l⟩ :: Γ) h' → (k t).wp P Q h') :
    (T.sem (Instr.makeSlice t (.int .i64 m) (.int .i64 m)) (.one (.atom .slice)) k).wp P Q h := by
  subst hnm
  obtain ⟨h0, h1, rfl⟩ := mkRow_some hD
  obtain ⟨i, hi, hsz, ⟨zv, hz, hzc⟩, hb⟩ := A.info
  have hw : IntKind.i64.wrap m = m := by
    unfold IntKind.wrap
    simp only [IntKind.bits, IntKind.signed]
    have e : m % 18446744073709551616 = m := by omega
    simp
    omega
  have hbn : (i.bytes : Int) * m ≤ 4096 * 1073741824 := by
    have h2 : (i.bytes : Int) ≤ 4096 := by omega
    exact Int.mul_le_mul h2 h1 h0 (by decide)
  have hlarge : ¬ (m < 0 ∨ (i.bytes : Int) * m > 2 ^ 48) := by
    intro hh
    rcases hh with hh | hh
    · omega
    · have e : (2 : Int) ^ 48 = 281474976710656 := by decide
      omega
  have fin : (k ((some ⟨h.size, 0, none⟩, m.toNat, m.toNat) : Slc)).wp P Q (h.push (.cells (List.replicate m.toNat z).toArray elem (0, 0))) := by
    have hall : r.All φ (List.replicate m.toNat z) (List.replicate m.toNat x) := all_replicate hr _
    have s1 := H.new (ty := elem) (List.replicate m.toNat z)
    exact hk (some ⟨h.size, 0, none⟩, m.toNat, m.toNat) _ (St.lit (r := r) (l := List.replicate m.toNat x) (n := m.toNat) s1 hall (by simp) (by unfold maxLen; omega))
  have hcells : ∀ q : Nat, (Array.range q).map (fun j => (#[z] : Array Value)[j % (#[z] : Array Value).size]!) = (List.replicate q z).toArray := by
    intro q
    apply Array.ext
    · simp
    · intro j h1 h2
      simp [Nat.mod_one]
  have rest : ∀ zero : Array Value, (zero = #[] ∧ m.toNat = 0) ∨ zero = #[z] → semWp P (do
      let a ← newRow elem ((Array.range m.toNat).map (zero[· % zero.size]!))
      pure (.slice (some a) m.toNat m.toNat) : Sem Value) (fun v h' => ∃ x : Slc, v = ((.one (.atom .slice)) : Sh).val x ∧ (k x).wp P Q h') (fun _ _ => False) h := by
    intro zero hz0
    show semWp P (Sem.new _ _) _ _ h
    rcases hz0 with ⟨rfl, hn⟩ | rfl
    · have e : (Array.range m.toNat).map (fun j => (#[] : Array Value)[j % (#[] : Array Value).size]!) = (List.replicate m.toNat z).toArray := by rw [hn]; simp
      rw [e]
      exact ⟨_, rfl, fin⟩
    · rw [hcells]
      exact ⟨_, rfl, fin⟩
  refine t_sem ?_
  unfold Instr.makeSlice
  refine underlying_run A.st ?_
  show semWp P ((typeInfo elem).bind _) _ _ h
  refine typeInfo_run hi ?_
  simp only [hw]
  rw [if_neg (by simp; omega)]
  show semWp P ((askRoom _).bind _) _ _ h
  unfold askRoom
  have go : semWp P ((sizeOf elem).bind fun s => (if m.toNat * s = 0 then (do
        let zero ← (pure #[] : Sem (Array Value))
        let a ← newRow elem ((Array.range (m.toNat * s)).map (zero[· % zero.size]!))
        pure (.slice (some a) m.toNat m.toNat) : Sem Value) else do
        let zv ← zeroValue elem
        let zero ← (pure zv.cells : Sem (Array Value))
        let a ← newRow elem ((Array.range (m.toNat * s)).map (zero[· % zero.size]!))
        pure (.slice (some a) m.toNat m.toNat))) (fun v h' => ∃ x : Slc, v = ((.one (.atom .slice)) : Sh).val x ∧ (k x).wp P Q h') (fun _ _ => False) h := by
    refine sizeOf_run hi ?_
    rw [hsz, Nat.mul_one]
    by_cases hn : m.toNat = 0
    · rw [if_pos hn]
      exact rest #[] (.inl ⟨rfl, hn⟩)
    · rw [if_neg hn]
      show semWp P ((zeroValue elem).bind _) _ _ h
      refine semWp_bind _ _ (zeroValue_run hi hz ?_)
      have := rest zv.cells (.inr hzc)
      exact this
  split
  · exact go
  · exact go
end
end Go.Eng

/-
  THE ENGINE, PART Z: a row whose things are put in their places anew, all at once (a sort).
  Conditions: none; it speaks of any program.
-/
namespace Go.Eng
open Go Go.Sort

theorem St.rowPut {α : Type} {φ : Snap} {h h' : Heap} {Γ : List Chk} {ty : TypeId} {r : Ro α} {t : Slc} {l m : List α} {vs' : List Value}
    (H : St φ (⟨Rep.row ty r, [.slice t.1 t.2.1 t.2.2], l⟩ :: Γ) h) (hall : r.All φ vs' m) (hm : m.length = l.length)
    (hb : ∀ b off, t.1 = some ⟨b, off, none⟩ → ∀ arr, h[b]? = some (.cells arr ty (0, 0)) → ∃ arr', h'[b]? = some (.cells arr' ty (0, 0)) ∧ arr'.size = arr.size ∧ ∀ i v, vs'[i]? = some v → arr'[off + i]? = some v)
    (hk : ∀ k, k < h.size → (∀ b off, t.1 = some ⟨b, off, none⟩ → k ≠ b) → h'[k]? = h[k]?) : St φ (⟨Rep.row ty r, [.slice t.1 t.2.1 t.2.2], m⟩ :: Γ) h' := by
  have hs := H.sub
  obtain ⟨F, ⟨p, n, c, vs, e, hn, hc, hfu, ho, hall0, hF⟩, h2, H⟩ := H
  have hn : l.length = n := hn
  simp only [List.cons.injEq, Value.slice.injEq, and_true] at e
  obtain ⟨e1, e2, e3⟩ := e
  have hvs : vs'.length = n * r.sz := by rw [hall.length, hm, hn]
  rcases ho with ⟨hp, hn0, hc0, hv0⟩ | ⟨b, off, arr, hp, hb0, g1, g2, g3, g4⟩
  · have hne : ∀ b off, t.1 ≠ some ⟨b, off, none⟩ := fun b off he => by rw [e1, hp] at he; cases he
    have hkk : ∀ k, k < h.size → h'[k]? = h[k]? := fun k hk' => hk k hk' fun b off he => absurd he (hne b off)
    refine ⟨F, ⟨p, n, c, vs', by rw [e1, e2, e3], by rw [hm]; exact hn, hc, ?_, .inl ⟨hp, hn0, hc0, ?_⟩, hall, hF⟩, h2, StX.heap H (fun k hk' _ => hkk k hk') fun j o ho => ?_⟩
    · intro b' off' s' he
      rw [hp] at he
      cases he
    · exact List.eq_nil_of_length_eq_zero (by rw [hvs, hn0]; omega)
    · have h1 := hs j o ho
      have := lt_of_get h1
      show h'[j]? = some o
      rw [hkk j this]; exact h1
  · have e1' : t.1 = some ⟨b, off, none⟩ := by rw [e1, hp]
    obtain ⟨arr', a1, a2, a3⟩ := hb b off e1' arr hb0
    have hkk : ∀ k, k < h.size → k ≠ b → h'[k]? = h[k]? := fun k hk' hkb => hk k hk' fun b' off' he => by rw [e1'] at he; cases he; exact hkb
    have hbF : F b := (hF b).2 (by rw [hp]; simp [blk])
    refine ⟨F, ⟨p, n, c, vs', by rw [e1, e2, e3], by rw [hm]; exact hn, hc, ?_, .inr ⟨b, off, arr', hp, a1, hvs, g2, by rw [a2]; exact g3, a3⟩, hall, hF⟩, h2,
      StX.heap H (fun k hk' hX => hkk k hk' fun he => hX (.inr (by rw [he]; exact hbF))) fun j o ho => ?_⟩
    · intro b' off' s' he
      rw [hp] at he
      cases he
      obtain ⟨q1, q2⟩ := hfu _ _ _ hp
      exact ⟨q1, fun arr'' ty' f' harr => by rw [a1] at harr; cases harr; rw [a2]; exact q2 _ _ _ hb0⟩
    · have h1 := hs j o ho
      have hlt := lt_of_get h1
      have hjb : j ≠ b := fun he => by
        have := (h2 b hbF).1
        rw [he, this] at ho
        cases ho
      show h'[j]? = some o
      rw [hkk j hlt hjb]; exact h1
/-- A row of one's own, where its cells are what some things are written as. -/
theorem St.rowHolds {α β : Type} [Inhabited β] {φ : Snap} {w : World} {Γ : List Chk} {ty : TypeId} {r : Ro α} {t : Slc} {l : List α} (H : St φ (⟨Rep.row ty r, [.slice t.1 t.2.1 t.2.2], l⟩ :: Γ) w.heap)
    (hsz : r.sz = 1) (enc : β → Value) (hbs : ∀ vs, r.All φ vs l → ∃ bs : List β, vs = bs.map enc) :
    (l = [] ∧ t.2.1 = 0) ∨ ∃ (b off : Nat) (bs : List β), t.1 = some ⟨b, off, none⟩ ∧ r.All φ (bs.map enc) l ∧ t.2.1 = bs.length ∧ l.length = bs.length ∧ b < w.heap.size ∧ (∀ arr, w.heap[b]? = some (.cells arr ty (0, 0)) → off + l.length ≤ arr.size) ∧ Sort.Holds enc w b off bs.toArray := by
  obtain ⟨F, ⟨p, n, c, vs, e, hn, hc, hfu, ho, hall, hF⟩, h2, H⟩ := H
  have hn : l.length = n := hn
  simp only [List.cons.injEq, Value.slice.injEq, and_true] at e
  obtain ⟨e1, e2, e3⟩ := e
  rcases ho with ⟨hp, hn0, hc0, hv0⟩ | ⟨b, off, arr, hp, hb0, g1, g2, g3, g4⟩
  · exact .inl ⟨List.eq_nil_of_length_eq_zero (by omega), by omega⟩
  · right
    obtain ⟨bs, rfl⟩ := hbs vs hall
    have hlen : bs.length = n := by
      rw [List.length_map, hsz] at g1
      omega
    refine ⟨b, off, bs, by rw [e1, hp], hall, by omega, by omega, lt_of_get hb0, fun arr' ha => ?_, fun j hj => ?_⟩
    · rw [hb0] at ha
      cases ha
      rw [hsz] at g3
      omega
    have hj' : j < bs.length := by simpa using hj
    have hc := g4 j (enc bs[j]) (by rw [List.getElem?_map, List.getElem?_eq_getElem hj']; rfl)
    refine ⟨?_, ?_⟩
    · unfold World.cell?
      dsimp only
      rw [hb0]
      dsimp only
      rw [getElem!_pos _ j hj]
      simpa using hc
    · unfold World.frozen?
      dsimp only
      rw [hb0]
      simp
/-- Behind a sort. -/
theorem St.rowSorted {α β : Type} [Inhabited β] {φ : Snap} {w : World} {Γ : List Chk} {ty : TypeId} {r : Ro α} {t : Slc} {l m : List α} (H : St φ (⟨Rep.row ty r, [.slice t.1 t.2.1 t.2.2], l⟩ :: Γ) w.heap)
    {b off : Nat} (ht : t.1 = some ⟨b, off, none⟩) (enc : β → Value) (ms : List β) (hall : r.All φ (ms.map enc) m) (hm : m.length = l.length) (hms : ms.length = l.length) (hfit : ∀ arr, w.heap[b]? = some (.cells arr ty (0, 0)) → off + l.length ≤ arr.size) (k : Nat) (os : Array Obj) :
    St φ (⟨Rep.row ty r, [.slice t.1 t.2.1 t.2.2], m⟩ :: Γ) (grow (putRow enc (Sort.ahead w k) b off ms.toArray) os).heap := by
  have hheap : (grow (putRow enc (Sort.ahead w k) b off ms.toArray) os).heap = w.heap.modify b (onCells (putCells enc off ms.toArray)) ++ os := rfl
  rw [hheap]
  refine H.rowPut hall hm (fun b' off' he arr harr => ?_) fun j hj hne => ?_
  · rw [ht] at he
    cases he
    have hlt := lt_of_get harr
    refine ⟨putCells enc off ms.toArray arr, ?_, by simp [putCells], fun i v hv => ?_⟩
    · rw [Array.getElem?_append_left (by simpa using hlt), Array.getElem?_modify, if_pos rfl, harr]
      rfl
    · rw [List.getElem?_map, Option.map_eq_some_iff] at hv
      obtain ⟨x, hx, rfl⟩ := hv
      have hi : i < ms.length := by
        rcases Nat.lt_or_ge i ms.length with g | g
        · exact g
        · rw [List.getElem?_eq_none g] at hx; cases hx
      have hf := hfit arr harr
      unfold putCells
      rw [Array.getElem?_mapIdx, Array.getElem?_eq_getElem (by omega)]
      have hc : off ≤ off + i ∧ off + i < off + ms.toArray.size := by simp; exact hi
      simp only [Option.map_some]
      rw [if_pos hc, Nat.add_sub_cancel_left, getElem!_pos _ i (by simpa using hi)]
      rw [List.getElem?_eq_getElem hi] at hx
      cases hx
      simp
  · rw [Array.getElem?_append_left (by simpa using hj), Array.getElem?_modify, if_neg fun e => hne b off ht e.symm]
end Go.Eng

namespace Go.Proofs.YtbpbfoemghcfaaaDoor
open Go Go.Eng
set_option linter.unusedVariables false
set_option maxRecDepth 100000

/-- tronage/tronagelaw12.DigraphSolves -/
noncomputable def tronagelaw12_DigraphSolves_T (edges_0_p : Option Addr) (edges_0_n edges_0_c : Nat) (base_1_p : Option Addr) (base_1_n base_1_c : Nat) (wide_2 : Int) : T :=
  T.call 9 [] (.one (.atom .bool)) fun (t1 : Bool) =>
  T.call 10 [(.slice edges_0_p edges_0_n edges_0_c), (.slice base_1_p base_1_n base_1_c)] (.one (.atom .bool)) fun (t2 : Bool) =>
  T.join [(.atom .bool)]
  (cond (!t2)
  (T.out [(.bool true)])
  (cond (decide (wide_2 < (0 : Int)))
  (T.out [(.bool true)])
  (T.out [(.bool (decide (wide_2 > (100 : Int))))]))) fun (z3 : Bool × Unit) =>
  cond z3.1
  (T.ret (.bool t1))
  (T.call 11 [(.slice edges_0_p edges_0_n edges_0_c), (.slice base_1_p base_1_n base_1_c), (.int .i64 wide_2)] (.tuple [(.atom .slice), (.atom .bool)]) fun (t4 : (Option Addr × Nat × Nat) × Bool × Unit) =>
  cond (!t4.2.1)
  (T.ret (.bool false))
  (T.block 0 [(.atom (.int .i64)), (.atom .bool)]
  (T.loop [(.atom (.int .i64)), (.atom .bool)] [(.int .i64 (0 : Int)), (.bool false)] fun (z6 : Int × Bool × Unit) =>
  cond (decide (z6.1 < ((t4.1.2.1 : Nat) : Int)))
  (deref t4.1.1 fun a7 =>
  chk (0 ≤ z6.1 ∧ z6.1 < (t4.1.2.1 : Nat)) <|
  T.load .slice (a7.add (Int.toNat z6.1 * 1)) fun (t8 : Option Addr × Nat × Nat) =>
  T.call 13 [(.slice edges_0_p edges_0_n edges_0_c), (.slice base_1_p base_1_n base_1_c), (.int .i64 z6.1), (.int .i64 wide_2)] (.one (.atom .slice)) fun (t9 : Option Addr × Nat × Nat) =>
  T.still (a7.add (Int.toNat z6.1 * 1)) (.slice t8.1 t8.2.1 t8.2.2) <|
  T.call 12 [(.slice t8.1 t8.2.1 t8.2.2), (.slice t9.1 t9.2.1 t9.2.2)] (.one (.atom .bool)) fun (t10 : Bool) =>
  cond (!t10)
  (T.ret (.bool false))
  (T.out [(.int .i64 (IntKind.wrap .i64 (z6.1 + (1 : Int)))), (.bool z6.2.1)]))
  (T.brk 0 [(.int .i64 z6.1), (.bool z6.2.1)])) fun (z5 : Int × Bool × Unit) =>
  T.ret (.bool t1)))
theorem tronagelaw12_DigraphSolves_den (edges_0_p : Option Addr) (edges_0_n edges_0_c : Nat) (base_1_p : Option Addr) (base_1_n base_1_c : Nat) (wide_2 : Int) : denFun Tryd.prog Tryd.f3 [(.slice edges_0_p edges_0_n edges_0_c), (.slice base_1_p base_1_n base_1_c), (.int .i64 wide_2)] = tronagelaw12_DigraphSolves_T edges_0_p edges_0_n edges_0_c base_1_p base_1_n base_1_c wide_2 := by kernel_rfl

/-- tronage/tronagelaw12.DigraphParts -/
noncomputable def tronagelaw12_DigraphParts_T (edges_0_p : Option Addr) (edges_0_n edges_0_c : Nat) : T :=
  T.call 9 [] (.one (.atom .bool)) fun (t1 : Bool) =>
  T.call 10 [(.slice edges_0_p edges_0_n edges_0_c), (.slice none 0 0)] (.one (.atom .bool)) fun (t2 : Bool) =>
  cond (!t2)
  (T.ret (.bool t1))
  (T.call 14 [(.slice edges_0_p edges_0_n edges_0_c)] (.one (.atom .slice)) fun (t3 : Option Addr × Nat × Nat) =>
  T.call 15 [(.slice edges_0_p edges_0_n edges_0_c)] (.one (.atom .slice)) fun (t4 : Option Addr × Nat × Nat) =>
  T.join [(.atom .bool)]
  (cond t1
  (T.call 17 [(.slice edges_0_p edges_0_n edges_0_c)] (.one (.atom .slice)) fun (t6 : Option Addr × Nat × Nat) =>
  T.call 16 [(.slice t3.1 t3.2.1 t3.2.2), (.slice t6.1 t6.2.1 t6.2.2)] (.one (.atom .bool)) fun (t7 : Bool) =>
  cond t7
  (T.call 18 [(.slice edges_0_p edges_0_n edges_0_c)] (.one (.atom .slice)) fun (t8 : Option Addr × Nat × Nat) =>
  T.call 12 [(.slice t4.1 t4.2.1 t4.2.2), (.slice t8.1 t8.2.1 t8.2.2)] (.one (.atom .bool)) fun (t9 : Bool) =>
  T.out [(.bool t9)])
  (T.out [(.bool false)]))
  (T.out [(.bool false)])) fun (z5 : Bool × Unit) =>
  T.ret (.bool z5.1))
theorem tronagelaw12_DigraphParts_den (edges_0_p : Option Addr) (edges_0_n edges_0_c : Nat) : denFun Tryd.prog Tryd.f4 [(.slice edges_0_p edges_0_n edges_0_c)] = tronagelaw12_DigraphParts_T edges_0_p edges_0_n edges_0_c := by kernel_rfl

/-- tronage/tronagelaw12.DigraphCloses -/
noncomputable def tronagelaw12_DigraphCloses_T (edges_0_p : Option Addr) (edges_0_n edges_0_c : Nat) (base_1_p : Option Addr) (base_1_n base_1_c : Nat) : T :=
  T.call 9 [] (.one (.atom .bool)) fun (t1 : Bool) =>
  T.call 10 [(.slice edges_0_p edges_0_n edges_0_c), (.slice base_1_p base_1_n base_1_c)] (.one (.atom .bool)) fun (t2 : Bool) =>
  cond (!t2)
  (T.ret (.bool t1))
  (T.call 11 [(.slice edges_0_p edges_0_n edges_0_c), (.slice base_1_p base_1_n base_1_c), (.int .i64 (50 : Int))] (.tuple [(.atom .slice), (.atom .bool)]) fun (t3 : (Option Addr × Nat × Nat) × Bool × Unit) =>
  cond (!t3.2.1)
  (T.ret (.bool false))
  (T.block 0 [(.atom (.int .i64)), (.atom .bool)]
  (T.loop [(.atom (.int .i64)), (.atom .bool)] [(.int .i64 (0 : Int)), (.bool false)] fun (z5 : Int × Bool × Unit) =>
  cond (decide (z5.1 < ((t3.1.2.1 : Nat) : Int)))
  (T.block 2 [(.atom (.int .i64)), (.atom .bool)]
  (T.loop [(.atom (.int .i64)), (.atom .bool)] [(.int .i64 (0 : Int)), (.bool z5.2.1)] fun (z7 : Int × Bool × Unit) =>
  deref base_1_p fun a8 =>
  chk (0 ≤ z5.1 ∧ z5.1 < (base_1_n : Nat)) <|
  T.load .slice (a8.add (Int.toNat z5.1 * 1)) fun (t9 : Option Addr × Nat × Nat) =>
  cond (decide (z7.1 < ((t9.2.1 : Nat) : Int)))
  (T.join [(.atom .bool)]
  (deref base_1_p fun a11 =>
  chk (0 ≤ z5.1 ∧ z5.1 < (base_1_n : Nat)) <|
  T.load .slice (a11.add (Int.toNat z5.1 * 1)) fun (t12 : Option Addr × Nat × Nat) =>
  deref t12.1 fun a13 =>
  chk (0 ≤ z7.1 ∧ z7.1 < (t12.2.1 : Nat)) <|
  T.load (.int .i64) (a13.add (Int.toNat z7.1 * 1)) fun (t14 : Int) =>
  cond (decide (t14 ≥ (0 : Int)))
  (deref base_1_p fun a15 =>
  chk (0 ≤ z5.1 ∧ z5.1 < (base_1_n : Nat)) <|
  T.load .slice (a15.add (Int.toNat z5.1 * 1)) fun (t16 : Option Addr × Nat × Nat) =>
  deref t16.1 fun a17 =>
  chk (0 ≤ z7.1 ∧ z7.1 < (t16.2.1 : Nat)) <|
  T.load (.int .i64) (a17.add (Int.toNat z7.1 * 1)) fun (t18 : Int) =>
  cond (decide (t18 < (50 : Int)))
  (deref t3.1.1 fun a19 =>
  chk (0 ≤ z5.1 ∧ z5.1 < (t3.1.2.1 : Nat)) <|
  T.load .slice (a19.add (Int.toNat z5.1 * 1)) fun (t20 : Option Addr × Nat × Nat) =>
  deref base_1_p fun a21 =>
  chk (0 ≤ z5.1 ∧ z5.1 < (base_1_n : Nat)) <|
  T.load .slice (a21.add (Int.toNat z5.1 * 1)) fun (t22 : Option Addr × Nat × Nat) =>
  deref t22.1 fun a23 =>
  chk (0 ≤ z7.1 ∧ z7.1 < (t22.2.1 : Nat)) <|
  T.load (.int .i64) (a23.add (Int.toNat z7.1 * 1)) fun (t24 : Int) =>
  T.call 19 [(.slice t20.1 t20.2.1 t20.2.2), (.int .i64 t24)] (.one (.atom .bool)) fun (t25 : Bool) =>
  T.out [(.bool (!t25))])
  (T.out [(.bool false)]))
  (T.out [(.bool false)])) fun (z10 : Bool × Unit) =>
  cond z10.1
  (T.ret (.bool false))
  (T.out [(.int .i64 (IntKind.wrap .i64 (z7.1 + (1 : Int)))), (.bool z7.2.1)]))
  (T.brk 2 [(.int .i64 z7.1), (.bool z7.2.1)])) fun (z6 : Int × Bool × Unit) =>
  T.block 4 [(.atom (.int .i64)), (.atom .bool)]
  (T.loop [(.atom (.int .i64)), (.atom .bool)] [(.int .i64 (0 : Int)), (.bool z6.2.1)] fun (z27 : Int × Bool × Unit) =>
  T.join [(.atom .bool)]
  (cond (decide (z5.1 < ((edges_0_n : Nat) : Int)))
  (deref edges_0_p fun a29 =>
  chk (0 ≤ z5.1 ∧ z5.1 < (edges_0_n : Nat)) <|
  T.load .slice (a29.add (Int.toNat z5.1 * 1)) fun (t30 : Option Addr × Nat × Nat) =>
  T.out [(.bool (decide (z27.1 < ((t30.2.1 : Nat) : Int))))])
  (T.out [(.bool false)])) fun (z28 : Bool × Unit) =>
  cond z28.1
  (deref edges_0_p fun a31 =>
  chk (0 ≤ z5.1 ∧ z5.1 < (edges_0_n : Nat)) <|
  T.load .slice (a31.add (Int.toNat z5.1 * 1)) fun (t32 : Option Addr × Nat × Nat) =>
  deref t32.1 fun a33 =>
  chk (0 ≤ z27.1 ∧ z27.1 < (t32.2.1 : Nat)) <|
  T.load (.int .i64) (a33.add (Int.toNat z27.1 * 1)) fun (t34 : Int) =>
  T.join [(.atom .bool)]
  (cond (decide (t34 ≥ (0 : Int)))
  (cond (decide (t34 < ((t3.1.2.1 : Nat) : Int)))
  (deref t3.1.1 fun a36 =>
  chk (0 ≤ t34 ∧ t34 < (t3.1.2.1 : Nat)) <|
  T.load .slice (a36.add (Int.toNat t34 * 1)) fun (t37 : Option Addr × Nat × Nat) =>
  deref t3.1.1 fun a38 =>
  chk (0 ≤ z5.1 ∧ z5.1 < (t3.1.2.1 : Nat)) <|
  T.load .slice (a38.add (Int.toNat z5.1 * 1)) fun (t39 : Option Addr × Nat × Nat) =>
  T.call 20 [(.slice t37.1 t37.2.1 t37.2.2), (.slice t39.1 t39.2.1 t39.2.2)] (.one (.atom .bool)) fun (t40 : Bool) =>
  T.out [(.bool (!t40))])
  (T.out [(.bool false)]))
  (T.out [(.bool false)])) fun (z35 : Bool × Unit) =>
  cond z35.1
  (T.ret (.bool false))
  (T.out [(.int .i64 (IntKind.wrap .i64 (z27.1 + (1 : Int)))), (.bool z27.2.1)]))
  (T.brk 4 [(.int .i64 z27.1), (.bool z27.2.1)])) fun (z26 : Int × Bool × Unit) =>
  T.out [(.int .i64 (IntKind.wrap .i64 (z5.1 + (1 : Int)))), (.bool z26.2.1)])
  (T.brk 0 [(.int .i64 z5.1), (.bool z5.2.1)])) fun (z4 : Int × Bool × Unit) =>
  T.call 11 [(.slice edges_0_p edges_0_n edges_0_c), (.slice t3.1.1 t3.1.2.1 t3.1.2.2), (.int .i64 (50 : Int))] (.tuple [(.atom .slice), (.atom .bool)]) fun (t41 : (Option Addr × Nat × Nat) × Bool × Unit) =>
  T.join [(.atom .bool)]
  (cond t1
  (cond t41.2.1
  (T.call 16 [(.slice t3.1.1 t3.1.2.1 t3.1.2.2), (.slice t41.1.1 t41.1.2.1 t41.1.2.2)] (.one (.atom .bool)) fun (t43 : Bool) =>
  T.out [(.bool t43)])
  (T.out [(.bool false)]))
  (T.out [(.bool false)])) fun (z42 : Bool × Unit) =>
  T.ret (.bool z42.1)))
theorem tronagelaw12_DigraphCloses_den (edges_0_p : Option Addr) (edges_0_n edges_0_c : Nat) (base_1_p : Option Addr) (base_1_n base_1_c : Nat) : denFun Tryd.prog Tryd.f5 [(.slice edges_0_p edges_0_n edges_0_c), (.slice base_1_p base_1_n base_1_c)] = tronagelaw12_DigraphCloses_T edges_0_p edges_0_n edges_0_c base_1_p base_1_n base_1_c := by kernel_rfl

/-- tronage/tronagelaw12.DigraphLeast -/
noncomputable def tronagelaw12_DigraphLeast_T (edges_0_p : Option Addr) (edges_0_n edges_0_c : Nat) (base_1_p : Option Addr) (base_1_n base_1_c : Nat) (x_2 : Int) : T :=
  T.call 9 [] (.one (.atom .bool)) fun (t1 : Bool) =>
  T.call 10 [(.slice edges_0_p edges_0_n edges_0_c), (.slice base_1_p base_1_n base_1_c)] (.one (.atom .bool)) fun (t2 : Bool) =>
  cond (!t2)
  (T.ret (.bool t1))
  (T.block 0 [(.atom (.int .i64)), (.atom .slice)]
  (T.loop [(.atom (.int .i64)), (.atom .slice)] [(.int .i64 (0 : Int)), (.slice none 0 0)] fun (z4 : Int × (Option Addr × Nat × Nat) × Unit) =>
  cond (decide (z4.1 < ((base_1_n : Nat) : Int)))
  (T.block 2 [(.atom (.int .i64)), (.atom .slice)]
  (T.loop [(.atom (.int .i64)), (.atom .slice)] [(.int .i64 (0 : Int)), (.slice none 0 0)] fun (z6 : Int × (Option Addr × Nat × Nat) × Unit) =>
  deref base_1_p fun a7 =>
  chk (0 ≤ z4.1 ∧ z4.1 < (base_1_n : Nat)) <|
  T.load .slice (a7.add (Int.toNat z4.1 * 1)) fun (t8 : Option Addr × Nat × Nat) =>
  cond (decide (z6.1 < ((t8.2.1 : Nat) : Int)))
  (deref base_1_p fun a9 =>
  chk (0 ≤ z4.1 ∧ z4.1 < (base_1_n : Nat)) <|
  T.load .slice (a9.add (Int.toNat z4.1 * 1)) fun (t10 : Option Addr × Nat × Nat) =>
  deref t10.1 fun a11 =>
  chk (0 ≤ z6.1 ∧ z6.1 < (t10.2.1 : Nat)) <|
  T.load (.int .i64) (a11.add (Int.toNat z6.1 * 1)) fun (t12 : Int) =>
  T.join [(.atom .slice)]
  (cond (t12 != x_2)
  (deref base_1_p fun a14 =>
  chk (0 ≤ z4.1 ∧ z4.1 < (base_1_n : Nat)) <|
  T.load .slice (a14.add (Int.toNat z4.1 * 1)) fun (t15 : Option Addr × Nat × Nat) =>
  deref t15.1 fun a16 =>
  chk (0 ≤ z6.1 ∧ z6.1 < (t15.2.1 : Nat)) <|
  T.load (.int .i64) (a16.add (Int.toNat z6.1 * 1)) fun (t17 : Int) =>
  T.new (.cells #[(.int .i64 t17)] 3 (0, 0)) fun r18 =>
  T.sem (Builtin.append_ #[28, 28] 28 #[(.slice z6.2.1.1 z6.2.1.2.1 z6.2.1.2.2), (.slice (some ⟨r18, 0, none⟩) 1 1)]) (.one (.atom .slice)) fun (t19 : Option Addr × Nat × Nat) =>
  T.out [(.slice t19.1 t19.2.1 t19.2.2)])
  (T.out [(.slice z6.2.1.1 z6.2.1.2.1 z6.2.1.2.2)])) fun (z13 : (Option Addr × Nat × Nat) × Unit) =>
  T.out [(.int .i64 (IntKind.wrap .i64 (z6.1 + (1 : Int)))), (.slice z13.1.1 z13.1.2.1 z13.1.2.2)])
  (T.brk 2 [(.int .i64 z6.1), (.slice z6.2.1.1 z6.2.1.2.1 z6.2.1.2.2)])) fun (z5 : Int × (Option Addr × Nat × Nat) × Unit) =>
  T.new (.cells #[(.slice z5.2.1.1 z5.2.1.2.1 z5.2.1.2.2)] 28 (0, 0)) fun r20 =>
  T.sem (Builtin.append_ #[22, 22] 22 #[(.slice z4.2.1.1 z4.2.1.2.1 z4.2.1.2.2), (.slice (some ⟨r20, 0, none⟩) 1 1)]) (.one (.atom .slice)) fun (t21 : Option Addr × Nat × Nat) =>
  T.out [(.int .i64 (IntKind.wrap .i64 (z4.1 + (1 : Int)))), (.slice t21.1 t21.2.1 t21.2.2)])
  (T.brk 0 [(.int .i64 z4.1), (.slice z4.2.1.1 z4.2.1.2.1 z4.2.1.2.2)])) fun (z3 : Int × (Option Addr × Nat × Nat) × Unit) =>
  T.call 11 [(.slice edges_0_p edges_0_n edges_0_c), (.slice base_1_p base_1_n base_1_c), (.int .i64 (50 : Int))] (.tuple [(.atom .slice), (.atom .bool)]) fun (t22 : (Option Addr × Nat × Nat) × Bool × Unit) =>
  T.call 11 [(.slice edges_0_p edges_0_n edges_0_c), (.slice z3.2.1.1 z3.2.1.2.1 z3.2.1.2.2), (.int .i64 (50 : Int))] (.tuple [(.atom .slice), (.atom .bool)]) fun (t23 : (Option Addr × Nat × Nat) × Bool × Unit) =>
  T.join [(.atom .bool)]
  (cond (!t22.2.1)
  (T.out [(.bool true)])
  (T.out [(.bool (!t23.2.1))])) fun (z24 : Bool × Unit) =>
  cond z24.1
  (T.ret (.bool false))
  (T.block 4 [(.atom (.int .i64)), (.atom .bool)]
  (T.loop [(.atom (.int .i64)), (.atom .bool)] [(.int .i64 (0 : Int)), (.bool false)] fun (z26 : Int × Bool × Unit) =>
  cond (decide (z26.1 < ((t22.1.2.1 : Nat) : Int)))
  (T.block 6 [(.atom (.int .i64)), (.atom .slice)]
  (T.loop [(.atom (.int .i64)), (.atom .slice)] [(.int .i64 (0 : Int)), (.slice none 0 0)] fun (z28 : Int × (Option Addr × Nat × Nat) × Unit) =>
  deref t22.1.1 fun a29 =>
  chk (0 ≤ z26.1 ∧ z26.1 < (t22.1.2.1 : Nat)) <|
  T.load .slice (a29.add (Int.toNat z26.1 * 1)) fun (t30 : Option Addr × Nat × Nat) =>
  cond (decide (z28.1 < ((t30.2.1 : Nat) : Int)))
  (deref t22.1.1 fun a31 =>
  chk (0 ≤ z26.1 ∧ z26.1 < (t22.1.2.1 : Nat)) <|
  T.load .slice (a31.add (Int.toNat z26.1 * 1)) fun (t32 : Option Addr × Nat × Nat) =>
  deref t32.1 fun a33 =>
  chk (0 ≤ z28.1 ∧ z28.1 < (t32.2.1 : Nat)) <|
  T.load (.int .i64) (a33.add (Int.toNat z28.1 * 1)) fun (t34 : Int) =>
  T.join [(.atom .slice)]
  (cond (t34 != x_2)
  (deref t22.1.1 fun a36 =>
  chk (0 ≤ z26.1 ∧ z26.1 < (t22.1.2.1 : Nat)) <|
  T.load .slice (a36.add (Int.toNat z26.1 * 1)) fun (t37 : Option Addr × Nat × Nat) =>
  deref t37.1 fun a38 =>
  chk (0 ≤ z28.1 ∧ z28.1 < (t37.2.1 : Nat)) <|
  T.load (.int .i64) (a38.add (Int.toNat z28.1 * 1)) fun (t39 : Int) =>
  T.new (.cells #[(.int .i64 t39)] 3 (0, 0)) fun r40 =>
  T.sem (Builtin.append_ #[28, 28] 28 #[(.slice z28.2.1.1 z28.2.1.2.1 z28.2.1.2.2), (.slice (some ⟨r40, 0, none⟩) 1 1)]) (.one (.atom .slice)) fun (t41 : Option Addr × Nat × Nat) =>
  T.out [(.slice t41.1 t41.2.1 t41.2.2)])
  (T.out [(.slice z28.2.1.1 z28.2.1.2.1 z28.2.1.2.2)])) fun (z35 : (Option Addr × Nat × Nat) × Unit) =>
  T.out [(.int .i64 (IntKind.wrap .i64 (z28.1 + (1 : Int)))), (.slice z35.1.1 z35.1.2.1 z35.1.2.2)])
  (T.brk 6 [(.int .i64 z28.1), (.slice z28.2.1.1 z28.2.1.2.1 z28.2.1.2.2)])) fun (z27 : Int × (Option Addr × Nat × Nat) × Unit) =>
  deref t23.1.1 fun a42 =>
  chk (0 ≤ z26.1 ∧ z26.1 < (t23.1.2.1 : Nat)) <|
  T.load .slice (a42.add (Int.toNat z26.1 * 1)) fun (t43 : Option Addr × Nat × Nat) =>
  T.call 12 [(.slice t43.1 t43.2.1 t43.2.2), (.slice z27.2.1.1 z27.2.1.2.1 z27.2.1.2.2)] (.one (.atom .bool)) fun (t44 : Bool) =>
  cond (!t44)
  (T.ret (.bool false))
  (T.out [(.int .i64 (IntKind.wrap .i64 (z26.1 + (1 : Int)))), (.bool z26.2.1)]))
  (T.brk 4 [(.int .i64 z26.1), (.bool z26.2.1)])) fun (z25 : Int × Bool × Unit) =>
  T.ret (.bool t1)))
theorem tronagelaw12_DigraphLeast_den (edges_0_p : Option Addr) (edges_0_n edges_0_c : Nat) (base_1_p : Option Addr) (base_1_n base_1_c : Nat) (x_2 : Int) : denFun Tryd.prog Tryd.f6 [(.slice edges_0_p edges_0_n edges_0_c), (.slice base_1_p base_1_n base_1_c), (.int .i64 x_2)] = tronagelaw12_DigraphLeast_T edges_0_p edges_0_n edges_0_c base_1_p base_1_n base_1_c x_2 := by kernel_rfl

/-- tronage/tronagelaw12.DigraphShared -/
noncomputable def tronagelaw12_DigraphShared_T (edges_0_p : Option Addr) (edges_0_n edges_0_c : Nat) (base_1_p : Option Addr) (base_1_n base_1_c : Nat) : T :=
  T.call 9 [] (.one (.atom .bool)) fun (t1 : Bool) =>
  T.call 10 [(.slice edges_0_p edges_0_n edges_0_c), (.slice base_1_p base_1_n base_1_c)] (.one (.atom .bool)) fun (t2 : Bool) =>
  T.join [(.atom .bool)]
  (cond (!t2)
  (T.out [(.bool true)])
  (T.out [(.bool (((base_1_n : Nat) : Int) != ((edges_0_n : Nat) : Int)))])) fun (z3 : Bool × Unit) =>
  cond z3.1
  (T.ret (.bool t1))
  (T.call 11 [(.slice edges_0_p edges_0_n edges_0_c), (.slice base_1_p base_1_n base_1_c), (.int .i64 (50 : Int))] (.tuple [(.atom .slice), (.atom .bool)]) fun (t4 : (Option Addr × Nat × Nat) × Bool × Unit) =>
  T.call 14 [(.slice edges_0_p edges_0_n edges_0_c)] (.one (.atom .slice)) fun (t5 : Option Addr × Nat × Nat) =>
  T.call 15 [(.slice edges_0_p edges_0_n edges_0_c)] (.one (.atom .slice)) fun (t6 : Option Addr × Nat × Nat) =>
  cond (!t4.2.1)
  (T.ret (.bool false))
  (T.sem (Instr.makeSlice 28 (.int .i64 ((edges_0_n : Nat) : Int)) (.int .i64 ((edges_0_n : Nat) : Int))) (.one (.atom .slice)) fun (t7 : Option Addr × Nat × Nat) =>
  T.block 0 [(.atom (.int .i64)), (.atom .bool)]
  (T.loop [(.atom (.int .i64)), (.atom .bool)] [(.int .i64 (0 : Int)), (.bool false)] fun (z9 : Int × Bool × Unit) =>
  cond (decide (z9.1 < ((t5.2.1 : Nat) : Int)))
  (T.block 2 [(.atom (.int .i64)), (.atom .bool)]
  (T.loop [(.atom (.int .i64)), (.atom .bool)] [(.int .i64 (0 : Int)), (.bool z9.2.1)] fun (z11 : Int × Bool × Unit) =>
  deref t5.1 fun a12 =>
  chk (0 ≤ z9.1 ∧ z9.1 < (t5.2.1 : Nat)) <|
  T.load .slice (a12.add (Int.toNat z9.1 * 1)) fun (t13 : Option Addr × Nat × Nat) =>
  cond (decide (z11.1 < ((t13.2.1 : Nat) : Int)))
  (deref t5.1 fun a14 =>
  chk (0 ≤ z9.1 ∧ z9.1 < (t5.2.1 : Nat)) <|
  T.load .slice (a14.add (Int.toNat z9.1 * 1)) fun (t15 : Option Addr × Nat × Nat) =>
  deref t15.1 fun a16 =>
  chk (0 ≤ z11.1 ∧ z11.1 < (t15.2.1 : Nat)) <|
  T.load (.int .i64) (a16.add (Int.toNat z11.1 * 1)) fun (t17 : Int) =>
  T.join [(.atom .bool)]
  (cond (decide (t17 < (0 : Int)))
  (T.out [(.bool true)])
  (cond (decide (t17 ≥ ((edges_0_n : Nat) : Int)))
  (T.out [(.bool true)])
  (deref t4.1.1 fun a19 =>
  chk (0 ≤ t17 ∧ t17 < (t4.1.2.1 : Nat)) <|
  T.load .slice (a19.add (Int.toNat t17 * 1)) fun (t20 : Option Addr × Nat × Nat) =>
  deref t5.1 fun a21 =>
  chk (0 ≤ z9.1 ∧ z9.1 < (t5.2.1 : Nat)) <|
  T.load .slice (a21.add (Int.toNat z9.1 * 1)) fun (t22 : Option Addr × Nat × Nat) =>
  deref t22.1 fun a23 =>
  chk (0 ≤ (0 : Int) ∧ (0 : Int) < (t22.2.1 : Nat)) <|
  T.load (.int .i64) (a23.add (Int.toNat (0 : Int) * 1)) fun (t24 : Int) =>
  deref t4.1.1 fun a25 =>
  chk (0 ≤ t24 ∧ t24 < (t4.1.2.1 : Nat)) <|
  T.load .slice (a25.add (Int.toNat t24 * 1)) fun (t26 : Option Addr × Nat × Nat) =>
  T.call 12 [(.slice t20.1 t20.2.1 t20.2.2), (.slice t26.1 t26.2.1 t26.2.2)] (.one (.atom .bool)) fun (t27 : Bool) =>
  cond (!t27)
  (T.out [(.bool true)])
  (deref t5.1 fun a28 =>
  chk (0 ≤ z9.1 ∧ z9.1 < (t5.2.1 : Nat)) <|
  T.load .slice (a28.add (Int.toNat z9.1 * 1)) fun (t29 : Option Addr × Nat × Nat) =>
  cond (decide (((t29.2.1 : Nat) : Int) > (1 : Int)))
  (T.call 19 [(.slice t6.1 t6.2.1 t6.2.2), (.int .i64 t17)] (.one (.atom .bool)) fun (t30 : Bool) =>
  T.out [(.bool (!t30))])
  (T.out [(.bool false)]))))) fun (z18 : Bool × Unit) =>
  cond z18.1
  (T.ret (.bool false))
  (deref t7.1 fun a31 =>
  chk (0 ≤ t17 ∧ t17 < (t7.2.1 : Nat)) <|
  T.load (.int .i64) (a31.add (Int.toNat t17 * 1)) fun (t32 : Int) =>
  deref t7.1 fun a33 =>
  chk (0 ≤ t17 ∧ t17 < (t7.2.1 : Nat)) <|
  T.store (a33.add (Int.toNat t17 * 1)) (.int .i64 (IntKind.wrap .i64 (t32 + (1 : Int)))) <|
  T.out [(.int .i64 (IntKind.wrap .i64 (z11.1 + (1 : Int)))), (.bool z11.2.1)]))
  (T.brk 2 [(.int .i64 z11.1), (.bool z11.2.1)])) fun (z10 : Int × Bool × Unit) =>
  T.out [(.int .i64 (IntKind.wrap .i64 (z9.1 + (1 : Int)))), (.bool z10.2.1)])
  (T.brk 0 [(.int .i64 z9.1), (.bool z9.2.1)])) fun (z8 : Int × Bool × Unit) =>
  T.block 4 [(.atom (.int .i64)), (.atom .bool)]
  (T.loop [(.atom (.int .i64)), (.atom .bool)] [(.int .i64 (0 : Int)), (.bool z8.2.1)] fun (z35 : Int × Bool × Unit) =>
  cond (decide (z35.1 < ((t7.2.1 : Nat) : Int)))
  (deref t7.1 fun a36 =>
  chk (0 ≤ z35.1 ∧ z35.1 < (t7.2.1 : Nat)) <|
  T.load (.int .i64) (a36.add (Int.toNat z35.1 * 1)) fun (t37 : Int) =>
  cond (t37 != (1 : Int))
  (T.ret (.bool false))
  (T.out [(.int .i64 (IntKind.wrap .i64 (z35.1 + (1 : Int)))), (.bool z35.2.1)]))
  (T.brk 4 [(.int .i64 z35.1), (.bool z35.2.1)])) fun (z34 : Int × Bool × Unit) =>
  T.ret (.bool t1)))
theorem tronagelaw12_DigraphShared_den (edges_0_p : Option Addr) (edges_0_n edges_0_c : Nat) (base_1_p : Option Addr) (base_1_n base_1_c : Nat) : denFun Tryd.prog Tryd.f7 [(.slice edges_0_p edges_0_n edges_0_c), (.slice base_1_p base_1_n base_1_c)] = tronagelaw12_DigraphShared_T edges_0_p edges_0_n edges_0_c base_1_p base_1_n base_1_c := by kernel_rfl

/-- tronage/tronagelaw12.DigraphOwn -/
noncomputable def tronagelaw12_DigraphOwn_T (edges_0_p : Option Addr) (edges_0_n edges_0_c : Nat) (base_1_p : Option Addr) (base_1_n base_1_c : Nat) : T :=
  T.call 9 [] (.one (.atom .bool)) fun (t1 : Bool) =>
  T.call 10 [(.slice edges_0_p edges_0_n edges_0_c), (.slice base_1_p base_1_n base_1_c)] (.one (.atom .bool)) fun (t2 : Bool) =>
  cond (!t2)
  (T.ret (.bool t1))
  (T.call 21 [(.slice base_1_p base_1_n base_1_c), (.int .i64 (50 : Int))] (.one (.atom .slice)) fun (t3 : Option Addr × Nat × Nat) =>
  T.block 0 [(.atom (.int .i64)), (.atom .slice), (.atom .bool)]
  (T.loop [(.atom (.int .i64)), (.atom .slice), (.atom .bool)] [(.int .i64 (0 : Int)), (.slice none 0 0), (.bool false)] fun (z5 : Int × (Option Addr × Nat × Nat) × Bool × Unit) =>
  cond (decide (z5.1 < ((t3.2.1 : Nat) : Int)))
  (deref t3.1 fun a6 =>
  chk (0 ≤ z5.1 ∧ z5.1 < (t3.2.1 : Nat)) <|
  T.load .pointer (a6.add (Int.toNat z5.1 * 1)) fun (t7 : Option Addr) =>
  cond (Option.isNone t7)
  (T.ret (.bool false))
  (deref t3.1 fun a8 =>
  chk (0 ≤ z5.1 ∧ z5.1 < (t3.2.1 : Nat)) <|
  T.load .pointer (a8.add (Int.toNat z5.1 * 1)) fun (t9 : Option Addr) =>
  T.call 22 [(.pointer t9)] (.one (.atom .slice)) fun (t10 : Option Addr × Nat × Nat) =>
  T.new (.cells #[(.slice t10.1 t10.2.1 t10.2.2)] 28 (0, 0)) fun r11 =>
  T.sem (Builtin.append_ #[22, 22] 22 #[(.slice z5.2.1.1 z5.2.1.2.1 z5.2.1.2.2), (.slice (some ⟨r11, 0, none⟩) 1 1)]) (.one (.atom .slice)) fun (t12 : Option Addr × Nat × Nat) =>
  T.out [(.int .i64 (IntKind.wrap .i64 (z5.1 + (1 : Int)))), (.slice t12.1 t12.2.1 t12.2.2), (.bool z5.2.2.1)]))
  (T.brk 0 [(.int .i64 z5.1), (.slice z5.2.1.1 z5.2.1.2.1 z5.2.1.2.2), (.bool z5.2.2.1)])) fun (z4 : Int × (Option Addr × Nat × Nat) × Bool × Unit) =>
  T.call 23 [(.slice edges_0_p edges_0_n edges_0_c), (.slice t3.1 t3.2.1 t3.2.2)] (.one (.atom .slice)) fun (t13 : Option Addr × Nat × Nat) =>
  cond (((t13.2.1 : Nat) : Int) != ((t3.2.1 : Nat) : Int))
  (T.ret (.bool false))
  (T.block 2 [(.atom (.int .i64)), (.atom .bool)]
  (T.loop [(.atom (.int .i64)), (.atom .bool)] [(.int .i64 (0 : Int)), (.bool z4.2.2.1)] fun (z15 : Int × Bool × Unit) =>
  cond (decide (z15.1 < ((t13.2.1 : Nat) : Int)))
  (deref t13.1 fun a16 =>
  chk (0 ≤ z15.1 ∧ z15.1 < (t13.2.1 : Nat)) <|
  T.load .pointer (a16.add (Int.toNat z15.1 * 1)) fun (t17 : Option Addr) =>
  cond (Option.isNone t17)
  (T.ret (.bool false))
  (deref t13.1 fun a18 =>
  chk (0 ≤ z15.1 ∧ z15.1 < (t13.2.1 : Nat)) <|
  T.load .pointer (a18.add (Int.toNat z15.1 * 1)) fun (t19 : Option Addr) =>
  T.call 24 [(.pointer t19), (.int .i64 (49 : Int))] (.one (.atom .bool)) fun (t20 : Bool) =>
  deref t13.1 fun a21 =>
  chk (0 ≤ z15.1 ∧ z15.1 < (t13.2.1 : Nat)) <|
  T.load .pointer (a21.add (Int.toNat z15.1 * 1)) fun (t22 : Option Addr) =>
  T.call 25 [(.pointer t22), (.int .i64 (0 : Int))] (.one (.atom .bool)) fun (t23 : Bool) =>
  T.out [(.int .i64 (IntKind.wrap .i64 (z15.1 + (1 : Int)))), (.bool z15.2.1)]))
  (T.brk 2 [(.int .i64 z15.1), (.bool z15.2.1)])) fun (z14 : Int × Bool × Unit) =>
  T.block 4 [(.atom (.int .i64)), (.atom .bool)]
  (T.loop [(.atom (.int .i64)), (.atom .bool)] [(.int .i64 (0 : Int)), (.bool z14.2.1)] fun (z25 : Int × Bool × Unit) =>
  cond (decide (z25.1 < ((t3.2.1 : Nat) : Int)))
  (T.join [(.atom .bool)]
  (deref t3.1 fun a27 =>
  chk (0 ≤ z25.1 ∧ z25.1 < (t3.2.1 : Nat)) <|
  T.load .pointer (a27.add (Int.toNat z25.1 * 1)) fun (t28 : Option Addr) =>
  deref z4.2.1.1 fun a29 =>
  chk (0 ≤ z25.1 ∧ z25.1 < (z4.2.1.2.1 : Nat)) <|
  T.load .slice (a29.add (Int.toNat z25.1 * 1)) fun (t30 : Option Addr × Nat × Nat) =>
  T.call 22 [(.pointer t28)] (.one (.atom .slice)) fun (t31 : Option Addr × Nat × Nat) =>
  T.still (a29.add (Int.toNat z25.1 * 1)) (.slice t30.1 t30.2.1 t30.2.2) <|
  T.call 12 [(.slice t31.1 t31.2.1 t31.2.2), (.slice t30.1 t30.2.1 t30.2.2)] (.one (.atom .bool)) fun (t32 : Bool) =>
  cond (!t32)
  (T.out [(.bool true)])
  (deref t3.1 fun a33 =>
  chk (0 ≤ z25.1 ∧ z25.1 < (t3.2.1 : Nat)) <|
  T.load .pointer (a33.add (Int.toNat z25.1 * 1)) fun (t34 : Option Addr) =>
  T.call 26 [(.pointer t34)] (.one (.atom (.int .i64))) fun (t35 : Int) =>
  T.out [(.bool (t35 != (50 : Int)))])) fun (z26 : Bool × Unit) =>
  cond z26.1
  (T.ret (.bool false))
  (T.out [(.int .i64 (IntKind.wrap .i64 (z25.1 + (1 : Int)))), (.bool z25.2.1)]))
  (T.brk 4 [(.int .i64 z25.1), (.bool z25.2.1)])) fun (z24 : Int × Bool × Unit) =>
  T.ret (.bool t1)))
theorem tronagelaw12_DigraphOwn_den (edges_0_p : Option Addr) (edges_0_n edges_0_c : Nat) (base_1_p : Option Addr) (base_1_n base_1_c : Nat) : denFun Tryd.prog Tryd.f8 [(.slice edges_0_p edges_0_n edges_0_c), (.slice base_1_p base_1_n base_1_c)] = tronagelaw12_DigraphOwn_T edges_0_p edges_0_n edges_0_c base_1_p base_1_n base_1_c := by kernel_rfl

/-- tronage/tronagelaw12.awake -/
noncomputable def tronagelaw12_awake_T  : T :=
  T.new (.cells #[(.int .i64 (1 : Int))] 3 (0, 0)) fun r1 =>
  T.new (.cells #[(.int .i64 (0 : Int)), (.int .i64 (2 : Int))] 3 (0, 0)) fun r2 =>
  T.new (.cells #[] 3 (0, 0)) fun r3 =>
  T.new (.cells #[(.slice (some ⟨r1, 0, none⟩) 1 1), (.slice (some ⟨r2, 0, none⟩) 2 2), (.slice (some ⟨r3, 0, none⟩) 0 0)] 28 (0, 0)) fun r4 =>
  T.new (.cells #[(.int .i64 (5 : Int))] 3 (0, 0)) fun r5 =>
  T.new (.cells #[(.int .i64 (6 : Int))] 3 (0, 0)) fun r6 =>
  T.new (.cells #[(.int .i64 (7 : Int))] 3 (0, 0)) fun r7 =>
  T.new (.cells #[(.slice (some ⟨r5, 0, none⟩) 1 1), (.slice (some ⟨r6, 0, none⟩) 1 1), (.slice (some ⟨r7, 0, none⟩) 1 1)] 28 (0, 0)) fun r8 =>
  T.call 11 [(.slice (some ⟨r4, 0, none⟩) 3 3), (.slice (some ⟨r8, 0, none⟩) 3 3), (.int .i64 (9 : Int))] (.tuple [(.atom .slice), (.atom .bool)]) fun (t9 : (Option Addr × Nat × Nat) × Bool × Unit) =>
  T.join [(.atom .bool)]
  (cond t9.2.1
  (T.new (.cells #[(.int .i64 (5 : Int)), (.int .i64 (6 : Int)), (.int .i64 (7 : Int))] 3 (0, 0)) fun r11 =>
  T.new (.cells #[(.int .i64 (5 : Int)), (.int .i64 (6 : Int)), (.int .i64 (7 : Int))] 3 (0, 0)) fun r12 =>
  T.new (.cells #[(.int .i64 (7 : Int))] 3 (0, 0)) fun r13 =>
  T.new (.cells #[(.slice (some ⟨r11, 0, none⟩) 3 3), (.slice (some ⟨r12, 0, none⟩) 3 3), (.slice (some ⟨r13, 0, none⟩) 1 1)] 28 (0, 0)) fun r14 =>
  T.call 16 [(.slice t9.1.1 t9.1.2.1 t9.1.2.2), (.slice (some ⟨r14, 0, none⟩) 3 3)] (.one (.atom .bool)) fun (t15 : Bool) =>
  cond t15
  (T.call 14 [(.slice (some ⟨r4, 0, none⟩) 3 3)] (.one (.atom .slice)) fun (t16 : Option Addr × Nat × Nat) =>
  T.new (.cells #[(.int .i64 (0 : Int)), (.int .i64 (1 : Int))] 3 (0, 0)) fun r17 =>
  T.new (.cells #[(.int .i64 (2 : Int))] 3 (0, 0)) fun r18 =>
  T.new (.cells #[(.slice (some ⟨r17, 0, none⟩) 2 2), (.slice (some ⟨r18, 0, none⟩) 1 1)] 28 (0, 0)) fun r19 =>
  T.call 16 [(.slice t16.1 t16.2.1 t16.2.2), (.slice (some ⟨r19, 0, none⟩) 2 2)] (.one (.atom .bool)) fun (t20 : Bool) =>
  cond t20
  (T.call 15 [(.slice (some ⟨r4, 0, none⟩) 3 3)] (.one (.atom .slice)) fun (t21 : Option Addr × Nat × Nat) =>
  T.new (.cells #[(.int .i64 (0 : Int)), (.int .i64 (1 : Int))] 3 (0, 0)) fun r22 =>
  T.call 12 [(.slice t21.1 t21.2.1 t21.2.2), (.slice (some ⟨r22, 0, none⟩) 2 2)] (.one (.atom .bool)) fun (t23 : Bool) =>
  T.out [(.bool t23)])
  (T.out [(.bool false)]))
  (T.out [(.bool false)]))
  (T.out [(.bool false)])) fun (z10 : Bool × Unit) =>
  T.ret (.bool z10.1)
theorem tronagelaw12_awake_den  : denFun Tryd.prog Tryd.f9 [] = tronagelaw12_awake_T  := by kernel_rfl

/-- tronage/tronagelaw12.few -/
noncomputable def tronagelaw12_few_T (edges_0_p : Option Addr) (edges_0_n edges_0_c : Nat) (base_1_p : Option Addr) (base_1_n base_1_c : Nat) : T :=
  T.join [(.atom .bool)]
  (cond (decide (((edges_0_n : Nat) : Int) > (25 : Int)))
  (T.out [(.bool true)])
  (T.out [(.bool (decide (((base_1_n : Nat) : Int) > (25 : Int))))])) fun (z1 : Bool × Unit) =>
  cond z1.1
  (T.ret (.bool false))
  (T.block 0 [(.atom (.int .i64)), (.atom .bool)]
  (T.loop [(.atom (.int .i64)), (.atom .bool)] [(.int .i64 (0 : Int)), (.bool false)] fun (z3 : Int × Bool × Unit) =>
  cond (decide (z3.1 < ((edges_0_n : Nat) : Int)))
  (deref edges_0_p fun a4 =>
  chk (0 ≤ z3.1 ∧ z3.1 < (edges_0_n : Nat)) <|
  T.load .slice (a4.add (Int.toNat z3.1 * 1)) fun (t5 : Option Addr × Nat × Nat) =>
  cond (decide (((t5.2.1 : Nat) : Int) > (10 : Int)))
  (T.ret (.bool false))
  (T.out [(.int .i64 (IntKind.wrap .i64 (z3.1 + (1 : Int)))), (.bool z3.2.1)]))
  (T.brk 0 [(.int .i64 z3.1), (.bool z3.2.1)])) fun (z2 : Int × Bool × Unit) =>
  T.block 2 [(.atom (.int .i64)), (.atom .bool)]
  (T.loop [(.atom (.int .i64)), (.atom .bool)] [(.int .i64 (0 : Int)), (.bool z2.2.1)] fun (z7 : Int × Bool × Unit) =>
  cond (decide (z7.1 < ((base_1_n : Nat) : Int)))
  (deref base_1_p fun a8 =>
  chk (0 ≤ z7.1 ∧ z7.1 < (base_1_n : Nat)) <|
  T.load .slice (a8.add (Int.toNat z7.1 * 1)) fun (t9 : Option Addr × Nat × Nat) =>
  cond (decide (((t9.2.1 : Nat) : Int) > (10 : Int)))
  (T.ret (.bool false))
  (T.out [(.int .i64 (IntKind.wrap .i64 (z7.1 + (1 : Int)))), (.bool z7.2.1)]))
  (T.brk 2 [(.int .i64 z7.1), (.bool z7.2.1)])) fun (z6 : Int × Bool × Unit) =>
  T.ret (.bool true))
theorem tronagelaw12_few_den (edges_0_p : Option Addr) (edges_0_n edges_0_c : Nat) (base_1_p : Option Addr) (base_1_n base_1_c : Nat) : denFun Tryd.prog Tryd.f10 [(.slice edges_0_p edges_0_n edges_0_c), (.slice base_1_p base_1_n base_1_c)] = tronagelaw12_few_T edges_0_p edges_0_n edges_0_c base_1_p base_1_n base_1_c := by kernel_rfl

/-- tronage/tronagelaw12.solved -/
noncomputable def tronagelaw12_solved_T (edges_0_p : Option Addr) (edges_0_n edges_0_c : Nat) (base_1_p : Option Addr) (base_1_n base_1_c : Nat) (wide_2 : Int) : T :=
  T.call 21 [(.slice base_1_p base_1_n base_1_c), (.int .i64 wide_2)] (.one (.atom .slice)) fun (t1 : Option Addr × Nat × Nat) =>
  T.call 23 [(.slice edges_0_p edges_0_n edges_0_c), (.slice t1.1 t1.2.1 t1.2.2)] (.one (.atom .slice)) fun (t2 : Option Addr × Nat × Nat) =>
  cond (((t2.2.1 : Nat) : Int) != ((base_1_n : Nat) : Int))
  (T.ret (.tuple #[(.slice none 0 0), (.bool false)]))
  (T.block 0 [(.atom (.int .i64)), (.atom .slice), (.atom .bool), (.atom .slice)]
  (T.loop [(.atom (.int .i64)), (.atom .slice), (.atom .bool), (.atom .slice)] [(.int .i64 (0 : Int)), (.slice none 0 0), (.bool false), (.slice none 0 0)] fun (z4 : Int × (Option Addr × Nat × Nat) × Bool × (Option Addr × Nat × Nat) × Unit) =>
  cond (decide (z4.1 < ((t2.2.1 : Nat) : Int)))
  (deref t2.1 fun a5 =>
  chk (0 ≤ z4.1 ∧ z4.1 < (t2.2.1 : Nat)) <|
  T.load .pointer (a5.add (Int.toNat z4.1 * 1)) fun (t6 : Option Addr) =>
  cond (Option.isNone t6)
  (T.ret (.tuple #[(.slice none 0 0), (.bool false)]))
  (deref t2.1 fun a7 =>
  chk (0 ≤ z4.1 ∧ z4.1 < (t2.2.1 : Nat)) <|
  T.load .pointer (a7.add (Int.toNat z4.1 * 1)) fun (t8 : Option Addr) =>
  T.call 22 [(.pointer t8)] (.one (.atom .slice)) fun (t9 : Option Addr × Nat × Nat) =>
  T.new (.cells #[(.slice t9.1 t9.2.1 t9.2.2)] 28 (0, 0)) fun r10 =>
  T.sem (Builtin.append_ #[22, 22] 22 #[(.slice z4.2.1.1 z4.2.1.2.1 z4.2.1.2.2), (.slice (some ⟨r10, 0, none⟩) 1 1)]) (.one (.atom .slice)) fun (t11 : Option Addr × Nat × Nat) =>
  T.out [(.int .i64 (IntKind.wrap .i64 (z4.1 + (1 : Int)))), (.slice t11.1 t11.2.1 t11.2.2), (.bool z4.2.2.1), (.slice z4.2.2.2.1.1 z4.2.2.2.1.2.1 z4.2.2.2.1.2.2)]))
  (T.brk 0 [(.int .i64 z4.1), (.slice z4.2.1.1 z4.2.1.2.1 z4.2.1.2.2), (.bool z4.2.2.1), (.slice z4.2.2.2.1.1 z4.2.2.2.1.2.1 z4.2.2.2.1.2.2)])) fun (z3 : Int × (Option Addr × Nat × Nat) × Bool × (Option Addr × Nat × Nat) × Unit) =>
  T.ret (.tuple #[(.slice z3.2.1.1 z3.2.1.2.1 z3.2.1.2.2), (.bool true)]))
theorem tronagelaw12_solved_den (edges_0_p : Option Addr) (edges_0_n edges_0_c : Nat) (base_1_p : Option Addr) (base_1_n base_1_c : Nat) (wide_2 : Int) : denFun Tryd.prog Tryd.f11 [(.slice edges_0_p edges_0_n edges_0_c), (.slice base_1_p base_1_n base_1_c), (.int .i64 wide_2)] = tronagelaw12_solved_T edges_0_p edges_0_n edges_0_c base_1_p base_1_n base_1_c wide_2 := by kernel_rfl

/-- tronage/tronageref01.Ints -/
noncomputable def tronageref01_Ints_T (a_0_p : Option Addr) (a_0_n a_0_c : Nat) (b_1_p : Option Addr) (b_1_n b_1_c : Nat) : T :=
  cond (((a_0_n : Nat) : Int) != ((b_1_n : Nat) : Int))
  (T.ret (.bool false))
  (T.block 0 [(.atom (.int .i64)), (.atom .bool)]
  (T.loop [(.atom (.int .i64)), (.atom .bool)] [(.int .i64 (0 : Int)), (.bool false)] fun (z2 : Int × Bool × Unit) =>
  cond (decide (z2.1 < ((a_0_n : Nat) : Int)))
  (deref a_0_p fun a3 =>
  chk (0 ≤ z2.1 ∧ z2.1 < (a_0_n : Nat)) <|
  T.load (.int .i64) (a3.add (Int.toNat z2.1 * 1)) fun (t4 : Int) =>
  deref b_1_p fun a5 =>
  chk (0 ≤ z2.1 ∧ z2.1 < (b_1_n : Nat)) <|
  T.load (.int .i64) (a5.add (Int.toNat z2.1 * 1)) fun (t6 : Int) =>
  cond (t4 != t6)
  (T.ret (.bool false))
  (T.out [(.int .i64 (IntKind.wrap .i64 (z2.1 + (1 : Int)))), (.bool z2.2.1)]))
  (T.brk 0 [(.int .i64 z2.1), (.bool z2.2.1)])) fun (z1 : Int × Bool × Unit) =>
  T.ret (.bool true))
theorem tronageref01_Ints_den (a_0_p : Option Addr) (a_0_n a_0_c : Nat) (b_1_p : Option Addr) (b_1_n b_1_c : Nat) : denFun Tryd.prog Tryd.f12 [(.slice a_0_p a_0_n a_0_c), (.slice b_1_p b_1_n b_1_c)] = tronageref01_Ints_T a_0_p a_0_n a_0_c b_1_p b_1_n b_1_c := by kernel_rfl

/-- tronage/tronageref12.Solve -/
noncomputable def tronageref12_Solve_T (edges_0_p : Option Addr) (edges_0_n edges_0_c : Nat) (base_1_p : Option Addr) (base_1_n base_1_c : Nat) (at_2 : Int) (wide_3 : Int) : T :=
  T.call 27 [(.slice edges_0_p edges_0_n edges_0_c), (.int .i64 ((base_1_n : Nat) : Int)), (.int .i64 at_2)] (.one (.atom .slice)) fun (t1 : Option Addr × Nat × Nat) =>
  T.sem (Instr.makeSlice 42 (.int .i64 (if wide_3 > (0 : Int) then wide_3 else (0 : Int))) (.int .i64 (if wide_3 > (0 : Int) then wide_3 else (0 : Int)))) (.one (.atom .slice)) fun (t2 : Option Addr × Nat × Nat) =>
  T.block 0 [(.atom (.int .i64))]
  (T.loop [(.atom (.int .i64))] [(.int .i64 (0 : Int))] fun (z4 : Int × Unit) =>
  cond (decide (z4.1 < ((base_1_n : Nat) : Int)))
  (T.block 2 [(.atom (.int .i64))]
  (T.loop [(.atom (.int .i64))] [(.int .i64 (0 : Int))] fun (z6 : Int × Unit) =>
  deref base_1_p fun a7 =>
  chk (0 ≤ z4.1 ∧ z4.1 < (base_1_n : Nat)) <|
  T.load .slice (a7.add (Int.toNat z4.1 * 1)) fun (t8 : Option Addr × Nat × Nat) =>
  cond (decide (z6.1 < ((t8.2.1 : Nat) : Int)))
  (T.join [(.atom .bool)]
  (deref t1.1 fun a10 =>
  chk (0 ≤ z4.1 ∧ z4.1 < (t1.2.1 : Nat)) <|
  T.load .bool (a10.add (Int.toNat z4.1 * 1)) fun (t11 : Bool) =>
  cond t11
  (deref base_1_p fun a12 =>
  chk (0 ≤ z4.1 ∧ z4.1 < (base_1_n : Nat)) <|
  T.load .slice (a12.add (Int.toNat z4.1 * 1)) fun (t13 : Option Addr × Nat × Nat) =>
  deref t13.1 fun a14 =>
  chk (0 ≤ z6.1 ∧ z6.1 < (t13.2.1 : Nat)) <|
  T.load (.int .i64) (a14.add (Int.toNat z6.1 * 1)) fun (t15 : Int) =>
  cond (decide (t15 ≥ (0 : Int)))
  (deref base_1_p fun a16 =>
  chk (0 ≤ z4.1 ∧ z4.1 < (base_1_n : Nat)) <|
  T.load .slice (a16.add (Int.toNat z4.1 * 1)) fun (t17 : Option Addr × Nat × Nat) =>
  deref t17.1 fun a18 =>
  chk (0 ≤ z6.1 ∧ z6.1 < (t17.2.1 : Nat)) <|
  T.load (.int .i64) (a18.add (Int.toNat z6.1 * 1)) fun (t19 : Int) =>
  T.out [(.bool (decide (t19 < wide_3)))])
  (T.out [(.bool false)]))
  (T.out [(.bool false)])) fun (z9 : Bool × Unit) =>
  T.join []
  (cond z9.1
  (deref base_1_p fun a21 =>
  chk (0 ≤ z4.1 ∧ z4.1 < (base_1_n : Nat)) <|
  T.load .slice (a21.add (Int.toNat z4.1 * 1)) fun (t22 : Option Addr × Nat × Nat) =>
  deref t22.1 fun a23 =>
  chk (0 ≤ z6.1 ∧ z6.1 < (t22.2.1 : Nat)) <|
  T.load (.int .i64) (a23.add (Int.toNat z6.1 * 1)) fun (t24 : Int) =>
  deref t2.1 fun a25 =>
  chk (0 ≤ t24 ∧ t24 < (t2.2.1 : Nat)) <|
  T.store (a25.add (Int.toNat t24 * 1)) (.bool true) <|
  T.out [])
  (T.out [])) fun (z20 : Unit) =>
  T.out [(.int .i64 (IntKind.wrap .i64 (z6.1 + (1 : Int))))])
  (T.brk 2 [(.int .i64 z6.1)])) fun (z5 : Int × Unit) =>
  T.out [(.int .i64 (IntKind.wrap .i64 (z4.1 + (1 : Int))))])
  (T.brk 0 [(.int .i64 z4.1)])) fun (z3 : Int × Unit) =>
  T.block 4 [(.atom (.int .i64)), (.atom .slice)]
  (T.loop [(.atom (.int .i64)), (.atom .slice)] [(.int .i64 (0 : Int)), (.slice none 0 0)] fun (z27 : Int × (Option Addr × Nat × Nat) × Unit) =>
  cond (decide (z27.1 < wide_3))
  (deref t2.1 fun a28 =>
  chk (0 ≤ z27.1 ∧ z27.1 < (t2.2.1 : Nat)) <|
  T.load .bool (a28.add (Int.toNat z27.1 * 1)) fun (t29 : Bool) =>
  T.join [(.atom .slice)]
  (cond t29
  (T.new (.cells #[(.int .i64 z27.1)] 3 (0, 0)) fun r31 =>
  T.sem (Builtin.append_ #[28, 28] 28 #[(.slice z27.2.1.1 z27.2.1.2.1 z27.2.1.2.2), (.slice (some ⟨r31, 0, none⟩) 1 1)]) (.one (.atom .slice)) fun (t32 : Option Addr × Nat × Nat) =>
  T.out [(.slice t32.1 t32.2.1 t32.2.2)])
  (T.out [(.slice z27.2.1.1 z27.2.1.2.1 z27.2.1.2.2)])) fun (z30 : (Option Addr × Nat × Nat) × Unit) =>
  T.out [(.int .i64 (IntKind.wrap .i64 (z27.1 + (1 : Int)))), (.slice z30.1.1 z30.1.2.1 z30.1.2.2)])
  (T.brk 4 [(.int .i64 z27.1), (.slice z27.2.1.1 z27.2.1.2.1 z27.2.1.2.2)])) fun (z26 : Int × (Option Addr × Nat × Nat) × Unit) =>
  T.ret (.slice z26.2.1.1 z26.2.1.2.1 z26.2.1.2.2)
theorem tronageref12_Solve_den (edges_0_p : Option Addr) (edges_0_n edges_0_c : Nat) (base_1_p : Option Addr) (base_1_n base_1_c : Nat) (at_2 : Int) (wide_3 : Int) : denFun Tryd.prog Tryd.f13 [(.slice edges_0_p edges_0_n edges_0_c), (.slice base_1_p base_1_n base_1_c), (.int .i64 at_2), (.int .i64 wide_3)] = tronageref12_Solve_T edges_0_p edges_0_n edges_0_c base_1_p base_1_n base_1_c at_2 wide_3 := by kernel_rfl

/-- tronage/digraph.Parts -/
noncomputable def digraph_Parts_T (edges_0_p : Option Addr) (edges_0_n edges_0_c : Nat) : T :=
  T.new (.cells #[(.slice none 0 0)] 22 (0, 0)) fun r1 =>
  T.call 28 [(.slice edges_0_p edges_0_n edges_0_c), (.int .i64 ((edges_0_n : Nat) : Int)), (.func (.func 29) #[] #[]), (.func (.func 30) #[] #[(.pointer (some ⟨r1, 0, none⟩))])] (.tuple []) fun (t2 : Unit) =>
  T.load .slice ⟨r1, 0, none⟩ fun (t3 : Option Addr × Nat × Nat) =>
  T.call 32 [(.slice t3.1 t3.2.1 t3.2.2), (.func (.func 33) #[] #[])] (.tuple []) fun (t4 : Unit) =>
  T.load .slice ⟨r1, 0, none⟩ fun (t5 : Option Addr × Nat × Nat) =>
  T.ret (.slice t5.1 t5.2.1 t5.2.2)
theorem digraph_Parts_den (edges_0_p : Option Addr) (edges_0_n edges_0_c : Nat) : denFun Tryd.prog Tryd.f14 [(.slice edges_0_p edges_0_n edges_0_c)] = digraph_Parts_T edges_0_p edges_0_n edges_0_c := by kernel_rfl

/-- tronage/digraph.Loops -/
noncomputable def digraph_Loops_T (edges_0_p : Option Addr) (edges_0_n edges_0_c : Nat) : T :=
  T.call 14 [(.slice edges_0_p edges_0_n edges_0_c)] (.one (.atom .slice)) fun (t1 : Option Addr × Nat × Nat) =>
  T.block 0 [(.atom (.int .i64)), (.atom .slice)]
  (T.loop [(.atom (.int .i64)), (.atom .slice)] [(.int .i64 (0 : Int)), (.slice none 0 0)] fun (z3 : Int × (Option Addr × Nat × Nat) × Unit) =>
  cond (decide (z3.1 < ((t1.2.1 : Nat) : Int)))
  (deref t1.1 fun a4 =>
  chk (0 ≤ z3.1 ∧ z3.1 < (t1.2.1 : Nat)) <|
  T.load .slice (a4.add (Int.toNat z3.1 * 1)) fun (t5 : Option Addr × Nat × Nat) =>
  T.join [(.atom .bool)]
  (cond (decide (((t5.2.1 : Nat) : Int) > (1 : Int)))
  (T.out [(.bool true)])
  (deref t5.1 fun a7 =>
  chk (0 ≤ (0 : Int) ∧ (0 : Int) < (t5.2.1 : Nat)) <|
  T.load (.int .i64) (a7.add (Int.toNat (0 : Int) * 1)) fun (t8 : Int) =>
  deref edges_0_p fun a9 =>
  chk (0 ≤ t8 ∧ t8 < (edges_0_n : Nat)) <|
  T.load .slice (a9.add (Int.toNat t8 * 1)) fun (t10 : Option Addr × Nat × Nat) =>
  deref t5.1 fun a11 =>
  chk (0 ≤ (0 : Int) ∧ (0 : Int) < (t5.2.1 : Nat)) <|
  T.load (.int .i64) (a11.add (Int.toNat (0 : Int) * 1)) fun (t12 : Int) =>
  T.call 34 [(.slice t10.1 t10.2.1 t10.2.2), (.int .i64 t12)] (.one (.atom .bool)) fun (t13 : Bool) =>
  T.out [(.bool t13)])) fun (z6 : Bool × Unit) =>
  T.join [(.atom .slice)]
  (cond z6.1
  (T.sem (Builtin.append_ #[28, 28] 28 #[(.slice z3.2.1.1 z3.2.1.2.1 z3.2.1.2.2), (.slice t5.1 t5.2.1 t5.2.2)]) (.one (.atom .slice)) fun (t15 : Option Addr × Nat × Nat) =>
  T.out [(.slice t15.1 t15.2.1 t15.2.2)])
  (T.out [(.slice z3.2.1.1 z3.2.1.2.1 z3.2.1.2.2)])) fun (z14 : (Option Addr × Nat × Nat) × Unit) =>
  T.out [(.int .i64 (IntKind.wrap .i64 (z3.1 + (1 : Int)))), (.slice z14.1.1 z14.1.2.1 z14.1.2.2)])
  (T.brk 0 [(.int .i64 z3.1), (.slice z3.2.1.1 z3.2.1.2.1 z3.2.1.2.2)])) fun (z2 : Int × (Option Addr × Nat × Nat) × Unit) =>
  T.call 31 [(.slice z2.2.1.1 z2.2.1.2.1 z2.2.1.2.2)] (.tuple []) fun (t16 : Unit) =>
  T.ret (.slice z2.2.1.1 z2.2.1.2.1 z2.2.1.2.2)
theorem digraph_Loops_den (edges_0_p : Option Addr) (edges_0_n edges_0_c : Nat) : denFun Tryd.prog Tryd.f15 [(.slice edges_0_p edges_0_n edges_0_c)] = digraph_Loops_T edges_0_p edges_0_n edges_0_c := by kernel_rfl

/-- tronage/tronageref01.Lists -/
noncomputable def tronageref01_Lists_T (a_0_p : Option Addr) (a_0_n a_0_c : Nat) (b_1_p : Option Addr) (b_1_n b_1_c : Nat) : T :=
  cond (((a_0_n : Nat) : Int) != ((b_1_n : Nat) : Int))
  (T.ret (.bool false))
  (T.block 0 [(.atom (.int .i64)), (.atom .bool)]
  (T.loop [(.atom (.int .i64)), (.atom .bool)] [(.int .i64 (0 : Int)), (.bool false)] fun (z2 : Int × Bool × Unit) =>
  cond (decide (z2.1 < ((a_0_n : Nat) : Int)))
  (deref a_0_p fun a3 =>
  chk (0 ≤ z2.1 ∧ z2.1 < (a_0_n : Nat)) <|
  T.load .slice (a3.add (Int.toNat z2.1 * 1)) fun (t4 : Option Addr × Nat × Nat) =>
  deref b_1_p fun a5 =>
  chk (0 ≤ z2.1 ∧ z2.1 < (b_1_n : Nat)) <|
  T.load .slice (a5.add (Int.toNat z2.1 * 1)) fun (t6 : Option Addr × Nat × Nat) =>
  T.call 12 [(.slice t4.1 t4.2.1 t4.2.2), (.slice t6.1 t6.2.1 t6.2.2)] (.one (.atom .bool)) fun (t7 : Bool) =>
  cond (!t7)
  (T.ret (.bool false))
  (T.out [(.int .i64 (IntKind.wrap .i64 (z2.1 + (1 : Int)))), (.bool z2.2.1)]))
  (T.brk 0 [(.int .i64 z2.1), (.bool z2.2.1)])) fun (z1 : Int × Bool × Unit) =>
  T.ret (.bool true))
theorem tronageref01_Lists_den (a_0_p : Option Addr) (a_0_n a_0_c : Nat) (b_1_p : Option Addr) (b_1_n b_1_c : Nat) : denFun Tryd.prog Tryd.f16 [(.slice a_0_p a_0_n a_0_c), (.slice b_1_p b_1_n b_1_c)] = tronageref01_Lists_T a_0_p a_0_n a_0_c b_1_p b_1_n b_1_c := by kernel_rfl

/-- tronage/tronageref12.Parts -/
noncomputable def tronageref12_Parts_T (edges_0_p : Option Addr) (edges_0_n edges_0_c : Nat) : T :=
  T.block 0 [(.atom (.int .i64)), (.atom .slice)]
  (T.loop [(.atom (.int .i64)), (.atom .slice)] [(.int .i64 (0 : Int)), (.slice none 0 0)] fun (z2 : Int × (Option Addr × Nat × Nat) × Unit) =>
  cond (decide (z2.1 < ((edges_0_n : Nat) : Int)))
  (T.call 27 [(.slice edges_0_p edges_0_n edges_0_c), (.int .i64 ((edges_0_n : Nat) : Int)), (.int .i64 z2.1)] (.one (.atom .slice)) fun (t3 : Option Addr × Nat × Nat) =>
  T.new (.cells #[(.slice t3.1 t3.2.1 t3.2.2)] 42 (0, 0)) fun r4 =>
  T.sem (Builtin.append_ #[49, 49] 49 #[(.slice z2.2.1.1 z2.2.1.2.1 z2.2.1.2.2), (.slice (some ⟨r4, 0, none⟩) 1 1)]) (.one (.atom .slice)) fun (t5 : Option Addr × Nat × Nat) =>
  T.out [(.int .i64 (IntKind.wrap .i64 (z2.1 + (1 : Int)))), (.slice t5.1 t5.2.1 t5.2.2)])
  (T.brk 0 [(.int .i64 z2.1), (.slice z2.2.1.1 z2.2.1.2.1 z2.2.1.2.2)])) fun (z1 : Int × (Option Addr × Nat × Nat) × Unit) =>
  T.sem (Instr.makeSlice 42 (.int .i64 ((edges_0_n : Nat) : Int)) (.int .i64 ((edges_0_n : Nat) : Int))) (.one (.atom .slice)) fun (t6 : Option Addr × Nat × Nat) =>
  T.block 2 [(.atom (.int .i64)), (.atom .slice)]
  (T.loop [(.atom (.int .i64)), (.atom .slice)] [(.int .i64 (0 : Int)), (.slice none 0 0)] fun (z8 : Int × (Option Addr × Nat × Nat) × Unit) =>
  cond (decide (z8.1 < ((edges_0_n : Nat) : Int)))
  (T.block 3 [(.atom .slice)]
  (deref t6.1 fun a10 =>
  chk (0 ≤ z8.1 ∧ z8.1 < (t6.2.1 : Nat)) <|
  T.load .bool (a10.add (Int.toNat z8.1 * 1)) fun (t11 : Bool) =>
  cond t11
  (T.brk 3 [(.slice z8.2.1.1 z8.2.1.2.1 z8.2.1.2.2)])
  (T.block 4 [(.atom (.int .i64)), (.atom .slice)]
  (T.loop [(.atom (.int .i64)), (.atom .slice)] [(.int .i64 (0 : Int)), (.slice none 0 0)] fun (z13 : Int × (Option Addr × Nat × Nat) × Unit) =>
  cond (decide (z13.1 < ((edges_0_n : Nat) : Int)))
  (T.join [(.atom .bool)]
  (deref z1.2.1.1 fun a15 =>
  chk (0 ≤ z8.1 ∧ z8.1 < (z1.2.1.2.1 : Nat)) <|
  T.load .slice (a15.add (Int.toNat z8.1 * 1)) fun (t16 : Option Addr × Nat × Nat) =>
  deref t16.1 fun a17 =>
  chk (0 ≤ z13.1 ∧ z13.1 < (t16.2.1 : Nat)) <|
  T.load .bool (a17.add (Int.toNat z13.1 * 1)) fun (t18 : Bool) =>
  cond t18
  (deref z1.2.1.1 fun a19 =>
  chk (0 ≤ z13.1 ∧ z13.1 < (z1.2.1.2.1 : Nat)) <|
  T.load .slice (a19.add (Int.toNat z13.1 * 1)) fun (t20 : Option Addr × Nat × Nat) =>
  deref t20.1 fun a21 =>
  chk (0 ≤ z8.1 ∧ z8.1 < (t20.2.1 : Nat)) <|
  T.load .bool (a21.add (Int.toNat z8.1 * 1)) fun (t22 : Bool) =>
  T.out [(.bool t22)])
  (T.out [(.bool false)])) fun (z14 : Bool × Unit) =>
  T.join [(.atom .slice)]
  (cond z14.1
  (T.new (.cells #[(.int .i64 z13.1)] 3 (0, 0)) fun r24 =>
  T.sem (Builtin.append_ #[28, 28] 28 #[(.slice z13.2.1.1 z13.2.1.2.1 z13.2.1.2.2), (.slice (some ⟨r24, 0, none⟩) 1 1)]) (.one (.atom .slice)) fun (t25 : Option Addr × Nat × Nat) =>
  deref t6.1 fun a26 =>
  chk (0 ≤ z13.1 ∧ z13.1 < (t6.2.1 : Nat)) <|
  T.store (a26.add (Int.toNat z13.1 * 1)) (.bool true) <|
  T.out [(.slice t25.1 t25.2.1 t25.2.2)])
  (T.out [(.slice z13.2.1.1 z13.2.1.2.1 z13.2.1.2.2)])) fun (z23 : (Option Addr × Nat × Nat) × Unit) =>
  T.out [(.int .i64 (IntKind.wrap .i64 (z13.1 + (1 : Int)))), (.slice z23.1.1 z23.1.2.1 z23.1.2.2)])
  (T.brk 4 [(.int .i64 z13.1), (.slice z13.2.1.1 z13.2.1.2.1 z13.2.1.2.2)])) fun (z12 : Int × (Option Addr × Nat × Nat) × Unit) =>
  T.new (.cells #[(.slice z12.2.1.1 z12.2.1.2.1 z12.2.1.2.2)] 28 (0, 0)) fun r27 =>
  T.sem (Builtin.append_ #[22, 22] 22 #[(.slice z8.2.1.1 z8.2.1.2.1 z8.2.1.2.2), (.slice (some ⟨r27, 0, none⟩) 1 1)]) (.one (.atom .slice)) fun (t28 : Option Addr × Nat × Nat) =>
  T.out [(.slice t28.1 t28.2.1 t28.2.2)])) fun (z9 : (Option Addr × Nat × Nat) × Unit) =>
  T.out [(.int .i64 (IntKind.wrap .i64 (z8.1 + (1 : Int)))), (.slice z9.1.1 z9.1.2.1 z9.1.2.2)])
  (T.brk 2 [(.int .i64 z8.1), (.slice z8.2.1.1 z8.2.1.2.1 z8.2.1.2.2)])) fun (z7 : Int × (Option Addr × Nat × Nat) × Unit) =>
  T.ret (.slice z7.2.1.1 z7.2.1.2.1 z7.2.1.2.2)
theorem tronageref12_Parts_den (edges_0_p : Option Addr) (edges_0_n edges_0_c : Nat) : denFun Tryd.prog Tryd.f17 [(.slice edges_0_p edges_0_n edges_0_c)] = tronageref12_Parts_T edges_0_p edges_0_n edges_0_c := by kernel_rfl

/-- tronage/tronageref12.Loops -/
noncomputable def tronageref12_Loops_T (edges_0_p : Option Addr) (edges_0_n edges_0_c : Nat) : T :=
  T.block 0 [(.atom (.int .i64)), (.atom .slice)]
  (T.loop [(.atom (.int .i64)), (.atom .slice)] [(.int .i64 (0 : Int)), (.slice none 0 0)] fun (z2 : Int × (Option Addr × Nat × Nat) × Unit) =>
  cond (decide (z2.1 < ((edges_0_n : Nat) : Int)))
  (T.block 2 [(.atom (.int .i64)), (.atom .bool)]
  (T.loop [(.atom (.int .i64)), (.atom .bool)] [(.int .i64 (0 : Int)), (.bool false)] fun (z4 : Int × Bool × Unit) =>
  deref edges_0_p fun a5 =>
  chk (0 ≤ z2.1 ∧ z2.1 < (edges_0_n : Nat)) <|
  T.load .slice (a5.add (Int.toNat z2.1 * 1)) fun (t6 : Option Addr × Nat × Nat) =>
  cond (decide (z4.1 < ((t6.2.1 : Nat) : Int)))
  (deref edges_0_p fun a7 =>
  chk (0 ≤ z2.1 ∧ z2.1 < (edges_0_n : Nat)) <|
  T.load .slice (a7.add (Int.toNat z2.1 * 1)) fun (t8 : Option Addr × Nat × Nat) =>
  deref t8.1 fun a9 =>
  chk (0 ≤ z4.1 ∧ z4.1 < (t8.2.1 : Nat)) <|
  T.load (.int .i64) (a9.add (Int.toNat z4.1 * 1)) fun (t10 : Int) =>
  T.join [(.atom .bool)]
  (cond (decide (t10 ≥ (0 : Int)))
  (T.out [(.bool (decide (t10 < ((edges_0_n : Nat) : Int))))])
  (T.out [(.bool false)])) fun (z11 : Bool × Unit) =>
  T.join [(.atom .bool)]
  (cond z11.1
  (T.call 27 [(.slice edges_0_p edges_0_n edges_0_c), (.int .i64 ((edges_0_n : Nat) : Int)), (.int .i64 t10)] (.one (.atom .slice)) fun (t13 : Option Addr × Nat × Nat) =>
  T.join [(.atom .bool)]
  (cond z4.2.1
  (T.out [(.bool true)])
  (deref t13.1 fun a15 =>
  chk (0 ≤ z2.1 ∧ z2.1 < (t13.2.1 : Nat)) <|
  T.load .bool (a15.add (Int.toNat z2.1 * 1)) fun (t16 : Bool) =>
  T.out [(.bool t16)])) fun (z14 : Bool × Unit) =>
  T.out [(.bool z14.1)])
  (T.out [(.bool z4.2.1)])) fun (z12 : Bool × Unit) =>
  T.out [(.int .i64 (IntKind.wrap .i64 (z4.1 + (1 : Int)))), (.bool z12.1)])
  (T.brk 2 [(.int .i64 z4.1), (.bool z4.2.1)])) fun (z3 : Int × Bool × Unit) =>
  T.join [(.atom .slice)]
  (cond z3.2.1
  (T.new (.cells #[(.int .i64 z2.1)] 3 (0, 0)) fun r18 =>
  T.sem (Builtin.append_ #[28, 28] 28 #[(.slice z2.2.1.1 z2.2.1.2.1 z2.2.1.2.2), (.slice (some ⟨r18, 0, none⟩) 1 1)]) (.one (.atom .slice)) fun (t19 : Option Addr × Nat × Nat) =>
  T.out [(.slice t19.1 t19.2.1 t19.2.2)])
  (T.out [(.slice z2.2.1.1 z2.2.1.2.1 z2.2.1.2.2)])) fun (z17 : (Option Addr × Nat × Nat) × Unit) =>
  T.out [(.int .i64 (IntKind.wrap .i64 (z2.1 + (1 : Int)))), (.slice z17.1.1 z17.1.2.1 z17.1.2.2)])
  (T.brk 0 [(.int .i64 z2.1), (.slice z2.2.1.1 z2.2.1.2.1 z2.2.1.2.2)])) fun (z1 : Int × (Option Addr × Nat × Nat) × Unit) =>
  T.ret (.slice z1.2.1.1 z1.2.1.2.1 z1.2.1.2.2)
theorem tronageref12_Loops_den (edges_0_p : Option Addr) (edges_0_n edges_0_c : Nat) : denFun Tryd.prog Tryd.f18 [(.slice edges_0_p edges_0_n edges_0_c)] = tronageref12_Loops_T edges_0_p edges_0_n edges_0_c := by kernel_rfl

/-- tronage/tronageref01.In -/
noncomputable def tronageref01_In_T (l_0_p : Option Addr) (l_0_n l_0_c : Nat) (x_1 : Int) : T :=
  T.block 0 [(.atom (.int .i64)), (.atom .bool)]
  (T.loop [(.atom (.int .i64)), (.atom .bool)] [(.int .i64 (0 : Int)), (.bool false)] fun (z2 : Int × Bool × Unit) =>
  cond (decide (z2.1 < ((l_0_n : Nat) : Int)))
  (deref l_0_p fun a3 =>
  chk (0 ≤ z2.1 ∧ z2.1 < (l_0_n : Nat)) <|
  T.load (.int .i64) (a3.add (Int.toNat z2.1 * 1)) fun (t4 : Int) =>
  cond (t4 == x_1)
  (T.ret (.bool true))
  (T.out [(.int .i64 (IntKind.wrap .i64 (z2.1 + (1 : Int)))), (.bool z2.2.1)]))
  (T.brk 0 [(.int .i64 z2.1), (.bool z2.2.1)])) fun (z1 : Int × Bool × Unit) =>
  T.ret (.bool false)
theorem tronageref01_In_den (l_0_p : Option Addr) (l_0_n l_0_c : Nat) (x_1 : Int) : denFun Tryd.prog Tryd.f19 [(.slice l_0_p l_0_n l_0_c), (.int .i64 x_1)] = tronageref01_In_T l_0_p l_0_n l_0_c x_1 := by kernel_rfl

/-- tronage/tronagelaw12.subset -/
noncomputable def tronagelaw12_subset_T (a_0_p : Option Addr) (a_0_n a_0_c : Nat) (b_1_p : Option Addr) (b_1_n b_1_c : Nat) : T :=
  T.block 0 [(.atom (.int .i64)), (.atom .bool)]
  (T.loop [(.atom (.int .i64)), (.atom .bool)] [(.int .i64 (0 : Int)), (.bool false)] fun (z2 : Int × Bool × Unit) =>
  cond (decide (z2.1 < ((a_0_n : Nat) : Int)))
  (deref a_0_p fun a3 =>
  chk (0 ≤ z2.1 ∧ z2.1 < (a_0_n : Nat)) <|
  T.load (.int .i64) (a3.add (Int.toNat z2.1 * 1)) fun (t4 : Int) =>
  T.call 19 [(.slice b_1_p b_1_n b_1_c), (.int .i64 t4)] (.one (.atom .bool)) fun (t5 : Bool) =>
  cond (!t5)
  (T.ret (.bool false))
  (T.out [(.int .i64 (IntKind.wrap .i64 (z2.1 + (1 : Int)))), (.bool z2.2.1)]))
  (T.brk 0 [(.int .i64 z2.1), (.bool z2.2.1)])) fun (z1 : Int × Bool × Unit) =>
  T.ret (.bool true)
theorem tronagelaw12_subset_den (a_0_p : Option Addr) (a_0_n a_0_c : Nat) (b_1_p : Option Addr) (b_1_n b_1_c : Nat) : denFun Tryd.prog Tryd.f20 [(.slice a_0_p a_0_n a_0_c), (.slice b_1_p b_1_n b_1_c)] = tronagelaw12_subset_T a_0_p a_0_n a_0_c b_1_p b_1_n b_1_c := by kernel_rfl

/-- tronage/tronagelaw12.sets -/
noncomputable def tronagelaw12_sets_T (base_0_p : Option Addr) (base_0_n base_0_c : Nat) (wide_1 : Int) : T :=
  T.block 0 [(.atom (.int .i64)), (.atom .slice)]
  (T.loop [(.atom (.int .i64)), (.atom .slice)] [(.int .i64 (0 : Int)), (.slice none 0 0)] fun (z2 : Int × (Option Addr × Nat × Nat) × Unit) =>
  cond (decide (z2.1 < ((base_0_n : Nat) : Int)))
  (deref base_0_p fun a3 =>
  chk (0 ≤ z2.1 ∧ z2.1 < (base_0_n : Nat)) <|
  T.load .slice (a3.add (Int.toNat z2.1 * 1)) fun (t4 : Option Addr × Nat × Nat) =>
  T.call 35 [(.int .i64 wide_1), (.slice t4.1 t4.2.1 t4.2.2)] (.one (.atom .pointer)) fun (t5 : Option Addr) =>
  T.new (.cells #[(.pointer t5)] 37 (0, 0)) fun r6 =>
  T.sem (Builtin.append_ #[35, 35] 35 #[(.slice z2.2.1.1 z2.2.1.2.1 z2.2.1.2.2), (.slice (some ⟨r6, 0, none⟩) 1 1)]) (.one (.atom .slice)) fun (t7 : Option Addr × Nat × Nat) =>
  T.out [(.int .i64 (IntKind.wrap .i64 (z2.1 + (1 : Int)))), (.slice t7.1 t7.2.1 t7.2.2)])
  (T.brk 0 [(.int .i64 z2.1), (.slice z2.2.1.1 z2.2.1.2.1 z2.2.1.2.2)])) fun (z1 : Int × (Option Addr × Nat × Nat) × Unit) =>
  T.ret (.slice z1.2.1.1 z1.2.1.2.1 z1.2.1.2.2)
theorem tronagelaw12_sets_den (base_0_p : Option Addr) (base_0_n base_0_c : Nat) (wide_1 : Int) : denFun Tryd.prog Tryd.f21 [(.slice base_0_p base_0_n base_0_c), (.int .i64 wide_1)] = tronagelaw12_sets_T base_0_p base_0_n base_0_c wide_1 := by kernel_rfl

/-- tronage/digraph.Solve -/
noncomputable def digraph_Solve_T (edges_0_p : Option Addr) (edges_0_n edges_0_c : Nat) (base_1_p : Option Addr) (base_1_n base_1_c : Nat) : T :=
  T.block 0 [(.atom (.int .i64)), (.atom (.int .i64))]
  (T.loop [(.atom (.int .i64)), (.atom (.int .i64))] [(.int .i64 (0 : Int)), (.int .i64 (0 : Int))] fun (z2 : Int × Int × Unit) =>
  cond (decide (z2.1 < ((base_1_n : Nat) : Int)))
  (deref base_1_p fun a3 =>
  chk (0 ≤ z2.1 ∧ z2.1 < (base_1_n : Nat)) <|
  T.load .pointer (a3.add (Int.toNat z2.1 * 1)) fun (t4 : Option Addr) =>
  T.call 26 [(.pointer t4)] (.one (.atom (.int .i64))) fun (t5 : Int) =>
  T.out [(.int .i64 (IntKind.wrap .i64 (z2.1 + (1 : Int)))), (.int .i64 (if t5 > z2.2.1 then t5 else z2.2.1))])
  (T.brk 0 [(.int .i64 z2.1), (.int .i64 z2.2.1)])) fun (z1 : Int × Int × Unit) =>
  T.new (.cells #[(.slice none 0 0)] 35 (0, 0)) fun r6 =>
  T.block 2 [(.atom (.int .i64))]
  (T.loop [(.atom (.int .i64))] [(.int .i64 (0 : Int))] fun (z8 : Int × Unit) =>
  cond (decide (z8.1 < ((base_1_n : Nat) : Int)))
  (deref base_1_p fun a9 =>
  chk (0 ≤ z8.1 ∧ z8.1 < (base_1_n : Nat)) <|
  T.load .pointer (a9.add (Int.toNat z8.1 * 1)) fun (t10 : Option Addr) =>
  T.load .slice ⟨r6, 0, none⟩ fun (t11 : Option Addr × Nat × Nat) =>
  T.call 22 [(.pointer t10)] (.one (.atom .slice)) fun (t12 : Option Addr × Nat × Nat) =>
  T.still ⟨r6, 0, none⟩ (.slice t11.1 t11.2.1 t11.2.2) <|
  T.call 35 [(.int .i64 z1.2.1), (.slice t12.1 t12.2.1 t12.2.2)] (.one (.atom .pointer)) fun (t13 : Option Addr) =>
  T.still ⟨r6, 0, none⟩ (.slice t11.1 t11.2.1 t11.2.2) <|
  T.new (.cells #[(.pointer t13)] 37 (0, 0)) fun r14 =>
  T.still ⟨r6, 0, none⟩ (.slice t11.1 t11.2.1 t11.2.2) <|
  T.sem (Builtin.append_ #[35, 35] 35 #[(.slice t11.1 t11.2.1 t11.2.2), (.slice (some ⟨r14, 0, none⟩) 1 1)]) (.one (.atom .slice)) fun (t15 : Option Addr × Nat × Nat) =>
  T.store ⟨r6, 0, none⟩ (.slice t15.1 t15.2.1 t15.2.2) <|
  T.out [(.int .i64 (IntKind.wrap .i64 (z8.1 + (1 : Int))))])
  (T.brk 2 [(.int .i64 z8.1)])) fun (z7 : Int × Unit) =>
  T.call 28 [(.slice edges_0_p edges_0_n edges_0_c), (.int .i64 ((base_1_n : Nat) : Int)), (.func (.func 38) #[] #[(.pointer (some ⟨r6, 0, none⟩))]), (.func (.func 40) #[] #[(.pointer (some ⟨r6, 0, none⟩))])] (.tuple []) fun (t16 : Unit) =>
  T.block 4 [(.atom (.int .i64)), (.atom .slice)]
  (T.loop [(.atom (.int .i64)), (.atom .slice)] [(.int .i64 (0 : Int)), (.slice none 0 0)] fun (z18 : Int × (Option Addr × Nat × Nat) × Unit) =>
  cond (decide (z18.1 < ((base_1_n : Nat) : Int)))
  (deref base_1_p fun a19 =>
  chk (0 ≤ z18.1 ∧ z18.1 < (base_1_n : Nat)) <|
  T.load .pointer (a19.add (Int.toNat z18.1 * 1)) fun (t20 : Option Addr) =>
  T.load .slice ⟨r6, 0, none⟩ fun (t21 : Option Addr × Nat × Nat) =>
  deref t21.1 fun a22 =>
  chk (0 ≤ z18.1 ∧ z18.1 < (t21.2.1 : Nat)) <|
  T.load .pointer (a22.add (Int.toNat z18.1 * 1)) fun (t23 : Option Addr) =>
  T.call 26 [(.pointer t20)] (.one (.atom (.int .i64))) fun (t24 : Int) =>
  T.still (a22.add (Int.toNat z18.1 * 1)) (.pointer t23) <|
  T.still ⟨r6, 0, none⟩ (.slice t21.1 t21.2.1 t21.2.2) <|
  T.call 22 [(.pointer t23)] (.one (.atom .slice)) fun (t25 : Option Addr × Nat × Nat) =>
  T.call 35 [(.int .i64 t24), (.slice t25.1 t25.2.1 t25.2.2)] (.one (.atom .pointer)) fun (t26 : Option Addr) =>
  T.new (.cells #[(.pointer t26)] 37 (0, 0)) fun r27 =>
  T.sem (Builtin.append_ #[35, 35] 35 #[(.slice z18.2.1.1 z18.2.1.2.1 z18.2.1.2.2), (.slice (some ⟨r27, 0, none⟩) 1 1)]) (.one (.atom .slice)) fun (t28 : Option Addr × Nat × Nat) =>
  T.out [(.int .i64 (IntKind.wrap .i64 (z18.1 + (1 : Int)))), (.slice t28.1 t28.2.1 t28.2.2)])
  (T.brk 4 [(.int .i64 z18.1), (.slice z18.2.1.1 z18.2.1.2.1 z18.2.1.2.2)])) fun (z17 : Int × (Option Addr × Nat × Nat) × Unit) =>
  T.ret (.slice z17.2.1.1 z17.2.1.2.1 z17.2.1.2.2)
theorem digraph_Solve_den (edges_0_p : Option Addr) (edges_0_n edges_0_c : Nat) (base_1_p : Option Addr) (base_1_n base_1_c : Nat) : denFun Tryd.prog Tryd.f23 [(.slice edges_0_p edges_0_n edges_0_c), (.slice base_1_p base_1_n base_1_c)] = digraph_Solve_T edges_0_p edges_0_n edges_0_c base_1_p base_1_n base_1_c := by kernel_rfl

/-- (*tronage/bitset.Set).Add -/
noncomputable def bitset_Set_Add_T (s_0 : Option Addr) (i_1 : Int) : T :=
  T.join [(.atom .bool)]
  (T.call 42 [(.pointer s_0), (.int .i64 i_1)] (.one (.atom .bool)) fun (t2 : Bool) =>
  cond (!t2)
  (T.out [(.bool true)])
  (T.call 43 [(.pointer s_0), (.int .i64 i_1)] (.one (.atom .bool)) fun (t3 : Bool) =>
  T.out [(.bool t3)])) fun (z1 : Bool × Unit) =>
  cond z1.1
  (T.ret (.bool false))
  (deref s_0 fun a4 =>
  T.load .slice (a4.add 1) fun (t5 : Option Addr × Nat × Nat) =>
  chk ((64 : Int) ≠ 0) <|
  deref t5.1 fun a6 =>
  chk (0 ≤ (IntKind.wrap .i64 (Int.tdiv i_1 (64 : Int))) ∧ (IntKind.wrap .i64 (Int.tdiv i_1 (64 : Int))) < (t5.2.1 : Nat)) <|
  T.load (.int .u64) (a6.add (Int.toNat (IntKind.wrap .i64 (Int.tdiv i_1 (64 : Int))) * 1)) fun (t7 : Int) =>
  chk ((64 : Int) ≠ 0) <|
  chk (0 ≤ (Int.tmod i_1 (64 : Int))) <|
  deref t5.1 fun a8 =>
  chk (0 ≤ (IntKind.wrap .i64 (Int.tdiv i_1 (64 : Int))) ∧ (IntKind.wrap .i64 (Int.tdiv i_1 (64 : Int))) < (t5.2.1 : Nat)) <|
  T.store (a8.add (Int.toNat (IntKind.wrap .i64 (Int.tdiv i_1 (64 : Int))) * 1)) (.int .u64 (IntKind.wrap .u64 (BitVec.toNat (BitVec.ofInt (IntKind.bits .u64) t7 ||| (BitVec.ofInt (IntKind.bits .u64) (IntKind.wrap .u64 ((1 : Int) * 2 ^ (min (Int.toNat (Int.tmod i_1 (64 : Int))) (IntKind.bits .u64)))))) : Nat))) <|
  T.ret (.bool true))
theorem bitset_Set_Add_den (s_0 : Option Addr) (i_1 : Int) : denFun Tryd.prog Tryd.f24 [(.pointer s_0), (.int .i64 i_1)] = bitset_Set_Add_T s_0 i_1 := by kernel_rfl

/-- (*tronage/bitset.Set).Drop -/
noncomputable def bitset_Set_Drop_T (s_0 : Option Addr) (i_1 : Int) : T :=
  T.call 43 [(.pointer s_0), (.int .i64 i_1)] (.one (.atom .bool)) fun (t1 : Bool) =>
  cond (!t1)
  (T.ret (.bool false))
  (deref s_0 fun a2 =>
  T.load .slice (a2.add 1) fun (t3 : Option Addr × Nat × Nat) =>
  chk ((64 : Int) ≠ 0) <|
  deref t3.1 fun a4 =>
  chk (0 ≤ (IntKind.wrap .i64 (Int.tdiv i_1 (64 : Int))) ∧ (IntKind.wrap .i64 (Int.tdiv i_1 (64 : Int))) < (t3.2.1 : Nat)) <|
  T.load (.int .u64) (a4.add (Int.toNat (IntKind.wrap .i64 (Int.tdiv i_1 (64 : Int))) * 1)) fun (t5 : Int) =>
  chk ((64 : Int) ≠ 0) <|
  chk (0 ≤ (Int.tmod i_1 (64 : Int))) <|
  deref t3.1 fun a6 =>
  chk (0 ≤ (IntKind.wrap .i64 (Int.tdiv i_1 (64 : Int))) ∧ (IntKind.wrap .i64 (Int.tdiv i_1 (64 : Int))) < (t3.2.1 : Nat)) <|
  T.store (a6.add (Int.toNat (IntKind.wrap .i64 (Int.tdiv i_1 (64 : Int))) * 1)) (.int .u64 (IntKind.wrap .u64 (BitVec.toNat (BitVec.ofInt (IntKind.bits .u64) t5 &&& ~~~(BitVec.ofInt (IntKind.bits .u64) (IntKind.wrap .u64 ((1 : Int) * 2 ^ (min (Int.toNat (Int.tmod i_1 (64 : Int))) (IntKind.bits .u64)))))) : Nat))) <|
  T.ret (.bool true))
theorem bitset_Set_Drop_den (s_0 : Option Addr) (i_1 : Int) : denFun Tryd.prog Tryd.f25 [(.pointer s_0), (.int .i64 i_1)] = bitset_Set_Drop_T s_0 i_1 := by kernel_rfl

/-- (*tronage/bitset.Set).Width -/
noncomputable def bitset_Set_Width_T (s_0 : Option Addr) : T :=
  deref s_0 fun a1 =>
  T.load (.int .i64) a1 fun (t2 : Int) =>
  T.ret (.int .i64 t2)
theorem bitset_Set_Width_den (s_0 : Option Addr) : denFun Tryd.prog Tryd.f26 [(.pointer s_0)] = bitset_Set_Width_T s_0 := by kernel_rfl

/-- tronage/tronageref12.Reach -/
noncomputable def tronageref12_Reach_T (edges_0_p : Option Addr) (edges_0_n edges_0_c : Nat) (n_1 : Int) (at_2 : Int) : T :=
  T.sem (Instr.makeSlice 42 (.int .i64 n_1) (.int .i64 n_1)) (.one (.atom .slice)) fun (t1 : Option Addr × Nat × Nat) =>
  deref t1.1 fun a2 =>
  chk (0 ≤ at_2 ∧ at_2 < (t1.2.1 : Nat)) <|
  T.store (a2.add (Int.toNat at_2 * 1)) (.bool true) <|
  T.block 0 [(.atom .bool)]
  (T.loop [(.atom .bool)] [(.bool true)] fun (z4 : Bool × Unit) =>
  cond z4.1
  (T.block 2 [(.atom (.int .i64)), (.atom .bool)]
  (T.loop [(.atom (.int .i64)), (.atom .bool)] [(.int .i64 (0 : Int)), (.bool false)] fun (z6 : Int × Bool × Unit) =>
  T.join [(.atom .bool)]
  (cond (decide (z6.1 < n_1))
  (T.out [(.bool (decide (z6.1 < ((edges_0_n : Nat) : Int))))])
  (T.out [(.bool false)])) fun (z7 : Bool × Unit) =>
  cond z7.1
  (T.block 4 [(.atom (.int .i64)), (.atom .bool)]
  (T.loop [(.atom (.int .i64)), (.atom .bool)] [(.int .i64 (0 : Int)), (.bool z6.2.1)] fun (z9 : Int × Bool × Unit) =>
  deref edges_0_p fun a10 =>
  chk (0 ≤ z6.1 ∧ z6.1 < (edges_0_n : Nat)) <|
  T.load .slice (a10.add (Int.toNat z6.1 * 1)) fun (t11 : Option Addr × Nat × Nat) =>
  cond (decide (z9.1 < ((t11.2.1 : Nat) : Int)))
  (deref edges_0_p fun a12 =>
  chk (0 ≤ z6.1 ∧ z6.1 < (edges_0_n : Nat)) <|
  T.load .slice (a12.add (Int.toNat z6.1 * 1)) fun (t13 : Option Addr × Nat × Nat) =>
  deref t13.1 fun a14 =>
  chk (0 ≤ z9.1 ∧ z9.1 < (t13.2.1 : Nat)) <|
  T.load (.int .i64) (a14.add (Int.toNat z9.1 * 1)) fun (t15 : Int) =>
  T.join [(.atom .bool)]
  (deref t1.1 fun a17 =>
  chk (0 ≤ z6.1 ∧ z6.1 < (t1.2.1 : Nat)) <|
  T.load .bool (a17.add (Int.toNat z6.1 * 1)) fun (t18 : Bool) =>
  cond t18
  (cond (decide (t15 ≥ (0 : Int)))
  (cond (decide (t15 < n_1))
  (deref t1.1 fun a19 =>
  chk (0 ≤ t15 ∧ t15 < (t1.2.1 : Nat)) <|
  T.load .bool (a19.add (Int.toNat t15 * 1)) fun (t20 : Bool) =>
  T.out [(.bool (!t20))])
  (T.out [(.bool false)]))
  (T.out [(.bool false)]))
  (T.out [(.bool false)])) fun (z16 : Bool × Unit) =>
  T.join [(.atom .bool)]
  (cond z16.1
  (deref t1.1 fun a22 =>
  chk (0 ≤ t15 ∧ t15 < (t1.2.1 : Nat)) <|
  T.store (a22.add (Int.toNat t15 * 1)) (.bool true) <|
  T.out [(.bool true)])
  (T.out [(.bool z9.2.1)])) fun (z21 : Bool × Unit) =>
  T.out [(.int .i64 (IntKind.wrap .i64 (z9.1 + (1 : Int)))), (.bool z21.1)])
  (T.brk 4 [(.int .i64 z9.1), (.bool z9.2.1)])) fun (z8 : Int × Bool × Unit) =>
  T.out [(.int .i64 (IntKind.wrap .i64 (z6.1 + (1 : Int)))), (.bool z8.2.1)])
  (T.brk 2 [(.int .i64 z6.1), (.bool z6.2.1)])) fun (z5 : Int × Bool × Unit) =>
  T.out [(.bool z5.2.1)])
  (T.brk 0 [(.bool z4.1)])) fun (z3 : Bool × Unit) =>
  T.ret (.slice t1.1 t1.2.1 t1.2.2)
theorem tronageref12_Reach_den (edges_0_p : Option Addr) (edges_0_n edges_0_c : Nat) (n_1 : Int) (at_2 : Int) : denFun Tryd.prog Tryd.f27 [(.slice edges_0_p edges_0_n edges_0_c), (.int .i64 n_1), (.int .i64 at_2)] = tronageref12_Reach_T edges_0_p edges_0_n edges_0_c n_1 at_2 := by kernel_rfl

/-- tronage/digraph.walk -/
noncomputable def digraph_walk_S_T (edges_0_p : Option Addr) (edges_0_n edges_0_c : Nat) (n_1 : Int) (k_2_0 : Nat) (k_3_0 : Nat) : T :=
  T.new (.cells #[(.slice edges_0_p edges_0_n edges_0_c)] 22 (0, 0)) fun r1 =>
  T.new (.cells #[(.int .i64 n_1)] 3 (0, 0)) fun r2 =>
  T.new (.cells #[(.func (.func 38) #[] #[(.pointer (some ⟨k_2_0, 0, none⟩))])] 45 (0, 0)) fun r3 =>
  T.new (.cells #[(.func (.func 40) #[] #[(.pointer (some ⟨k_3_0, 0, none⟩))])] 46 (0, 0)) fun r4 =>
  T.load (.int .i64) ⟨r2, 0, none⟩ fun (t5 : Int) =>
  T.sem (Instr.makeSlice 28 (.int .i64 t5) (.int .i64 t5)) (.one (.atom .slice)) fun (t6 : Option Addr × Nat × Nat) =>
  T.new (.cells #[(.slice none 0 0)] 28 (0, 0)) fun r7 =>
  T.store ⟨r7, 0, none⟩ (.slice t6.1 t6.2.1 t6.2.2) <|
  T.new (.cells #[(.slice none 0 0)] 28 (0, 0)) fun r8 =>
  T.new (.cells #[.nilFunc] 60 (0, 0)) fun r9 =>
  T.store ⟨r9, 0, none⟩ (.func (.func 44) #[] #[(.pointer (some ⟨r8, 0, none⟩)), (.pointer (some ⟨r7, 0, none⟩)), (.pointer (some ⟨r1, 0, none⟩)), (.pointer (some ⟨r2, 0, none⟩)), (.pointer (some ⟨r9, 0, none⟩)), (.pointer (some ⟨r3, 0, none⟩)), (.pointer (some ⟨r4, 0, none⟩))]) <|
  T.load (.int .i64) ⟨r2, 0, none⟩ fun (t10 : Int) =>
  T.block 0 [(.atom (.int .i64))]
  (T.loop [(.atom (.int .i64))] [(.int .i64 (0 : Int))] fun (z12 : Int × Unit) =>
  cond (decide (z12.1 < t10))
  (T.load .slice ⟨r7, 0, none⟩ fun (t13 : Option Addr × Nat × Nat) =>
  deref t13.1 fun a14 =>
  chk (0 ≤ z12.1 ∧ z12.1 < (t13.2.1 : Nat)) <|
  T.load (.int .i64) (a14.add (Int.toNat z12.1 * 1)) fun (t15 : Int) =>
  T.join []
  (cond (t15 == (0 : Int))
  (T.load .func ⟨r9, 0, none⟩ fun (t17 : Option (Fn × Array Value × Array Value)) =>
  callV false Tryd.prog (Atom.val .func t17) #[(.int .i64 z12.1)] fun (t18 : Value) =>
  T.out [])
  (T.out [])) fun (z16 : Unit) =>
  T.out [(.int .i64 (IntKind.wrap .i64 (z12.1 + (1 : Int))))])
  (T.brk 0 [(.int .i64 z12.1)])) fun (z11 : Int × Unit) =>
  T.ret (.tuple #[])
theorem digraph_walk_S_den (edges_0_p : Option Addr) (edges_0_n edges_0_c : Nat) (n_1 : Int) (k_2_0 : Nat) (k_3_0 : Nat) : denFun Tryd.prog Tryd.f28 [(.slice edges_0_p edges_0_n edges_0_c), (.int .i64 n_1), (.func (.func 38) #[] #[(.pointer (some ⟨k_2_0, 0, none⟩))]), (.func (.func 40) #[] #[(.pointer (some ⟨k_3_0, 0, none⟩))])] = digraph_walk_S_T edges_0_p edges_0_n edges_0_c n_1 k_2_0 k_3_0 := by kernel_rfl

/-- tronage/digraph.walk -/
noncomputable def digraph_walk_P_T (edges_0_p : Option Addr) (edges_0_n edges_0_c : Nat) (n_1 : Int) (k_3_0 : Nat) : T :=
  T.new (.cells #[(.slice edges_0_p edges_0_n edges_0_c)] 22 (0, 0)) fun r1 =>
  T.new (.cells #[(.int .i64 n_1)] 3 (0, 0)) fun r2 =>
  T.new (.cells #[(.func (.func 29) #[] #[])] 45 (0, 0)) fun r3 =>
  T.new (.cells #[(.func (.func 30) #[] #[(.pointer (some ⟨k_3_0, 0, none⟩))])] 46 (0, 0)) fun r4 =>
  T.load (.int .i64) ⟨r2, 0, none⟩ fun (t5 : Int) =>
  T.sem (Instr.makeSlice 28 (.int .i64 t5) (.int .i64 t5)) (.one (.atom .slice)) fun (t6 : Option Addr × Nat × Nat) =>
  T.new (.cells #[(.slice none 0 0)] 28 (0, 0)) fun r7 =>
  T.store ⟨r7, 0, none⟩ (.slice t6.1 t6.2.1 t6.2.2) <|
  T.new (.cells #[(.slice none 0 0)] 28 (0, 0)) fun r8 =>
  T.new (.cells #[.nilFunc] 60 (0, 0)) fun r9 =>
  T.store ⟨r9, 0, none⟩ (.func (.func 44) #[] #[(.pointer (some ⟨r8, 0, none⟩)), (.pointer (some ⟨r7, 0, none⟩)), (.pointer (some ⟨r1, 0, none⟩)), (.pointer (some ⟨r2, 0, none⟩)), (.pointer (some ⟨r9, 0, none⟩)), (.pointer (some ⟨r3, 0, none⟩)), (.pointer (some ⟨r4, 0, none⟩))]) <|
  T.load (.int .i64) ⟨r2, 0, none⟩ fun (t10 : Int) =>
  T.block 0 [(.atom (.int .i64))]
  (T.loop [(.atom (.int .i64))] [(.int .i64 (0 : Int))] fun (z12 : Int × Unit) =>
  cond (decide (z12.1 < t10))
  (T.load .slice ⟨r7, 0, none⟩ fun (t13 : Option Addr × Nat × Nat) =>
  deref t13.1 fun a14 =>
  chk (0 ≤ z12.1 ∧ z12.1 < (t13.2.1 : Nat)) <|
  T.load (.int .i64) (a14.add (Int.toNat z12.1 * 1)) fun (t15 : Int) =>
  T.join []
  (cond (t15 == (0 : Int))
  (T.load .func ⟨r9, 0, none⟩ fun (t17 : Option (Fn × Array Value × Array Value)) =>
  callV false Tryd.prog (Atom.val .func t17) #[(.int .i64 z12.1)] fun (t18 : Value) =>
  T.out [])
  (T.out [])) fun (z16 : Unit) =>
  T.out [(.int .i64 (IntKind.wrap .i64 (z12.1 + (1 : Int))))])
  (T.brk 0 [(.int .i64 z12.1)])) fun (z11 : Int × Unit) =>
  T.ret (.tuple #[])
theorem digraph_walk_P_den (edges_0_p : Option Addr) (edges_0_n edges_0_c : Nat) (n_1 : Int) (k_3_0 : Nat) : denFun Tryd.prog Tryd.f28 [(.slice edges_0_p edges_0_n edges_0_c), (.int .i64 n_1), (.func (.func 29) #[] #[]), (.func (.func 30) #[] #[(.pointer (some ⟨k_3_0, 0, none⟩))])] = digraph_walk_P_T edges_0_p edges_0_n edges_0_c n_1 k_3_0 := by kernel_rfl

/-- tronage/digraph.Parts$1 -/
noncomputable def digraph_Parts_1_T (at_0 : Int) (to_1 : Int) : T :=
  T.ret (.tuple #[])
theorem digraph_Parts_1_den (at_0 : Int) (to_1 : Int) : denFun Tryd.prog Tryd.f29 [(.int .i64 at_0), (.int .i64 to_1)] = digraph_Parts_1_T at_0 to_1 := by kernel_rfl

/-- tronage/digraph.Parts$2 -/
noncomputable def digraph_Parts_2_T (l_0_p : Option Addr) (l_0_n l_0_c : Nat) (c_1 : Nat) : T :=
  T.call 31 [(.slice l_0_p l_0_n l_0_c)] (.tuple []) fun (t1 : Unit) =>
  T.load .slice ⟨c_1, 0, none⟩ fun (t2 : Option Addr × Nat × Nat) =>
  T.new (.cells #[(.slice l_0_p l_0_n l_0_c)] 28 (0, 0)) fun r3 =>
  T.sem (Builtin.append_ #[22, 22] 22 #[(.slice t2.1 t2.2.1 t2.2.2), (.slice (some ⟨r3, 0, none⟩) 1 1)]) (.one (.atom .slice)) fun (t4 : Option Addr × Nat × Nat) =>
  T.store ⟨c_1, 0, none⟩ (.slice t4.1 t4.2.1 t4.2.2) <|
  T.ret (.tuple #[])
theorem digraph_Parts_2_den (l_0_p : Option Addr) (l_0_n l_0_c : Nat) (c_1 : Nat) : denFun Tryd.prog Tryd.f30 [(.slice l_0_p l_0_n l_0_c), (.pointer (some ⟨c_1, 0, none⟩))] = digraph_Parts_2_T l_0_p l_0_n l_0_c c_1 := by kernel_rfl

/-- tronage/digraph.Parts$3 -/
noncomputable def digraph_Parts_3_T (a_0_p : Option Addr) (a_0_n a_0_c : Nat) (b_1_p : Option Addr) (b_1_n b_1_c : Nat) : T :=
  deref a_0_p fun a1 =>
  chk (0 ≤ (0 : Int) ∧ (0 : Int) < (a_0_n : Nat)) <|
  T.load (.int .i64) (a1.add (Int.toNat (0 : Int) * 1)) fun (t2 : Int) =>
  deref b_1_p fun a3 =>
  chk (0 ≤ (0 : Int) ∧ (0 : Int) < (b_1_n : Nat)) <|
  T.load (.int .i64) (a3.add (Int.toNat (0 : Int) * 1)) fun (t4 : Int) =>
  T.ret (.int .i64 (IntKind.wrap .i64 (t2 - t4)))
theorem digraph_Parts_3_den (a_0_p : Option Addr) (a_0_n a_0_c : Nat) (b_1_p : Option Addr) (b_1_n b_1_c : Nat) : denFun Tryd.prog Tryd.f33 [(.slice a_0_p a_0_n a_0_c), (.slice b_1_p b_1_n b_1_c)] = digraph_Parts_3_T a_0_p a_0_n a_0_c b_1_p b_1_n b_1_c := by kernel_rfl

/-- slices.Contains[[]int,int] -/
noncomputable def slices_Contains_int_int_T (s_0_p : Option Addr) (s_0_n s_0_c : Nat) (v_1 : Int) : T :=
  T.call 50 [(.slice s_0_p s_0_n s_0_c), (.int .i64 v_1)] (.one (.atom (.int .i64))) fun (t1 : Int) =>
  T.ret (.bool (decide (t1 ≥ (0 : Int))))
theorem slices_Contains_int_int_den (s_0_p : Option Addr) (s_0_n s_0_c : Nat) (v_1 : Int) : denFun Tryd.prog Tryd.f34 [(.slice s_0_p s_0_n s_0_c), (.int .i64 v_1)] = slices_Contains_int_int_T s_0_p s_0_n s_0_c v_1 := by kernel_rfl

/-- tronage/bitset.Of -/
noncomputable def bitset_Of_T (n_0 : Int) (l_1_p : Option Addr) (l_1_n l_1_c : Nat) : T :=
  T.call 51 [(.int .i64 n_0)] (.one (.atom .pointer)) fun (t1 : Option Addr) =>
  T.block 0 [(.atom (.int .i64))]
  (T.loop [(.atom (.int .i64))] [(.int .i64 (0 : Int))] fun (z3 : Int × Unit) =>
  cond (decide (z3.1 < ((l_1_n : Nat) : Int)))
  (deref l_1_p fun a4 =>
  chk (0 ≤ z3.1 ∧ z3.1 < (l_1_n : Nat)) <|
  T.load (.int .i64) (a4.add (Int.toNat z3.1 * 1)) fun (t5 : Int) =>
  T.call 24 [(.pointer t1), (.int .i64 t5)] (.one (.atom .bool)) fun (t6 : Bool) =>
  T.out [(.int .i64 (IntKind.wrap .i64 (z3.1 + (1 : Int))))])
  (T.brk 0 [(.int .i64 z3.1)])) fun (z2 : Int × Unit) =>
  T.ret (.pointer t1)
theorem bitset_Of_den (n_0 : Int) (l_1_p : Option Addr) (l_1_n l_1_c : Nat) : denFun Tryd.prog Tryd.f35 [(.int .i64 n_0), (.slice l_1_p l_1_n l_1_c)] = bitset_Of_T n_0 l_1_p l_1_n l_1_c := by kernel_rfl

/-- (*tronage/bitset.Set).Each -/
noncomputable def bitset_Set_Each_T (s_0 : Option Addr) : T :=
  deref s_0 fun a1 =>
  T.load .slice (a1.add 1) fun (t2 : Option Addr × Nat × Nat) =>
  T.call 53 [(.slice t2.1 t2.2.1 t2.2.2)] (.one (.atom .slice)) fun (t3 : Option Addr × Nat × Nat) =>
  T.new (.cells #[(.slice none 0 0)] 57 (0, 0)) fun r4 =>
  T.store ⟨r4, 0, none⟩ (.slice t3.1 t3.2.1 t3.2.2) <|
  T.ret (.func (.func 54) #[] #[(.pointer (some ⟨r4, 0, none⟩))])
theorem bitset_Set_Each_den (s_0 : Option Addr) : denFun Tryd.prog Tryd.f37 [(.pointer s_0)] = bitset_Set_Each_T s_0 := by kernel_rfl

/-- tronage/digraph.Solve$1 -/
noncomputable def digraph_Solve_1_T (at_0 : Int) (to_1 : Int) (c_2 : Nat) : T :=
  T.load .slice ⟨c_2, 0, none⟩ fun (t1 : Option Addr × Nat × Nat) =>
  deref t1.1 fun a2 =>
  chk (0 ≤ at_0 ∧ at_0 < (t1.2.1 : Nat)) <|
  T.load .pointer (a2.add (Int.toNat at_0 * 1)) fun (t3 : Option Addr) =>
  T.load .slice ⟨c_2, 0, none⟩ fun (t4 : Option Addr × Nat × Nat) =>
  deref t4.1 fun a5 =>
  chk (0 ≤ to_1 ∧ to_1 < (t4.2.1 : Nat)) <|
  T.load .pointer (a5.add (Int.toNat to_1 * 1)) fun (t6 : Option Addr) =>
  T.call 39 [(.pointer t3), (.pointer t6)] (.one (.atom .bool)) fun (t7 : Bool) =>
  T.ret (.tuple #[])
theorem digraph_Solve_1_den (at_0 : Int) (to_1 : Int) (c_2 : Nat) : denFun Tryd.prog Tryd.f38 [(.int .i64 at_0), (.int .i64 to_1), (.pointer (some ⟨c_2, 0, none⟩))] = digraph_Solve_1_T at_0 to_1 c_2 := by kernel_rfl

/-- tronage/digraph.Solve$2 -/
noncomputable def digraph_Solve_2_T (l_0_p : Option Addr) (l_0_n l_0_c : Nat) (c_1 : Nat) : T :=
  chk (0 ≤ (1 : Int) ∧ (1 : Int) ≤ ((l_0_n : Nat) : Int) ∧ ((l_0_n : Nat) : Int) ≤ (l_0_c : Nat)) <|
  T.block 0 [(.atom (.int .i64))]
  (T.loop [(.atom (.int .i64))] [(.int .i64 (0 : Int))] fun (z2 : Int × Unit) =>
  cond (decide (z2.1 < (((Int.toNat ((l_0_n : Nat) : Int) - Int.toNat (1 : Int)) : Nat) : Int)))
  (deref (if l_0_c = Int.toNat (1 : Int) then l_0_p else Option.map (fun x => Addr.add x (Int.toNat (1 : Int) * 1)) l_0_p) fun a3 =>
  chk (0 ≤ z2.1 ∧ z2.1 < ((Int.toNat ((l_0_n : Nat) : Int) - Int.toNat (1 : Int)) : Nat)) <|
  T.load (.int .i64) (a3.add (Int.toNat z2.1 * 1)) fun (t4 : Int) =>
  T.load .slice ⟨c_1, 0, none⟩ fun (t5 : Option Addr × Nat × Nat) =>
  deref l_0_p fun a6 =>
  chk (0 ≤ (0 : Int) ∧ (0 : Int) < (l_0_n : Nat)) <|
  T.load (.int .i64) (a6.add (Int.toNat (0 : Int) * 1)) fun (t7 : Int) =>
  deref t5.1 fun a8 =>
  chk (0 ≤ t7 ∧ t7 < (t5.2.1 : Nat)) <|
  T.load .pointer (a8.add (Int.toNat t7 * 1)) fun (t9 : Option Addr) =>
  T.load .slice ⟨c_1, 0, none⟩ fun (t10 : Option Addr × Nat × Nat) =>
  deref t10.1 fun a11 =>
  chk (0 ≤ t4 ∧ t4 < (t10.2.1 : Nat)) <|
  T.load .pointer (a11.add (Int.toNat t4 * 1)) fun (t12 : Option Addr) =>
  T.call 39 [(.pointer t9), (.pointer t12)] (.one (.atom .bool)) fun (t13 : Bool) =>
  T.out [(.int .i64 (IntKind.wrap .i64 (z2.1 + (1 : Int))))])
  (T.brk 0 [(.int .i64 z2.1)])) fun (z1 : Int × Unit) =>
  chk (0 ≤ (1 : Int) ∧ (1 : Int) ≤ ((l_0_n : Nat) : Int) ∧ ((l_0_n : Nat) : Int) ≤ (l_0_c : Nat)) <|
  T.block 2 [(.atom (.int .i64))]
  (T.loop [(.atom (.int .i64))] [(.int .i64 (0 : Int))] fun (z15 : Int × Unit) =>
  cond (decide (z15.1 < (((Int.toNat ((l_0_n : Nat) : Int) - Int.toNat (1 : Int)) : Nat) : Int)))
  (deref (if l_0_c = Int.toNat (1 : Int) then l_0_p else Option.map (fun x => Addr.add x (Int.toNat (1 : Int) * 1)) l_0_p) fun a16 =>
  chk (0 ≤ z15.1 ∧ z15.1 < ((Int.toNat ((l_0_n : Nat) : Int) - Int.toNat (1 : Int)) : Nat)) <|
  T.load (.int .i64) (a16.add (Int.toNat z15.1 * 1)) fun (t17 : Int) =>
  T.load .slice ⟨c_1, 0, none⟩ fun (t18 : Option Addr × Nat × Nat) =>
  T.load .slice ⟨c_1, 0, none⟩ fun (t19 : Option Addr × Nat × Nat) =>
  deref l_0_p fun a20 =>
  chk (0 ≤ (0 : Int) ∧ (0 : Int) < (l_0_n : Nat)) <|
  T.load (.int .i64) (a20.add (Int.toNat (0 : Int) * 1)) fun (t21 : Int) =>
  deref t19.1 fun a22 =>
  chk (0 ≤ t21 ∧ t21 < (t19.2.1 : Nat)) <|
  T.load .pointer (a22.add (Int.toNat t21 * 1)) fun (t23 : Option Addr) =>
  T.call 41 [(.pointer t23)] (.one (.atom .pointer)) fun (t24 : Option Addr) =>
  T.still ⟨c_1, 0, none⟩ (.slice t18.1 t18.2.1 t18.2.2) <|
  deref t18.1 fun a25 =>
  chk (0 ≤ t17 ∧ t17 < (t18.2.1 : Nat)) <|
  T.store (a25.add (Int.toNat t17 * 1)) (.pointer t24) <|
  T.out [(.int .i64 (IntKind.wrap .i64 (z15.1 + (1 : Int))))])
  (T.brk 2 [(.int .i64 z15.1)])) fun (z14 : Int × Unit) =>
  T.ret (.tuple #[])
theorem digraph_Solve_2_den (l_0_p : Option Addr) (l_0_n l_0_c : Nat) (c_1 : Nat) : denFun Tryd.prog Tryd.f40 [(.slice l_0_p l_0_n l_0_c), (.pointer (some ⟨c_1, 0, none⟩))] = digraph_Solve_2_T l_0_p l_0_n l_0_c c_1 := by kernel_rfl

/-- (*tronage/bitset.Set).Copy -/
noncomputable def bitset_Set_Copy_T (s_0 : Option Addr) : T :=
  deref s_0 fun a1 =>
  T.load (.int .i64) a1 fun (t2 : Int) =>
  deref s_0 fun a3 =>
  T.load .slice (a3.add 1) fun (t4 : Option Addr × Nat × Nat) =>
  T.call 53 [(.slice t4.1 t4.2.1 t4.2.2)] (.one (.atom .slice)) fun (t5 : Option Addr × Nat × Nat) =>
  T.still a1 (.int .i64 t2) <|
  T.new (.cells #[(.int .i64 t2), (.slice t5.1 t5.2.1 t5.2.2)] 59 (0, 0)) fun r6 =>
  T.ret (.pointer (some ⟨r6, 0, none⟩))
theorem bitset_Set_Copy_den (s_0 : Option Addr) : denFun Tryd.prog Tryd.f41 [(.pointer s_0)] = bitset_Set_Copy_T s_0 := by kernel_rfl

/-- (*tronage/bitset.Set).is -/
noncomputable def bitset_Set_is_T (s_0 : Option Addr) (i_1 : Int) : T :=
  T.join [(.atom .bool)]
  (cond (decide (i_1 ≥ (0 : Int)))
  (deref s_0 fun a2 =>
  T.load (.int .i64) a2 fun (t3 : Int) =>
  T.out [(.bool (decide (i_1 < t3)))])
  (T.out [(.bool false)])) fun (z1 : Bool × Unit) =>
  T.ret (.bool z1.1)
theorem bitset_Set_is_den (s_0 : Option Addr) (i_1 : Int) : denFun Tryd.prog Tryd.f42 [(.pointer s_0), (.int .i64 i_1)] = bitset_Set_is_T s_0 i_1 := by kernel_rfl

/-- (*tronage/bitset.Set).Has -/
noncomputable def bitset_Set_Has_T (s_0 : Option Addr) (i_1 : Int) : T :=
  T.join [(.atom .bool)]
  (T.call 42 [(.pointer s_0), (.int .i64 i_1)] (.one (.atom .bool)) fun (t2 : Bool) =>
  cond t2
  (deref s_0 fun a3 =>
  T.load .slice (a3.add 1) fun (t4 : Option Addr × Nat × Nat) =>
  chk ((64 : Int) ≠ 0) <|
  deref t4.1 fun a5 =>
  chk (0 ≤ (IntKind.wrap .i64 (Int.tdiv i_1 (64 : Int))) ∧ (IntKind.wrap .i64 (Int.tdiv i_1 (64 : Int))) < (t4.2.1 : Nat)) <|
  T.load (.int .u64) (a5.add (Int.toNat (IntKind.wrap .i64 (Int.tdiv i_1 (64 : Int))) * 1)) fun (t6 : Int) =>
  chk ((64 : Int) ≠ 0) <|
  chk (0 ≤ (Int.tmod i_1 (64 : Int))) <|
  T.out [(.bool ((IntKind.wrap .u64 (BitVec.toNat (BitVec.ofInt (IntKind.bits .u64) (Int.fdiv t6 (2 ^ (min (Int.toNat (Int.tmod i_1 (64 : Int))) (IntKind.bits .u64)))) &&& (BitVec.ofInt (IntKind.bits .u64) (1 : Int))) : Nat)) == (1 : Int)))])
  (T.out [(.bool false)])) fun (z1 : Bool × Unit) =>
  T.ret (.bool z1.1)
theorem bitset_Set_Has_den (s_0 : Option Addr) (i_1 : Int) : denFun Tryd.prog Tryd.f43 [(.pointer s_0), (.int .i64 i_1)] = bitset_Set_Has_T s_0 i_1 := by kernel_rfl

/-- tronage/digraph.walk$1 -/
noncomputable def digraph_walk_1_T (at_0 : Int) (c_1 : Nat) (c_2 : Nat) (c_3 : Nat) (c_4 : Nat) (c_5 : Nat) (c_6 : Nat) (c_7 : Nat) : T :=
  T.load .slice ⟨c_1, 0, none⟩ fun (t1 : Option Addr × Nat × Nat) =>
  T.new (.cells #[(.int .i64 at_0)] 3 (0, 0)) fun r2 =>
  T.sem (Builtin.append_ #[28, 28] 28 #[(.slice t1.1 t1.2.1 t1.2.2), (.slice (some ⟨r2, 0, none⟩) 1 1)]) (.one (.atom .slice)) fun (t3 : Option Addr × Nat × Nat) =>
  T.store ⟨c_1, 0, none⟩ (.slice t3.1 t3.2.1 t3.2.2) <|
  T.load .slice ⟨c_1, 0, none⟩ fun (t4 : Option Addr × Nat × Nat) =>
  T.load .slice ⟨c_2, 0, none⟩ fun (t5 : Option Addr × Nat × Nat) =>
  deref t5.1 fun a6 =>
  chk (0 ≤ at_0 ∧ at_0 < (t5.2.1 : Nat)) <|
  T.store (a6.add (Int.toNat at_0 * 1)) (.int .i64 ((t4.2.1 : Nat) : Int)) <|
  T.load .slice ⟨c_3, 0, none⟩ fun (t7 : Option Addr × Nat × Nat) =>
  T.load (.int .i64) ⟨c_4, 0, none⟩ fun (t8 : Int) =>
  T.call 45 [(.slice t7.1 t7.2.1 t7.2.2), (.int .i64 at_0), (.int .i64 t8)] (.one (.atom .slice)) fun (t9 : Option Addr × Nat × Nat) =>
  T.block 0 [(.atom (.int .i64))]
  (T.loop [(.atom (.int .i64))] [(.int .i64 (0 : Int))] fun (z11 : Int × Unit) =>
  cond (decide (z11.1 < ((t9.2.1 : Nat) : Int)))
  (deref t9.1 fun a12 =>
  chk (0 ≤ z11.1 ∧ z11.1 < (t9.2.1 : Nat)) <|
  T.load (.int .i64) (a12.add (Int.toNat z11.1 * 1)) fun (t13 : Int) =>
  T.load .slice ⟨c_2, 0, none⟩ fun (t14 : Option Addr × Nat × Nat) =>
  deref t14.1 fun a15 =>
  chk (0 ≤ t13 ∧ t13 < (t14.2.1 : Nat)) <|
  T.load (.int .i64) (a15.add (Int.toNat t13 * 1)) fun (t16 : Int) =>
  T.join []
  (cond (t16 == (0 : Int))
  (T.load .func ⟨c_5, 0, none⟩ fun (t18 : Option (Fn × Array Value × Array Value)) =>
  callV false Tryd.prog (Atom.val .func t18) #[(.int .i64 t13)] fun (t19 : Value) =>
  T.out [])
  (T.out [])) fun (z17 : Unit) =>
  T.load .slice ⟨c_2, 0, none⟩ fun (t20 : Option Addr × Nat × Nat) =>
  T.load .slice ⟨c_2, 0, none⟩ fun (t21 : Option Addr × Nat × Nat) =>
  deref t21.1 fun a22 =>
  chk (0 ≤ at_0 ∧ at_0 < (t21.2.1 : Nat)) <|
  T.load (.int .i64) (a22.add (Int.toNat at_0 * 1)) fun (t23 : Int) =>
  T.load .slice ⟨c_2, 0, none⟩ fun (t24 : Option Addr × Nat × Nat) =>
  deref t24.1 fun a25 =>
  chk (0 ≤ t13 ∧ t13 < (t24.2.1 : Nat)) <|
  T.load (.int .i64) (a25.add (Int.toNat t13 * 1)) fun (t26 : Int) =>
  deref t20.1 fun a27 =>
  chk (0 ≤ at_0 ∧ at_0 < (t20.2.1 : Nat)) <|
  T.store (a27.add (Int.toNat at_0 * 1)) (.int .i64 (if t26 < t23 then t26 else t23)) <|
  T.load .func ⟨c_6, 0, none⟩ fun (t28 : Option (Fn × Array Value × Array Value)) =>
  callV false Tryd.prog (Atom.val .func t28) #[(.int .i64 at_0), (.int .i64 t13)] fun (t29 : Value) =>
  T.out [(.int .i64 (IntKind.wrap .i64 (z11.1 + (1 : Int))))])
  (T.brk 0 [(.int .i64 z11.1)])) fun (z10 : Int × Unit) =>
  T.load .slice ⟨c_2, 0, none⟩ fun (t30 : Option Addr × Nat × Nat) =>
  deref t30.1 fun a31 =>
  chk (0 ≤ at_0 ∧ at_0 < (t30.2.1 : Nat)) <|
  T.load (.int .i64) (a31.add (Int.toNat at_0 * 1)) fun (t32 : Int) =>
  cond (t32 != ((t4.2.1 : Nat) : Int))
  (T.ret (.tuple #[]))
  (T.load .slice ⟨c_1, 0, none⟩ fun (t33 : Option Addr × Nat × Nat) =>
  chk (0 ≤ (IntKind.wrap .i64 (((t4.2.1 : Nat) : Int) - (1 : Int))) ∧ (IntKind.wrap .i64 (((t4.2.1 : Nat) : Int) - (1 : Int))) ≤ ((t33.2.1 : Nat) : Int) ∧ ((t33.2.1 : Nat) : Int) ≤ (t33.2.2 : Nat)) <|
  T.call 46 [(.slice (if t33.2.2 = Int.toNat (IntKind.wrap .i64 (((t4.2.1 : Nat) : Int) - (1 : Int))) then t33.1 else Option.map (fun x => Addr.add x (Int.toNat (IntKind.wrap .i64 (((t4.2.1 : Nat) : Int) - (1 : Int))) * 1)) t33.1) (Int.toNat ((t33.2.1 : Nat) : Int) - Int.toNat (IntKind.wrap .i64 (((t4.2.1 : Nat) : Int) - (1 : Int)))) (t33.2.2 - Int.toNat (IntKind.wrap .i64 (((t4.2.1 : Nat) : Int) - (1 : Int)))))] (.one (.atom .slice)) fun (t34 : Option Addr × Nat × Nat) =>
  T.load .slice ⟨c_1, 0, none⟩ fun (t35 : Option Addr × Nat × Nat) =>
  chk (0 ≤ (0 : Int) ∧ (0 : Int) ≤ (IntKind.wrap .i64 (((t4.2.1 : Nat) : Int) - (1 : Int))) ∧ (IntKind.wrap .i64 (((t4.2.1 : Nat) : Int) - (1 : Int))) ≤ (t35.2.2 : Nat)) <|
  T.store ⟨c_1, 0, none⟩ (.slice (if t35.2.2 = Int.toNat (0 : Int) then t35.1 else Option.map (fun x => Addr.add x (Int.toNat (0 : Int) * 1)) t35.1) (Int.toNat (IntKind.wrap .i64 (((t4.2.1 : Nat) : Int) - (1 : Int))) - Int.toNat (0 : Int)) (t35.2.2 - Int.toNat (0 : Int))) <|
  T.block 2 [(.atom (.int .i64))]
  (T.loop [(.atom (.int .i64))] [(.int .i64 (0 : Int))] fun (z37 : Int × Unit) =>
  cond (decide (z37.1 < ((t34.2.1 : Nat) : Int)))
  (deref t34.1 fun a38 =>
  chk (0 ≤ z37.1 ∧ z37.1 < (t34.2.1 : Nat)) <|
  T.load (.int .i64) (a38.add (Int.toNat z37.1 * 1)) fun (t39 : Int) =>
  T.load .slice ⟨c_2, 0, none⟩ fun (t40 : Option Addr × Nat × Nat) =>
  deref t40.1 fun a41 =>
  chk (0 ≤ t39 ∧ t39 < (t40.2.1 : Nat)) <|
  T.store (a41.add (Int.toNat t39 * 1)) (.int .i64 (9223372036854775807 : Int)) <|
  T.out [(.int .i64 (IntKind.wrap .i64 (z37.1 + (1 : Int))))])
  (T.brk 2 [(.int .i64 z37.1)])) fun (z36 : Int × Unit) =>
  T.load .func ⟨c_7, 0, none⟩ fun (t42 : Option (Fn × Array Value × Array Value)) =>
  callV false Tryd.prog (Atom.val .func t42) #[(.slice t34.1 t34.2.1 t34.2.2)] fun (t43 : Value) =>
  T.ret (.tuple #[]))
theorem digraph_walk_1_den (at_0 : Int) (c_1 : Nat) (c_2 : Nat) (c_3 : Nat) (c_4 : Nat) (c_5 : Nat) (c_6 : Nat) (c_7 : Nat) : denFun Tryd.prog Tryd.f44 [(.int .i64 at_0), (.pointer (some ⟨c_1, 0, none⟩)), (.pointer (some ⟨c_2, 0, none⟩)), (.pointer (some ⟨c_3, 0, none⟩)), (.pointer (some ⟨c_4, 0, none⟩)), (.pointer (some ⟨c_5, 0, none⟩)), (.pointer (some ⟨c_6, 0, none⟩)), (.pointer (some ⟨c_7, 0, none⟩))] = digraph_walk_1_T at_0 c_1 c_2 c_3 c_4 c_5 c_6 c_7 := by kernel_rfl

/-- tronage/digraph.from -/
noncomputable def digraph_from_T (edges_0_p : Option Addr) (edges_0_n edges_0_c : Nat) (at_1 : Int) (n_2 : Int) : T :=
  T.new (.cells #[(.int .i64 n_2)] 3 (0, 0)) fun r1 =>
  cond (decide (at_1 ≥ ((edges_0_n : Nat) : Int)))
  (T.ret (.slice none 0 0))
  (deref edges_0_p fun a2 =>
  chk (0 ≤ at_1 ∧ at_1 < (edges_0_n : Nat)) <|
  T.load .slice (a2.add (Int.toNat at_1 * 1)) fun (t3 : Option Addr × Nat × Nat) =>
  T.call 46 [(.slice t3.1 t3.2.1 t3.2.2)] (.one (.atom .slice)) fun (t4 : Option Addr × Nat × Nat) =>
  T.call 56 [(.slice t4.1 t4.2.1 t4.2.2), (.func (.func 57) #[] #[(.pointer (some ⟨r1, 0, none⟩))])] (.one (.atom .slice)) fun (t5 : Option Addr × Nat × Nat) =>
  T.ret (.slice t5.1 t5.2.1 t5.2.2))
theorem digraph_from_den (edges_0_p : Option Addr) (edges_0_n edges_0_c : Nat) (at_1 : Int) (n_2 : Int) : denFun Tryd.prog Tryd.f45 [(.slice edges_0_p edges_0_n edges_0_c), (.int .i64 at_1), (.int .i64 n_2)] = digraph_from_T edges_0_p edges_0_n edges_0_c at_1 n_2 := by kernel_rfl

/-- slices.Clone[[]int,int] -/
noncomputable def slices_Clone_int_int_T (s_0_p : Option Addr) (s_0_n s_0_c : Nat) : T :=
  cond (Option.isNone s_0_p)
  (T.ret (.slice none 0 0))
  (T.new (.cells #[] 3 (0, 0)) fun r1 =>
  T.sem (Builtin.append_ #[28, 28] 28 #[(.slice (some ⟨r1, 0, none⟩) 0 0), (.slice s_0_p s_0_n s_0_c)]) (.one (.atom .slice)) fun (t2 : Option Addr × Nat × Nat) =>
  T.ret (.slice t2.1 t2.2.1 t2.2.2))
theorem slices_Clone_int_int_den (s_0_p : Option Addr) (s_0_n s_0_c : Nat) : denFun Tryd.prog Tryd.f46 [(.slice s_0_p s_0_n s_0_c)] = slices_Clone_int_int_T s_0_p s_0_n s_0_c := by kernel_rfl

/-- slices.Index[[]int,int] -/
noncomputable def slices_Index_int_int_T (s_0_p : Option Addr) (s_0_n s_0_c : Nat) (v_1 : Int) : T :=
  T.block 0 [(.atom (.int .i64)), (.atom (.int .i64))]
  (T.loop [(.atom (.int .i64)), (.atom (.int .i64))] [(.int .i64 (0 : Int)), (.int .i64 (0 : Int))] fun (z2 : Int × Int × Unit) =>
  cond (decide (z2.1 < ((s_0_n : Nat) : Int)))
  (deref s_0_p fun a3 =>
  chk (0 ≤ z2.1 ∧ z2.1 < (s_0_n : Nat)) <|
  T.load (.int .i64) (a3.add (Int.toNat z2.1 * 1)) fun (t4 : Int) =>
  cond (v_1 == t4)
  (T.ret (.int .i64 z2.1))
  (T.out [(.int .i64 (IntKind.wrap .i64 (z2.1 + (1 : Int)))), (.int .i64 z2.2.1)]))
  (T.brk 0 [(.int .i64 z2.1), (.int .i64 z2.2.1)])) fun (z1 : Int × Int × Unit) =>
  T.ret (.int .i64 (-1 : Int))
theorem slices_Index_int_int_den (s_0_p : Option Addr) (s_0_n s_0_c : Nat) (v_1 : Int) : denFun Tryd.prog Tryd.f50 [(.slice s_0_p s_0_n s_0_c), (.int .i64 v_1)] = slices_Index_int_int_T s_0_p s_0_n s_0_c v_1 := by kernel_rfl

/-- tronage/bitset.New -/
noncomputable def bitset_New_T (n_0 : Int) : T :=
  chk ((64 : Int) ≠ 0) <|
  T.sem (Instr.makeSlice 57 (.int .i64 (IntKind.wrap .i64 (Int.tdiv (IntKind.wrap .i64 ((IntKind.wrap .i64 ((if (if (1000 : Int) < n_0 then (1000 : Int) else n_0) > (0 : Int) then (if (1000 : Int) < n_0 then (1000 : Int) else n_0) else (0 : Int)) + (64 : Int))) - (1 : Int))) (64 : Int)))) (.int .i64 (IntKind.wrap .i64 (Int.tdiv (IntKind.wrap .i64 ((IntKind.wrap .i64 ((if (if (1000 : Int) < n_0 then (1000 : Int) else n_0) > (0 : Int) then (if (1000 : Int) < n_0 then (1000 : Int) else n_0) else (0 : Int)) + (64 : Int))) - (1 : Int))) (64 : Int))))) (.one (.atom .slice)) fun (t1 : Option Addr × Nat × Nat) =>
  T.new (.cells #[(.int .i64 (if (if (1000 : Int) < n_0 then (1000 : Int) else n_0) > (0 : Int) then (if (1000 : Int) < n_0 then (1000 : Int) else n_0) else (0 : Int))), (.slice t1.1 t1.2.1 t1.2.2)] 59 (0, 0)) fun r2 =>
  T.ret (.pointer (some ⟨r2, 0, none⟩))
theorem bitset_New_den (n_0 : Int) : denFun Tryd.prog Tryd.f51 [(.int .i64 n_0)] = bitset_New_T n_0 := by kernel_rfl

/-- slices.Clone[[]uint64,uint64] -/
noncomputable def slices_Clone_uint64_uint64_T (s_0_p : Option Addr) (s_0_n s_0_c : Nat) : T :=
  cond (Option.isNone s_0_p)
  (T.ret (.slice none 0 0))
  (T.new (.cells #[] 56 (0, 0)) fun r1 =>
  T.sem (Builtin.append_ #[57, 57] 57 #[(.slice (some ⟨r1, 0, none⟩) 0 0), (.slice s_0_p s_0_n s_0_c)]) (.one (.atom .slice)) fun (t2 : Option Addr × Nat × Nat) =>
  T.ret (.slice t2.1 t2.2.1 t2.2.2))
theorem slices_Clone_uint64_uint64_den (s_0_p : Option Addr) (s_0_n s_0_c : Nat) : denFun Tryd.prog Tryd.f53 [(.slice s_0_p s_0_n s_0_c)] = slices_Clone_uint64_uint64_T s_0_p s_0_n s_0_c := by kernel_rfl

/-- math/bits.TrailingZeros64 -/
noncomputable def math_bits_TrailingZeros64_T (x_0 : Int) : T :=
  cond (x_0 == (0 : Int))
  (T.ret (.int .i64 (64 : Int)))
  (chk (0 ≤ (58 : Int)) <|
  chk (0 ≤ (Int.fdiv (IntKind.wrap .u64 ((IntKind.wrap .u64 (BitVec.toNat (BitVec.ofInt (IntKind.bits .u64) x_0 &&& (BitVec.ofInt (IntKind.bits .u64) (IntKind.wrap .u64 (0 - x_0)))) : Nat)) * (285870213051353865 : Int))) (2 ^ (min (Int.toNat (58 : Int)) (IntKind.bits .u64)))) ∧ (Int.fdiv (IntKind.wrap .u64 ((IntKind.wrap .u64 (BitVec.toNat (BitVec.ofInt (IntKind.bits .u64) x_0 &&& (BitVec.ofInt (IntKind.bits .u64) (IntKind.wrap .u64 (0 - x_0)))) : Nat)) * (285870213051353865 : Int))) (2 ^ (min (Int.toNat (58 : Int)) (IntKind.bits .u64)))) < (64 : Nat)) <|
  T.load (.int .u8) ((⟨0, 0, none⟩ : Addr).add (Int.toNat (Int.fdiv (IntKind.wrap .u64 ((IntKind.wrap .u64 (BitVec.toNat (BitVec.ofInt (IntKind.bits .u64) x_0 &&& (BitVec.ofInt (IntKind.bits .u64) (IntKind.wrap .u64 (0 - x_0)))) : Nat)) * (285870213051353865 : Int))) (2 ^ (min (Int.toNat (58 : Int)) (IntKind.bits .u64)))) * 1)) fun (t1 : Int) =>
  T.ret (.int .i64 (IntKind.wrap .i64 t1)))
theorem math_bits_TrailingZeros64_den (x_0 : Int) : denFun Tryd.prog Tryd.f55 [(.int .u64 x_0)] = math_bits_TrailingZeros64_T x_0 := by kernel_rfl

/-- slices.DeleteFunc[[]int,int] -/
noncomputable def slices_DeleteFunc_int_int_57_T (s_0_p : Option Addr) (s_0_n s_0_c : Nat) : T :=
  T.call 77 [(.slice s_0_p s_0_n s_0_c), (.func (.func 57) #[] #[])] (.one (.atom (.int .i64))) fun (t1 : Int) =>
  cond (t1 == (-1 : Int))
  (T.ret (.slice s_0_p s_0_n s_0_c))
  (T.block 0 [(.atom (.int .i64)), (.atom (.int .i64))]
  (T.loop [(.atom (.int .i64)), (.atom (.int .i64))] [(.int .i64 (IntKind.wrap .i64 (t1 + (1 : Int)))), (.int .i64 t1)] fun (z3 : Int × Int × Unit) =>
  cond (decide (z3.1 < ((s_0_n : Nat) : Int)))
  (deref s_0_p fun a4 =>
  chk (0 ≤ z3.1 ∧ z3.1 < (s_0_n : Nat)) <|
  T.load (.int .i64) (a4.add (Int.toNat z3.1 * 1)) fun (t5 : Int) =>
  T.call 57 [(.int .i64 t5)] (.one (.atom .bool)) fun (t6 : Bool) =>
  T.join [(.atom (.int .i64))]
  (cond (!t6)
  (deref s_0_p fun a8 =>
  chk (0 ≤ z3.2.1 ∧ z3.2.1 < (s_0_n : Nat)) <|
  T.store (a8.add (Int.toNat z3.2.1 * 1)) (.int .i64 t5) <|
  T.out [(.int .i64 (IntKind.wrap .i64 (z3.2.1 + (1 : Int))))])
  (T.out [(.int .i64 z3.2.1)])) fun (z7 : Int × Unit) =>
  T.out [(.int .i64 (IntKind.wrap .i64 (z3.1 + (1 : Int)))), (.int .i64 z7.1)])
  (T.brk 0 [(.int .i64 z3.1), (.int .i64 z3.2.1)])) fun (z2 : Int × Int × Unit) =>
  chk (0 ≤ z2.2.1 ∧ z2.2.1 ≤ ((s_0_n : Nat) : Int) ∧ ((s_0_n : Nat) : Int) ≤ (s_0_c : Nat)) <|
  T.sem (Builtin.clear_ #[28] 0 #[(.slice (if s_0_c = Int.toNat z2.2.1 then s_0_p else Option.map (fun x => Addr.add x (Int.toNat z2.2.1 * 1)) s_0_p) (Int.toNat ((s_0_n : Nat) : Int) - Int.toNat z2.2.1) (s_0_c - Int.toNat z2.2.1))]) (.tuple []) fun (u9 : Unit) =>
  chk (0 ≤ (0 : Int) ∧ (0 : Int) ≤ z2.2.1 ∧ z2.2.1 ≤ (s_0_c : Nat)) <|
  T.ret (.slice (if s_0_c = Int.toNat (0 : Int) then s_0_p else Option.map (fun x => Addr.add x (Int.toNat (0 : Int) * 1)) s_0_p) (Int.toNat z2.2.1 - Int.toNat (0 : Int)) (s_0_c - Int.toNat (0 : Int))))
theorem slices_DeleteFunc_int_int_57_den (s_0_p : Option Addr) (s_0_n s_0_c : Nat) : denFun Tryd.prog Tryd.f56 [(.slice s_0_p s_0_n s_0_c), (.func (.func 57) #[] #[])] = slices_DeleteFunc_int_int_57_T s_0_p s_0_n s_0_c := by kernel_rfl

/-- tronage/digraph.from$1 -/
noncomputable def digraph_from_1_T (to_0 : Int) (c_1 : Nat) : T :=
  T.join [(.atom .bool)]
  (cond (decide (to_0 < (0 : Int)))
  (T.out [(.bool true)])
  (T.load (.int .i64) ⟨c_1, 0, none⟩ fun (t2 : Int) =>
  T.out [(.bool (decide (to_0 ≥ t2)))])) fun (z1 : Bool × Unit) =>
  T.ret (.bool z1.1)
theorem digraph_from_1_den (to_0 : Int) (c_1 : Nat) : denFun Tryd.prog Tryd.f57 [(.int .i64 to_0), (.pointer (some ⟨c_1, 0, none⟩))] = digraph_from_1_T to_0 c_1 := by kernel_rfl

/-- slices.IndexFunc[[]int,int] -/
noncomputable def slices_IndexFunc_int_int_57_T (s_0_p : Option Addr) (s_0_n s_0_c : Nat) : T :=
  T.block 0 [(.atom (.int .i64)), (.atom (.int .i64))]
  (T.loop [(.atom (.int .i64)), (.atom (.int .i64))] [(.int .i64 (0 : Int)), (.int .i64 (0 : Int))] fun (z2 : Int × Int × Unit) =>
  cond (decide (z2.1 < ((s_0_n : Nat) : Int)))
  (deref s_0_p fun a3 =>
  chk (0 ≤ z2.1 ∧ z2.1 < (s_0_n : Nat)) <|
  T.load (.int .i64) (a3.add (Int.toNat z2.1 * 1)) fun (t4 : Int) =>
  T.call 57 [(.int .i64 t4)] (.one (.atom .bool)) fun (t5 : Bool) =>
  cond t5
  (T.ret (.int .i64 z2.1))
  (T.out [(.int .i64 (IntKind.wrap .i64 (z2.1 + (1 : Int)))), (.int .i64 z2.2.1)]))
  (T.brk 0 [(.int .i64 z2.1), (.int .i64 z2.2.1)])) fun (z1 : Int × Int × Unit) =>
  T.ret (.int .i64 (-1 : Int))
theorem slices_IndexFunc_int_int_57_den (s_0_p : Option Addr) (s_0_n s_0_c : Nat) : denFun Tryd.prog Tryd.f77 [(.slice s_0_p s_0_n s_0_c), (.func (.func 57) #[] #[])] = slices_IndexFunc_int_int_57_T s_0_p s_0_n s_0_c := by kernel_rfl

end Go.Proofs.YtbpbfoemghcfaaaDoor

/-
  DIGRAPH: THE PROGRAM'S FORM: what the contracts ask of it.
  Conditions: none.
-/
namespace Go.Proofs.YtbpbfoemghcfaaaDoor
open Go Go.Eng
set_option maxRecDepth 100000
theorem mixed : Tryd.prog.follows .mixedOrders = true := by kernel_rfl
end Go.Proofs.YtbpbfoemghcfaaaDoor

/-
  DIGRAPH: walk and its closure as plain functions.
  Conditions: none.
-/
namespace Go.Proofs.YtbpbfoemghcfaaaDoor
open Go Go.Eng
set_option linter.unusedVariables false
def outOf (n x : Int) : Bool := decide (x < 0) || decide (n ≤ x)
def fromD (ll : List (List Int)) (x n : Int) : List Int := if x ≥ (ll.length : Int) then [] else (ll[x.toNat]?.getD []).filter fun y => !outOf n y
section
variable {A : Type} (ll : List (List Int)) (n : Int) (ledA : A → Int → Int → Option A) (partA : A → List Int → Option A)
/-- What walk holds: low, the stack, what those that it calls hold. -/
abbrev WalkS (A : Type) := List Int × List Int × A
noncomputable def toD (rec : WalkS A → Int → Option (WalkS A)) (x to : Int) (st : WalkS A) : Option (WalkS A) :=
  (idx st.1 to).bind fun e =>
  (cond (e == 0) (rec st to) (some st)).bind fun st =>
  (idx st.1 x).bind fun p =>
  (idx st.1 to).bind fun q =>
  (setI st.1 x (if q < p then q else p)).bind fun low =>
  (ledA st.2.2 x to).bind fun a => some (low, st.2.1, a)
noncomputable def doneD (x : Int) (deep : Nat) (st : WalkS A) : Option (WalkS A) :=
  (idx st.1 x).bind fun e =>
  cond (e != (deep : Int)) (some st) <|
  need (1 ≤ deep ∧ deep - 1 ≤ st.2.1.length ∧ st.2.1.length ≤ 1073741824) <|
  (forS 0 ((st.2.1.drop (deep - 1)).length : Int) st.1 fun i low => (idx (st.2.1.drop (deep - 1)) i).bind fun y => setI low y 9223372036854775807).bind fun low =>
  (partA st.2.2 (st.2.1.drop (deep - 1))).bind fun a => some (low, st.2.1.take (deep - 1), a)
noncomputable def visitB (rec : WalkS A → Int → Option (WalkS A)) (st : WalkS A) (x : Int) : Option (WalkS A) :=
  (app st.2.1 [x]).bind fun stk =>
  (setI st.1 x (stk.length : Int)).bind fun low =>
  need (∀ l ∈ ll, l.length ≤ 1073741824) <|
  (forS 0 ((fromD ll x n).length : Int) ((low, stk, st.2.2) : WalkS A) fun i st => (idx (fromD ll x n) i).bind fun to => toD ledA rec x to st).bind fun st =>
  doneD partA x stk.length st
noncomputable def visitD : Nat → WalkS A → Int → Option (WalkS A)
  | 0 => fun _ _ => none
  | k + 1 => visitB ll n ledA partA (visitD k)
end
/-- walk: all places, from the least on. -/
noncomputable def walkD {A : Type} (ll : List (List Int)) (n : Int) (ledA : A → Int → Int → Option A) (partA : A → List Int → Option A) (fuel : Nat) (a : A) : Option (WalkS A) :=
  need (0 ≤ n ∧ n ≤ 1073741824) <|
  forS 0 n ((List.replicate n.toNat (0 : Int), [], a) : WalkS A) fun i st => (idx st.1 i).bind fun e => cond (e == 0) (visitD ll n ledA partA fuel st i) (some st)
end Go.Proofs.YtbpbfoemghcfaaaDoor

/-
  THE ENGINE, PART P: plain rules for loops that are functions.
  Conditions: none; no program in sight.
-/
namespace Go.Eng
open Go

theorem idx_nat {α : Type} (l : List α) (k : Nat) : idx l (k : Int) = l[k]? := by
  unfold idx
  rw [if_pos (by omega), Int.toNat_natCast]
theorem idx_get {α : Type} {l : List α} {i : Int} (h0 : 0 ≤ i) (h1 : i.toNat < l.length) : idx l i = some l[i.toNat] := by
  unfold idx
  rw [if_pos h0, List.getElem?_eq_getElem h1]
theorem idx_lt {α : Type} {l : List α} {k : Nat} (h : k < l.length) : idx l (k : Int) = some l[k] := by
  rw [idx_nat, List.getElem?_eq_getElem h]
theorem app_ok {α : Type} {l m : List α} (h : l.length + m.length ≤ 1073741824) : app l m = some (l ++ m) := by unfold app; rw [if_pos h]
theorem cut_ok {α : Type} {l : List α} {a b : Int} (h0 : 0 ≤ a) (h1 : a ≤ b) (h2 : b ≤ (l.length : Int)) : cut l a b = some ((l.take b.toNat).drop a.toNat) := by unfold cut; rw [if_pos ⟨h0, h1, h2⟩]
theorem setI_ok {α : Type} {l : List α} {i : Int} {x : α} (h0 : 0 ≤ i) (h1 : i < (l.length : Int)) : setI l i x = some (l.set i.toNat x) := by unfold setI; rw [if_pos ⟨h0, h1⟩]
theorem need_ok {α : Type} {p : Prop} [Decidable p] (h : p) (k : Option α) : need p k = k := by unfold need; rw [if_pos h]
theorem bind_some' {α β : Type} {o : Option α} {x : α} (h : o = some x) (f : α → Option β) : o.bind f = f x := by rw [h]; rfl

theorem snoc_ind {α : Type} {P : List α → Prop} (h0 : P []) (hs : ∀ l x, P l → P (l ++ [x])) : ∀ l, P l := fun l => by
  have : ∀ r : List α, P r.reverse := fun r => by
    induction r with
    | nil => exact h0
    | cons x r ih => rw [List.reverse_cons]; exact hs _ _ ih
  have := this l.reverse
  rwa [List.reverse_reverse] at this
theorem forGoS_inv {σ : Type} {f : Int → σ → Option σ} (I : Int → σ → Prop) : ∀ (n : Nat) (i : Int) (s : σ), I i s → (∀ j s, i ≤ j → j < i + n → I j s → ∃ s', f j s = some s' ∧ I (j + 1) s') → ∃ s', forGoS f n i s = some s' ∧ I (i + n) s' := by
  intro n
  induction n with
  | zero => intro i s hI _; exact ⟨s, rfl, by simpa using hI⟩
  | succ n ih =>
    intro i s hI hs
    obtain ⟨s', h1, h2⟩ := hs i s (Int.le_refl _) (by omega) hI
    obtain ⟨s'', h3, h4⟩ := ih (i + 1) s' h2 fun j s hj hj' => hs j s (by omega) (by omega)
    refine ⟨s'', by simp only [forGoS]; rw [h1]; exact h3, ?_⟩
    rw [show i + (n + 1 : Nat) = i + 1 + n by omega]
    exact h4
theorem forS_inv {σ : Type} {f : Int → σ → Option σ} {n : Nat} (I : Nat → σ → Prop) (hn : n ≤ 9223372036854775807) {s : σ} (h0 : I 0 s) (hs : ∀ k s, k < n → I k s → ∃ s', f (k : Int) s = some s' ∧ I (k + 1) s') : ∃ s', forS 0 (n : Int) s f = some s' ∧ I n s' := by
  unfold forS
  rw [if_pos ⟨by omega, by omega⟩]
  obtain ⟨s', h1, h2⟩ := forGoS_inv (f := f) (fun i s => I i.toNat s) ((n : Int) - 0).toNat 0 s (by simpa using h0) fun j s hj hj' hI => by
    obtain ⟨s', h1, h2⟩ := hs j.toNat s (by omega) hI
    refine ⟨s', by rw [← h1, show ((j.toNat : Nat) : Int) = j by omega], by rw [show (j + 1).toNat = j.toNat + 1 by omega]; exact h2⟩
  refine ⟨s', h1, ?_⟩
  have e : ((0 : Int) + (((n : Int) - 0).toNat : Nat)).toNat = n := by omega
  rw [e] at h2
  exact h2
theorem forGo_inv {σ β : Type} {f : Int → σ → Option (Step σ β)} (I : Int → σ → Prop) (B : β → Prop) : ∀ (n : Nat) (i : Int) (s : σ), I i s → (∀ j s, i ≤ j → j < i + n → I j s → (∃ s', f j s = some (.next s') ∧ I (j + 1) s') ∨ ∃ b, f j s = some (.done b) ∧ B b) →
    (∃ s', forGo f n i s = some (.next s') ∧ I (i + n) s') ∨ ∃ b, forGo f n i s = some (.done b) ∧ B b := by
  intro n
  induction n with
  | zero => intro i s hI _; exact .inl ⟨s, rfl, by simpa using hI⟩
  | succ n ih =>
    intro i s hI hs
    rcases hs i s (Int.le_refl _) (by omega) hI with ⟨s', h1, h2⟩ | ⟨b, h1, h2⟩
    · rcases ih (i + 1) s' h2 fun j s hj hj' => hs j s (by omega) (by omega) with ⟨s'', h3, h4⟩ | ⟨b, h3, h4⟩
      · left
        refine ⟨s'', by simp only [forGo]; rw [h1]; exact h3, ?_⟩
        rw [show i + (n + 1 : Nat) = i + 1 + n by omega]
        exact h4
      · exact .inr ⟨b, by simp only [forGo]; rw [h1]; exact h3, h4⟩
    · exact .inr ⟨b, by simp only [forGo]; rw [h1]; rfl, h2⟩
theorem forN_inv {σ β : Type} {f : Int → σ → Option (Step σ β)} {n : Nat} (I : Nat → σ → Prop) (B : β → Prop) (hn : n ≤ 9223372036854775807) {s : σ} (h0 : I 0 s)
    (hs : ∀ k s, k < n → I k s → (∃ s', f (k : Int) s = some (.next s') ∧ I (k + 1) s') ∨ ∃ b, f (k : Int) s = some (.done b) ∧ B b) :
    (∃ s', forN 0 (n : Int) s f = some (.next s') ∧ I n s') ∨ ∃ b, forN 0 (n : Int) s f = some (.done b) ∧ B b := by
  unfold forN
  rw [if_pos ⟨by omega, by omega⟩]
  rcases forGo_inv (fun i s => I i.toNat s) B ((n : Int) - 0).toNat 0 s (by simpa using h0) (fun j s hj hj' hI => by
    have e : ((j.toNat : Nat) : Int) = j := by omega
    rcases hs j.toNat s (by omega) hI with ⟨s', h1, h2⟩ | ⟨b, h1, h2⟩
    · exact .inl ⟨s', by rw [← h1, e], by rw [show (j + 1).toNat = j.toNat + 1 by omega]; exact h2⟩
    · exact .inr ⟨b, by rw [← h1, e], h2⟩) with ⟨s', h1, h2⟩ | h
  · left
    refine ⟨s', h1, ?_⟩
    have e : ((0 : Int) + (((n : Int) - 0).toNat : Nat)).toNat = n := by omega
    rw [e] at h2
    exact h2
  · exact .inr h
/-- A counted loop that is never left early. -/
theorem forN_all {σ β : Type} {f : Int → σ → Option (Step σ β)} {n : Nat} (I : Nat → σ → Prop) (hn : n ≤ 9223372036854775807) {s : σ} (h0 : I 0 s)
    (hs : ∀ k s, k < n → I k s → ∃ s', f (k : Int) s = some (.next s') ∧ I (k + 1) s') : ∃ s', forN 0 (n : Int) s f = some (.next s') ∧ I n s' := by
  rcases forN_inv I (fun _ => False) hn h0 (fun k s hk hI => .inl (hs k s hk hI)) with h | ⟨_, _, h⟩
  · exact h
  · exact h.elim
theorem loop_inv {σ β : Type} {f : σ → Option (Step σ β)} (I : σ → Prop) (μ : σ → Nat) (B : β → Prop) (hs : ∀ s, I s → (∃ s', f s = some (.next s') ∧ I s' ∧ μ s' < μ s) ∨ ∃ b, f s = some (.done b) ∧ B b) : ∀ {s : σ}, I s → ∃ b, loop s f = some b ∧ B b := by
  intro s
  generalize hm : μ s = m
  induction m using Nat.strongRecOn generalizing s with
  | ind m ih =>
    intro hI
    rw [loop_eq]
    rcases hs s hI with ⟨s', h1, h2, h3⟩ | ⟨b, h1, h2⟩
    · rw [h1]
      exact ih (μ s') (by omega) rfl h2
    · rw [h1]
      exact ⟨b, rfl, h2⟩
/-- A loop that counts, told by what holds at its end. -/
theorem some_of {α : Type} {o : Option α} {P : α → Prop} {x : α} (h : ∃ y, o = some y ∧ P y) (hu : ∀ y, P y → y = x) : o = some x := by
  obtain ⟨y, h1, h2⟩ := h
  rw [h1, hu y h2]
end Go.Eng

/-
  DIGRAPH, PLAIN: what walk tells: each edge, and the places that reach one another, once; whatever is done with that.
  Conditions: at most a thousand places.
-/
namespace Go.Proofs.YtbpbfoemghcfaaaDoor
open Go Go.Eng
set_option linter.unusedVariables false

abbrev MaxI : Int := 9223372036854775807
/-- What low has of a place; nought, if there is none. -/
def lv (low : List Int) (v : Int) : Int := (idx low v).getD 0
theorem idx_lv {low : List Int} {v : Int} (h0 : 0 ≤ v) (h1 : v < (low.length : Int)) : idx low v = some (lv low v) := by
  have : idx low v = some low[v.toNat] := idx_get h0 (by omega)
  unfold lv
  rw [this]; rfl
theorem lv_out {low : List Int} {v : Int} (h : v < 0 ∨ (low.length : Int) ≤ v) : lv low v = 0 := by
  unfold lv idx
  split
  · rw [List.getElem?_eq_none (by omega)]; rfl
  · rfl
theorem lv_set {low : List Int} {x e : Int} (h0 : 0 ≤ x) (h1 : x < (low.length : Int)) (v : Int) : lv (low.set x.toNat e) v = if v = x then e else lv low v := by
  by_cases hv : v = x
  · subst hv
    rw [if_pos rfl]
    unfold lv idx
    rw [if_pos h0, List.getElem?_set, if_pos rfl, if_pos (by omega)]
    rfl
  · rw [if_neg hv]
    unfold lv idx
    split
    · rw [List.getElem?_set, if_neg (by omega)]
    · rfl
inductive Reach (ll : List (List Int)) (n : Int) : Int → Int → Prop where
  | refl (x : Int) : Reach ll n x x
  | step {x y z : Int} : y ∈ fromD ll x n → Reach ll n y z → Reach ll n x z
theorem Reach.trans {ll : List (List Int)} {n x y z : Int} (h : Reach ll n x y) (k : Reach ll n y z) : Reach ll n x z := by
  induction h with
  | refl => exact k
  | step e _ ih => exact .step e (ih k)
theorem Reach.one {ll : List (List Int)} {n x y : Int} (h : y ∈ fromD ll x n) : Reach ll n x y := .step h (.refl _)
theorem from_range {ll : List (List Int)} {n x y : Int} (h : y ∈ fromD ll x n) : 0 ≤ y ∧ y < n := by
  unfold fromD at h
  split at h
  · cases h
  · have := (List.mem_filter.1 h).2
    unfold outOf at this
    simp at this
    omega
theorem Reach.closed {ll : List (List Int)} {n : Int} {D : Int → Prop} (hD : ∀ v w, D v → w ∈ fromD ll v n → D w) {x y : Int} (h : Reach ll n x y) : D x → D y := by
  induction h with
  | refl => exact id
  | step e _ ih => exact fun hx => ih (hD _ _ hx e)
/-- What is done with what walk tells. -/
structure Told (ll : List (List Int)) (n : Int) {A : Type} (ledA : A → Int → Int → Option A) (partA : A → List Int → Option A) where
  I : (Int → Prop) → A → Prop
  Q : A → Int → Int → Prop
  led : ∀ {D : Int → Prop} {a : A} {x to : Int}, I D a → 0 ≤ x → x < n → to ∈ fromD ll x n → D to ∨ Reach ll n to x → ¬ D x → ∃ a', ledA a x to = some a' ∧ I D a' ∧ Q a' x to ∧ ∀ y z, Q a y z → Q a' y z
  part : ∀ {D : Int → Prop} {a : A} {l : List Int}, I D a → l ≠ [] → l.Nodup → (∀ v ∈ l, 0 ≤ v ∧ v < n ∧ ¬ D v) → (∀ v ∈ l, ∀ w ∈ fromD ll v n, Q a v w ∧ (D w ∨ w ∈ l)) → (∀ v ∈ l, ∀ z, z ∈ l ↔ Reach ll n v z ∧ Reach ll n z v) →
    ∃ a', partA a l = some a' ∧ I (fun v => D v ∨ v ∈ l) a' ∧ ∀ y z, Q a y z → Q a' y z
section
variable (ll : List (List Int)) (n : Int)
structure Inv (low stk : List Int) : Prop where
  len : (low.length : Int) = n
  on : ∀ (i : Nat) (v : Int), stk[i]? = some v → 0 ≤ v ∧ v < n ∧ 1 ≤ lv low v ∧ lv low v ≤ (i : Int) + 1
  off : ∀ v : Int, 0 ≤ v → v < n → v ∉ stk → lv low v = 0 ∨ lv low v = MaxI
  nodup : stk.Nodup
  back : ∀ (i : Nat) (v : Int), stk[i]? = some v → ∃ (j : Nat) (u : Int), lv low v = (j : Int) + 1 ∧ stk[j]? = some u ∧ Reach ll n v u
  clo : ∀ v w : Int, lv low v = MaxI → w ∈ fromD ll v n → lv low w = MaxI
variable {ll : List (List Int)} {n : Int}
theorem Inv.size {low stk : List Int} (H : Inv ll n low stk) : stk.length ≤ low.length := by
  have h := List.Nodup.length_le_of_subset (l₂ := (List.range low.length).map fun k : Nat => (k : Int)) H.nodup (fun v hv => by
    obtain ⟨i, hi⟩ := List.getElem?_of_mem hv
    have := H.on i v hi
    have hl := H.len
    exact List.mem_map.2 ⟨v.toNat, List.mem_range.2 (by omega), by omega⟩)
  simpa using h
theorem Inv.mem {low stk : List Int} (H : Inv ll n low stk) (hn : n ≤ 1000) {v : Int} (h0 : 0 ≤ v) (h1 : v < n) (hv : lv low v ≠ 0) (hm : lv low v ≠ MaxI) : ∃ i : Nat, stk[i]? = some v := by
  by_cases h : v ∈ stk
  · exact List.getElem?_of_mem h
  · rcases H.off v h0 h1 h with h | h
    · exact absurd h hv
    · exact absurd h hm
theorem Inv.notMax {low stk : List Int} (H : Inv ll n low stk) (hn : n ≤ 1000) {i : Nat} {v : Int} (h : stk[i]? = some v) : lv low v ≠ MaxI := by
  have h1 := (H.on i v h).2.2.2
  have h2 := H.size
  have h3 := H.len
  have h4 : i < stk.length := by
    rcases Nat.lt_or_ge i stk.length with g | g
    · exact g
    · rw [List.getElem?_eq_none g] at h; cases h
  intro h5
  rw [h5] at h1
  simp only [MaxI] at h1
  omega
theorem lt_of_some {α : Type} {l : List α} {i : Nat} {v : α} (h : l[i]? = some v) : i < l.length := by
  rcases Nat.lt_or_ge i l.length with g | g
  · exact g
  · rw [List.getElem?_eq_none g] at h; cases h
/-- Counting what has not been gone through. -/
theorem count_le {low low' : List Int} (hl : low'.length = low.length) (h : ∀ v, lv low v ≠ 0 → lv low' v ≠ 0) : low'.count 0 ≤ low.count 0 := by
  have key : ∀ (l l' : List Int), l'.length = l.length → (∀ i : Nat, (l[i]?).getD 0 ≠ 0 → (l'[i]?).getD 0 ≠ 0) → l'.count 0 ≤ l.count 0 := by
    intro l
    induction l with
    | nil => intro l' hl _; rw [List.eq_nil_of_length_eq_zero hl]; exact Nat.le_refl _
    | cons x l ih =>
      intro l' hl h
      cases l' with
      | nil => simp
      | cons y l' =>
        have h1 := ih l' (by simpa using hl) fun i hi => by simpa using h (i + 1) (by simpa using hi)
        have h0 := h 0
        simp only [List.getElem?_cons_zero, Option.getD_some] at h0
        rw [List.count_cons, List.count_cons]
        by_cases hx : x = 0
        · subst hx
          simp only [beq_self_eq_true, if_true]
          split <;> omega
        · have := h0 hx
          rw [if_neg (by simpa using this), if_neg (by simpa using hx)]
          omega
  refine key low low' hl fun i hi => ?_
  have := h (i : Int)
  unfold lv at this
  rw [idx_nat, idx_nat] at this
  exact this hi
theorem count_set {low : List Int} {x e : Int} (h0 : 0 ≤ x) (h1 : x < (low.length : Int)) (hx : lv low x = 0) (he : e ≠ 0) : (low.set x.toNat e).count 0 + 1 ≤ low.count 0 := by
  have key : ∀ (l : List Int) (i : Nat), l[i]? = some 0 → (l.set i e).count 0 + 1 ≤ l.count 0 := by
    intro l
    induction l with
    | nil => intro i h; simp at h
    | cons y l ih =>
      intro i h
      cases i with
      | zero =>
        simp only [List.getElem?_cons_zero, Option.some.injEq] at h
        subst h
        rw [List.set_cons_zero, List.count_cons, List.count_cons]
        simp [he]
      | succ i =>
        have := ih i (by simpa using h)
        rw [List.set_cons_succ, List.count_cons, List.count_cons]
        omega
  refine key low x.toNat ?_
  have := idx_lv (low := low) h0 h1
  unfold idx at this
  rw [if_pos h0, hx] at this
  exact this
end
section
variable {ll : List (List Int)} {n : Int} {A : Type} {ledA : A → Int → Int → Option A} {partA : A → List Int → Option A} (S : Told ll n ledA partA)
abbrev Dn (low : List Int) (v : Int) : Prop := lv low v = MaxI
structure Post (low stk : List Int) (x : Int) (a : A) (low' ext : List Int) (a' : A) : Prop where
  inv : Inv ll n low' (stk ++ ext)
  keep : ∀ v : Int, lv low v ≠ 0 → lv low' v = lv low v
  seen : lv low' x ≠ 0
  fresh : ∀ v ∈ ext, lv low v = 0
  reach : ∀ v ∈ ext, Reach ll n x v
  strict : ∀ (i : Nat) (v : Int), ext[i]? = some v → lv low' x ≤ lv low' v ∧ lv low' v < (stk.length : Int) + i + 1
  edges : ∀ v ∈ ext, ∀ w ∈ fromD ll v n, lv low' w ≠ 0 ∧ S.Q a' v w ∧ ∀ i : Nat, stk[i]? = some w → lv low' v ≤ (i : Int) + 1
  ok : S.I (Dn low') a'
  mono : ∀ y z : Int, S.Q a y z → S.Q a' y z
structure Round (low0 stk : List Int) (x : Int) (a0 : A) (es : List Int) (q : Int) (low ext : List Int) (a : A) : Prop where
  inv : Inv ll n low (stk ++ x :: ext)
  keep : ∀ v : Int, lv low0 v ≠ 0 → lv low v = lv low0 v
  fresh : ∀ v ∈ ext, lv low0 v = 0
  reach : ∀ v ∈ ext, Reach ll n x v
  strict : ∀ (i : Nat) (v : Int), ext[i]? = some v → (lv low x ≤ lv low v ∨ q ≤ lv low v) ∧ lv low v < (stk.length : Int) + i + 2
  edges : ∀ v ∈ ext, ∀ w ∈ fromD ll v n, lv low w ≠ 0 ∧ S.Q a v w ∧ ∀ i : Nat, stk[i]? = some w → lv low v ≤ (i : Int) + 1
  own : ∀ w ∈ es, lv low w ≠ 0 ∧ S.Q a x w ∧ ∀ i : Nat, stk[i]? = some w → lv low x ≤ (i : Int) + 1
  ok : S.I (Dn low) a
  mono : ∀ y z : Int, S.Q a0 y z → S.Q a y z
theorem at_x (stk : List Int) (x : Int) (ext : List Int) : (stk ++ x :: ext)[stk.length]? = some x := by
  rw [List.getElem?_append_right (Nat.le_refl _), Nat.sub_self]; rfl
theorem at_stk {stk : List Int} {i : Nat} {v : Int} (h : stk[i]? = some v) (r : List Int) : (stk ++ r)[i]? = some v := by
  rw [List.getElem?_append_left (lt_of_some h)]; exact h
theorem at_ext {stk : List Int} {x : Int} {ext : List Int} {i : Nat} {v : Int} (h : ext[i]? = some v) : (stk ++ x :: ext)[stk.length + 1 + i]? = some v := by
  rw [List.getElem?_append_right (by omega), show stk.length + 1 + i - stk.length = i + 1 by omega]
  exact h
theorem split_at {stk : List Int} {x : Int} {ext : List Int} {i : Nat} {v : Int} (h : (stk ++ x :: ext)[i]? = some v) : (stk[i]? = some v) ∨ (i = stk.length ∧ v = x) ∨ ∃ k, i = stk.length + 1 + k ∧ ext[k]? = some v := by
  rcases Nat.lt_trichotomy i stk.length with g | g | g
  · left; rw [List.getElem?_append_left g] at h; exact h
  · right; left
    subst g
    rw [at_x] at h
    exact ⟨rfl, (Option.some.inj h).symm⟩
  · right; right
    refine ⟨i - stk.length - 1, by omega, ?_⟩
    rw [List.getElem?_append_right (by omega), show i - stk.length = (i - stk.length - 1) + 1 by omega] at h
    exact h
/-- All on the stack reach the place at its head. -/
theorem Round.all {low0 stk : List Int} {x q : Int} {a0 : A} {es low ext : List Int} {a : A} (R : Round S low0 stk x a0 es q low ext a) (hx : ∀ u ∈ stk, Reach ll n u x) : ∀ (i : Nat) (v : Int), (stk ++ x :: ext)[i]? = some v → Reach ll n v x := by
  intro i
  induction i using Nat.strongRecOn with
  | ind i ih =>
    intro v hv
    rcases split_at hv with h | ⟨_, rfl⟩ | ⟨k, rfl, hk⟩
    · exact hx v (List.mem_of_getElem? h)
    · exact .refl _
    · obtain ⟨j, u, e1, e2, e3⟩ := R.inv.back _ v hv
      have := (R.strict k v hk).2
      exact e3.trans (ih j (by omega) u e2)
variable {low0 stk : List Int} {x q : Int} {a0 : A} {es low ext : List Int} {a : A}
theorem Round.not_stk (R : Round S low0 stk x a0 es q low ext a) {v : Int} (hv : v ∈ x :: ext) : v ∉ stk := fun h => by
  have := (List.nodup_append.1 R.inv.nodup).2.2
  exact this v h v hv rfl
theorem Round.not_x (R : Round S low0 stk x a0 es q low ext a) {v : Int} (hv : v ∈ ext) : v ≠ x := fun h => by
  have := (List.nodup_append.1 R.inv.nodup).2.1
  rw [List.nodup_cons] at this
  subst h
  exact this.1 hv
theorem Round.x_on (R : Round S low0 stk x a0 es q low ext a) : 0 ≤ x ∧ x < n ∧ 1 ≤ lv low x ∧ lv low x ≤ (stk.length : Int) + 1 := R.inv.on _ _ (at_x stk x ext)
theorem Round.begin (hn : n ≤ 1000) (H : Inv ll n low0 stk) (h0 : 0 ≤ x) (h1 : x < n) (hx : lv low0 x = 0) (hI : S.I (Dn low0) a0) : Round S low0 stk x a0 [] (lv (low0.set x.toNat ((stk.length : Int) + 1)) x) (low0.set x.toNat ((stk.length : Int) + 1)) [] a0 := by
  have hlen := H.len
  have hsz := H.size
  have hs := fun v => lv_set (low := low0) (x := x) (e := (stk.length : Int) + 1) h0 (by omega) v
  have hxs : x ∉ stk := fun h => by
    obtain ⟨i, hi⟩ := List.getElem?_of_mem h
    have := (H.on i x hi).2.2.1
    omega
  have hD : Dn (low0.set x.toNat ((stk.length : Int) + 1)) = Dn low0 := by
    funext v
    apply propext
    show lv _ v = MaxI ↔ lv low0 v = MaxI
    rw [hs]
    split
    · rename_i e; subst e; rw [hx]; simp only [MaxI]; omega
    · exact Iff.rfl
  have hne : ∀ {v : Int}, lv low0 v ≠ 0 → v ≠ x := fun h e => by subst e; exact h hx
  refine ⟨⟨?_, ?_, ?_, ?_, ?_, ?_⟩, ?_, ?_, ?_, ?_, ?_, ?_, ?_, ?_⟩
  · rw [List.length_set]; exact hlen
  · intro i v hv
    rcases split_at hv with h | ⟨rfl, rfl⟩ | ⟨k, _, hk⟩
    · have h2 := H.on i v h
      rw [hs, if_neg (hne (by omega))]
      exact h2
    · rw [hs, if_pos rfl]
      exact ⟨h0, h1, by omega, by omega⟩
    · simp at hk
  · intro v g0 g1 hv
    have hvx : v ≠ x := fun e => hv (by rw [e]; simp)
    rw [hs, if_neg hvx]
    exact H.off v g0 g1 fun h => hv (List.mem_append_left _ h)
  · rw [List.nodup_append]
    exact ⟨H.nodup, by simp, fun a ha b hb e => by simp at hb; subst hb; subst e; exact hxs ha⟩
  · intro i v hv
    rcases split_at hv with h | ⟨rfl, rfl⟩ | ⟨k, _, hk⟩
    · obtain ⟨j, u, e1, e2, e3⟩ := H.back i v h
      have h2 := H.on i v h
      exact ⟨j, u, by rw [hs, if_neg (hne (by omega))]; exact e1, at_stk e2 _, e3⟩
    · exact ⟨stk.length, v, by rw [hs, if_pos rfl], at_x _ _ _, .refl _⟩
    · simp at hk
  · intro v w hv hw
    have hv' : Dn low0 v := by rw [← hD]; exact hv
    have := H.clo v w hv' hw
    show Dn _ w
    rw [hD]
    exact this
  · intro v hv
    rw [hs, if_neg (hne hv)]
  · intro v hv; cases hv
  · intro v hv; cases hv
  · intro i v hv; simp at hv
  · intro v hv; cases hv
  · intro w hw; cases hw
  · rw [hD]; exact hI
  · exact fun y z h => h
/-- A place that was not gone through is gone through. -/
theorem Round.child (R : Round S low0 stk x a0 es (lv low x) low ext a) {to : Int} {low' ext' : List Int} {a' : A} (hto : to ∈ fromD ll x n) (hz : lv low to = 0) (Po : Post S low (stk ++ x :: ext) to a low' ext' a') : Round S low0 stk x a0 es (lv low' to) low' (ext ++ ext') a' := by
  have hx := R.x_on
  have hkx : lv low' x = lv low x := Po.keep x (by omega)
  have hon : ∀ v ∈ ext, lv low v ≠ 0 := fun v hv => by
    obtain ⟨i, hi⟩ := List.getElem?_of_mem hv
    have := (R.inv.on _ _ (at_ext (stk := stk) (x := x) hi)).2.2.1
    omega
  have hf0 : ∀ v, lv low v = 0 → lv low0 v = 0 := fun v hv => by
    by_cases h : lv low0 v = 0
    · exact h
    · have := R.keep v h
      omega
  refine ⟨?_, ?_, ?_, ?_, ?_, ?_, ?_, Po.ok, fun y z h => Po.mono y z (R.mono y z h)⟩
  · have := Po.inv
    rwa [List.append_assoc, List.cons_append] at this
  · intro v hv
    have h1 := R.keep v hv
    rw [Po.keep v (by rw [h1]; exact hv), h1]
  · intro v hv
    rcases List.mem_append.1 hv with h | h
    · exact R.fresh v h
    · exact hf0 v (Po.fresh v h)
  · intro v hv
    rcases List.mem_append.1 hv with h | h
    · exact R.reach v h
    · exact .step hto (Po.reach v h)
  · intro i v hv
    rcases Nat.lt_or_ge i ext.length with g | g
    · rw [List.getElem?_append_left g] at hv
      have h1 := R.strict i v hv
      rw [Po.keep v (hon v (List.mem_of_getElem? hv)), hkx]
      exact ⟨.inl (h1.1.elim id id), h1.2⟩
    · rw [List.getElem?_append_right g] at hv
      have h1 := Po.strict _ v hv
      refine ⟨.inr h1.1, ?_⟩
      have h2 := h1.2
      rw [List.length_append, List.length_cons] at h2
      omega
  · intro v hv w hw
    rcases List.mem_append.1 hv with h | h
    · obtain ⟨e1, e2, e3⟩ := R.edges v h w hw
      rw [Po.keep v (hon v h), Po.keep w e1]
      exact ⟨e1, Po.mono _ _ e2, e3⟩
    · obtain ⟨e1, e2, e3⟩ := Po.edges v h w hw
      exact ⟨e1, e2, fun i hi => e3 i (at_stk hi _)⟩
  · intro w hw
    obtain ⟨e1, e2, e3⟩ := R.own w hw
    rw [Po.keep w e1, hkx]
    exact ⟨e1, Po.mono _ _ e2, e3⟩
/-- What it is told, and its number, in the end. -/
theorem Round.upd (hn : n ≤ 1000) {to : Int} (hx : ∀ u ∈ stk, Reach ll n u x) (hz : lv low0 x = 0) (R : Round S low0 stk x a0 es (lv low to) low ext a) (hto : to ∈ fromD ll x n) (hne : lv low to ≠ 0) :
    ∃ a', ledA a x to = some a' ∧ Round S low0 stk x a0 (es ++ [to]) (lv (low.set x.toNat (if lv low to < lv low x then lv low to else lv low x)) x) (low.set x.toNat (if lv low to < lv low x then lv low to else lv low x)) ext a' := by
  have hxo := R.x_on
  have hsz := R.inv.size
  have hlen := R.inv.len
  rw [List.length_append, List.length_cons] at hsz
  obtain ⟨t0, t1⟩ := from_range hto
  have hD0 : ¬ Dn low x := fun h => by have h : lv low x = MaxI := h; simp only [MaxI] at h; omega
  have hto' : Dn low to ∨ ∃ i : Nat, (stk ++ x :: ext)[i]? = some to := by
    by_cases h : lv low to = MaxI
    · exact .inl h
    · exact .inr (R.inv.mem hn t0 t1 hne h)
  obtain ⟨a', h1, h2, h3, h4⟩ := S.led R.ok hxo.1 hxo.2.1 hto (hto'.imp id fun ⟨i, hi⟩ => R.all S hx i to hi) hD0
  refine ⟨a', h1, ?_⟩
  obtain ⟨m, hm⟩ : ∃ m, (if lv low to < lv low x then lv low to else lv low x) = m := ⟨_, rfl⟩
  rw [hm]
  have hq1 : 1 ≤ lv low to := by
    rcases hto' with h | ⟨i, hi⟩
    · have h : lv low to = MaxI := h
      rw [h]; decide
    · exact (R.inv.on i to hi).2.2.1
  have hmp : m ≤ lv low x := by rw [← hm]; split <;> omega
  have hmq : m ≤ lv low to := by rw [← hm]; split <;> omega
  have hm1 : 1 ≤ m := by rw [← hm]; split <;> omega
  have hs := fun v => lv_set (low := low) (x := x) (e := m) hxo.1 (by omega) v
  have hD : Dn (low.set x.toNat m) = Dn low := by
    funext v
    apply propext
    show lv _ v = MaxI ↔ lv low v = MaxI
    rw [hs]
    split
    · rename_i e; subst e; simp only [MaxI]; omega
    · exact Iff.rfl
  refine ⟨⟨?_, ?_, ?_, R.inv.nodup, ?_, ?_⟩, ?_, R.fresh, R.reach, ?_, ?_, ?_, ?_, fun y z h => h4 y z (R.mono y z h)⟩
  · rw [List.length_set]; exact hlen
  · intro i v hv
    obtain ⟨g1, g2, g3, g4⟩ := R.inv.on i v hv
    rw [hs]
    split
    · rename_i e; subst e; exact ⟨g1, g2, hm1, by omega⟩
    · exact ⟨g1, g2, g3, g4⟩
  · intro v g0 g1 hv
    have hvx : v ≠ x := fun e => hv (by rw [e]; simp)
    rw [hs, if_neg hvx]
    exact R.inv.off v g0 g1 hv
  · intro i v hv
    rw [hs]
    split
    · rename_i e
      subst e
      by_cases hlt : lv low to < lv low v
      · rw [if_pos hlt] at hm
        subst hm
        rcases hto' with h | ⟨k, hk⟩
        · have h : lv low to = MaxI := h
          rw [h] at hlt
          simp only [MaxI] at hlt
          omega
        · obtain ⟨j, u, e1, e2, e3⟩ := R.inv.back k to hk
          exact ⟨j, u, e1, e2, .step hto e3⟩
      · rw [if_neg hlt] at hm
        subst hm
        exact R.inv.back i v hv
    · exact R.inv.back i v hv
  · intro v w hv hw
    have hv' : Dn low v := by rw [← hD]; exact hv
    show Dn _ w
    rw [hD]
    exact R.inv.clo v w hv' hw
  · intro v hv
    have hvx : v ≠ x := fun e => hv (by rw [e]; exact hz)
    rw [hs, if_neg hvx]
    exact R.keep v hv
  · intro i v hv
    have hvx := R.not_x S (List.mem_of_getElem? hv)
    obtain ⟨g1, g2⟩ := R.strict i v hv
    rw [hs x, if_pos rfl, hs v, if_neg hvx]
    refine ⟨.inl ?_, g2⟩
    rcases g1 with g | g <;> omega
  · intro v hv w hw
    obtain ⟨e1, e2, e3⟩ := R.edges v hv w hw
    rw [hs v, if_neg (R.not_x S hv)]
    refine ⟨?_, h4 _ _ e2, e3⟩
    rw [hs]
    split <;> omega
  · intro w hw
    rw [hs x, if_pos rfl]
    refine ⟨?_, ?_, ?_⟩
    · rw [hs]
      split
      · omega
      · rcases List.mem_append.1 hw with h | h
        · exact (R.own w h).1
        · simp at h; subst h; exact hne
    · rcases List.mem_append.1 hw with h | h
      · exact h4 _ _ (R.own w h).2.1
      · simp at h; subst h; exact h3
    · intro i hi
      rcases List.mem_append.1 hw with h | h
      · have := (R.own w h).2.2 i hi; omega
      · simp at h
        subst h
        have := (R.inv.on i w (at_stk hi _)).2.2.2
        omega
  · rw [hD]; exact h2
/-- One goes back. -/
theorem Round.stay (hz : lv low0 x = 0) (R : Round S low0 stk x a0 (fromD ll x n) (lv low x) low ext a) (hne : lv low x ≠ (stk.length : Int) + 1) : Post S low0 stk x a0 low (x :: ext) a := by
  have hx := R.x_on
  refine ⟨R.inv, R.keep, by omega, ?_, ?_, ?_, ?_, R.ok, R.mono⟩
  · intro v hv
    rcases List.mem_cons.1 hv with h | h
    · rw [h]; exact hz
    · exact R.fresh v h
  · intro v hv
    rcases List.mem_cons.1 hv with h | h
    · rw [h]; exact .refl _
    · exact R.reach v h
  · intro i v hv
    cases i with
    | zero =>
      simp only [List.getElem?_cons_zero, Option.some.injEq] at hv
      subst hv
      exact ⟨Int.le_refl _, by omega⟩
    | succ i =>
      have := R.strict i v (by simpa using hv)
      exact ⟨this.1.elim id id, by omega⟩
  · intro v hv w hw
    rcases List.mem_cons.1 hv with h | h
    · subst h; exact R.own w hw
    · exact R.edges v h w hw
theorem set_all {low : List Int} : ∀ (l : List Int), (∀ v ∈ l, 0 ≤ v ∧ v < (low.length : Int)) → l.length ≤ 9223372036854775807 → ∃ low' : List Int, (forS 0 (l.length : Int) low fun i low => (idx l i).bind fun y => setI low y 9223372036854775807) = some low' ∧ low'.length = low.length ∧ ∀ v, lv low' v = if v ∈ l then MaxI else lv low v := by
  intro l hl hb
  obtain ⟨low', h1, h2, h3⟩ := forS_inv (f := fun i (low : List Int) => (idx l i).bind fun y => setI low y 9223372036854775807) (n := l.length) (fun k low' => low'.length = low.length ∧ ∀ v, lv low' v = if v ∈ l.take k then MaxI else lv low v) hb (s := low) ⟨rfl, fun v => by simp⟩ (fun k s hk ⟨g1, g2⟩ => by
    have hr := hl _ (List.getElem_mem hk)
    refine ⟨s.set (l[k]).toNat MaxI, by rw [idx_lt hk]; exact setI_ok hr.1 (by omega), by rw [List.length_set]; exact g1, fun v => ?_⟩
    rw [lv_set hr.1 (by omega), g2, List.take_succ_eq_append_getElem hk]
    by_cases e : v = l[k]
    · rw [if_pos e, if_pos (List.mem_append_right _ (by rw [e]; exact List.mem_singleton.2 rfl))]
    · rw [if_neg e]
      by_cases h : v ∈ l.take k
      · rw [if_pos h, if_pos (List.mem_append_left _ h)]
      · rw [if_neg h, if_neg fun g => (List.mem_append.1 g).elim h fun g => e (List.mem_singleton.1 g)])
  refine ⟨low', h1, h2, fun v => ?_⟩
  rw [h3, List.take_length]
/-- The places that reach one another are told. -/
theorem Round.pop (hn : n ≤ 1000) (hx : ∀ u ∈ stk, Reach ll n u x) (hz : lv low0 x = 0) (R : Round S low0 stk x a0 (fromD ll x n) (lv low x) low ext a) (he : lv low x = (stk.length : Int) + 1) {low' : List Int} (hlen' : low'.length = low.length) (hlow : ∀ v, lv low' v = if v ∈ x :: ext then MaxI else lv low v) :
    ∃ a', partA a (x :: ext) = some a' ∧ Post S low0 stk x a0 low' [] a' := by
  have hxo := R.x_on
  have hsz := R.inv.size
  have hlen := R.inv.len
  rw [List.length_append, List.length_cons] at hsz
  have hge : ∀ v ∈ x :: ext, (stk.length : Int) + 1 ≤ lv low v := fun v hv => by
    rcases List.mem_cons.1 hv with h | h
    · subst h; omega
    · obtain ⟨i, hi⟩ := List.getElem?_of_mem h
      have := (R.strict i v hi).1.elim id id
      omega
  have hed : ∀ v ∈ x :: ext, ∀ w ∈ fromD ll v n, lv low w ≠ 0 ∧ S.Q a v w ∧ ∀ i : Nat, stk[i]? = some w → lv low v ≤ (i : Int) + 1 := fun v hv w hw => by
    rcases List.mem_cons.1 hv with h | h
    · subst h; exact R.own w hw
    · exact R.edges v h w hw
  have hmem : ∀ v ∈ x :: ext, ∃ i : Nat, (stk ++ x :: ext)[i]? = some v := fun v hv => List.getElem?_of_mem (List.mem_append_right _ hv)
  have hcl : ∀ v ∈ x :: ext, ∀ w ∈ fromD ll v n, lv low w = MaxI ∨ w ∈ x :: ext := fun v hv w hw => by
    obtain ⟨e1, e2, e3⟩ := hed v hv w hw
    obtain ⟨w0, w1⟩ := from_range hw
    by_cases hM : lv low w = MaxI
    · exact .inl hM
    · obtain ⟨i, hi⟩ := R.inv.mem hn w0 w1 e1 hM
      rcases split_at hi with h | ⟨_, rfl⟩ | ⟨k, _, hk⟩
      · have h1 := e3 i h
        have h2 := hge v hv
        have h3 := lt_of_some h
        omega
      · exact .inr (by simp)
      · exact .inr (List.mem_cons_of_mem _ (List.mem_of_getElem? hk))
  have hnd : ∀ v ∈ x :: ext, ¬ lv low v = MaxI := fun v hv => by
    obtain ⟨i, hi⟩ := hmem v hv
    exact R.inv.notMax hn hi
  have hto : ∀ v ∈ x :: ext, Reach ll n x v ∧ Reach ll n v x := fun v hv => by
    obtain ⟨i, hi⟩ := hmem v hv
    refine ⟨?_, R.all S hx i v hi⟩
    rcases List.mem_cons.1 hv with h | h
    · rw [h]; exact .refl _
    · exact R.reach v h
  have hD : Dn low' = fun v => Dn low v ∨ v ∈ x :: ext := by
    funext v
    apply propext
    show lv low' v = MaxI ↔ _
    rw [hlow]
    split
    · exact ⟨fun _ => .inr (by assumption), fun _ => rfl⟩
    · exact ⟨fun h => .inl h, fun h => h.elim id fun g => absurd g (by assumption)⟩
  have hndp := (List.nodup_append.1 R.inv.nodup).2.1
  obtain ⟨a', h1, h2, h3⟩ := S.part (l := x :: ext) R.ok (by simp) hndp (fun v hv => by
    obtain ⟨i, hi⟩ := hmem v hv
    have := R.inv.on i v hi
    exact ⟨this.1, this.2.1, hnd v hv⟩) (fun v hv w hw => ⟨(hed v hv w hw).2.1, hcl v hv w hw⟩) (fun v hv z => by
    constructor
    · intro hzl
      exact ⟨(hto v hv).2.trans (hto z hzl).1, (hto z hzl).2.trans (hto v hv).1⟩
    · rintro ⟨g1, g2⟩
      rcases g1.closed (D := fun v => lv low v = MaxI ∨ v ∈ x :: ext) (fun v w hv hw => by
        rcases hv with h | h
        · exact .inl (R.inv.clo v w h hw)
        · exact hcl v h w hw) (.inr hv) with h | h
      · exact absurd (g2.closed (D := fun v => lv low v = MaxI) (fun v w hv hw => R.inv.clo v w hv hw) h) (hnd v hv)
      · exact h)
  refine ⟨a', h1, ⟨⟨?_, ?_, ?_, ?_, ?_, ?_⟩, ?_, ?_, ?_, ?_, ?_, ?_, ?_, fun y z h => h3 y z (R.mono y z h)⟩⟩
  · rw [hlen']; exact hlen
  · intro i v hv
    rw [List.append_nil] at hv
    have hns : v ∉ x :: ext := fun h => R.not_stk S h (List.mem_of_getElem? hv)
    rw [hlow, if_neg hns]
    exact R.inv.on i v (at_stk hv _)
  · intro v g0 g1 hv
    rw [List.append_nil] at hv
    rw [hlow]
    split
    · exact .inr rfl
    · rename_i h
      exact R.inv.off v g0 g1 fun g => (List.mem_append.1 g).elim hv h
  · rw [List.append_nil]
    exact (List.nodup_append.1 R.inv.nodup).1
  · intro i v hv
    rw [List.append_nil] at hv ⊢
    have hns : v ∉ x :: ext := fun h => R.not_stk S h (List.mem_of_getElem? hv)
    obtain ⟨j, u, e1, e2, e3⟩ := R.inv.back i v (at_stk hv _)
    have h4 := (R.inv.on i v (at_stk hv _)).2.2.2
    have h5 := lt_of_some hv
    refine ⟨j, u, by rw [hlow, if_neg hns]; exact e1, ?_, e3⟩
    rw [List.getElem?_append_left (by omega)] at e2
    exact e2
  · intro v w hv hw
    have hv' : Dn low v ∨ v ∈ x :: ext := by
      have : Dn low' v := hv
      rwa [hD] at this
    show Dn low' w
    rw [hD]
    rcases hv' with h | h
    · exact .inl (R.inv.clo v w h hw)
    · exact hcl v h w hw
  · intro v hv
    have hns : v ∉ x :: ext := fun h => by
      rcases List.mem_cons.1 h with h | h
      · rw [h] at hv; exact hv hz
      · exact hv (R.fresh v h)
    rw [hlow, if_neg hns]
    exact R.keep v hv
  · rw [hlow, if_pos (by simp)]; decide
  · intro v hv; cases hv
  · intro v hv; cases hv
  · intro i v hv; simp at hv
  · intro v hv; cases hv
  · rw [hD]; exact h2
theorem visit_spec (hn : n ≤ 1000) (hll : ∀ l ∈ ll, l.length ≤ 1073741824) : ∀ (fuel : Nat) (low stk : List Int) (a : A) (x : Int), Inv ll n low stk → 0 ≤ x → x < n → lv low x = 0 → (∀ u ∈ stk, Reach ll n u x) → S.I (Dn low) a → low.count 0 ≤ fuel →
    ∃ low' ext a', visitD ll n ledA partA fuel (low, stk, a) x = some (low', stk ++ ext, a') ∧ Post S low stk x a low' ext a' := by
  intro fuel
  induction fuel with
  | zero =>
    intro low stk a x H h0 h1 hx _ _ hc
    have hlen := H.len
    have := count_set (e := 1) h0 (by omega) hx (by decide)
    omega
  | succ f ih =>
    intro low stk a x H h0 h1 hx hr hI hc
    have hlen := H.len
    have hsz := H.size
    have hfl : (fromD ll x n).length ≤ 1073741824 := by
      unfold fromD
      split
      · simp
      · refine Nat.le_trans (List.length_filter_le _ _) ?_
        cases hg : ll[x.toNat]? with
        | none => simp
        | some l => exact hll l (List.mem_of_getElem? hg)
    show ∃ low' ext a', visitB ll n ledA partA (visitD ll n ledA partA f) (low, stk, a) x = some (low', stk ++ ext, a') ∧ _
    unfold visitB
    dsimp only
    rw [app_ok (by simp; omega), Option.bind_some, setI_ok h0 (by omega), Option.bind_some, need_ok hll]
    have hst : (((stk ++ [x]).length : Nat) : Int) = (stk.length : Int) + 1 := by simp
    rw [hst]
    have hc1 := count_set (e := (stk.length : Int) + 1) h0 (by omega) hx (by omega)
    obtain ⟨st, e1, low1, ext1, a1, rfl, R, hc2⟩ := forS_inv (f := fun i st => (idx (fromD ll x n) i).bind fun to => toD ledA (visitD ll n ledA partA f) x to st) (n := (fromD ll x n).length)
      (fun k st => ∃ low1 ext1 a1, st = ((low1, stk ++ x :: ext1, a1) : WalkS A) ∧ Round S low stk x a ((fromD ll x n).take k) (lv low1 x) low1 ext1 a1 ∧ low1.count 0 ≤ f) (by omega) (s := ((low.set x.toNat ((stk.length : Int) + 1), stk ++ [x], a) : WalkS A))
      ⟨_, [], a, rfl, by rw [List.take_zero]; exact Round.begin S hn H h0 h1 hx hI, by omega⟩ (fun k st hk ⟨low1, ext1, a1, e, R, hc2⟩ => by
        subst e
        have hto := List.getElem_mem hk
        obtain ⟨t0, t1⟩ := from_range hto
        have hl1 := R.inv.len
        rw [idx_lt hk, Option.bind_some, List.take_succ_eq_append_getElem hk]
        generalize (fromD ll x n)[k] = to at *
        unfold toD
        dsimp only
        rw [idx_lv t0 (by omega), Option.bind_some]
        have mid : ∃ low2 ext2 a2, (cond (lv low1 to == 0) (visitD ll n ledA partA f (low1, stk ++ x :: ext1, a1) to) (some (low1, stk ++ x :: ext1, a1))) = some (low2, stk ++ x :: ext2, a2) ∧ Round S low stk x a ((fromD ll x n).take k) (lv low2 to) low2 ext2 a2 ∧ lv low2 to ≠ 0 ∧ low2.count 0 ≤ f := by
          by_cases hz : lv low1 to = 0
          · rw [show (lv low1 to == 0) = true by simp [hz], cond_true]
            obtain ⟨low2, ext2, a2, g1, g2⟩ := ih low1 (stk ++ x :: ext1) a1 to R.inv t0 t1 hz (fun u hu => by
              obtain ⟨i, hi⟩ := List.getElem?_of_mem hu
              exact (R.all S hr i u hi).trans (.one hto)) R.ok hc2
            refine ⟨low2, ext1 ++ ext2, a2, by rw [g1, List.append_assoc, List.cons_append], R.child S hto hz g2, g2.seen, ?_⟩
            have hl2 := g2.inv.len
            exact Nat.le_trans (count_le (by omega) fun v hv => by rw [g2.keep v hv]; exact hv) hc2
          · rw [show (lv low1 to == 0) = false by simp [hz], cond_false]
            exact ⟨low1, ext1, a1, rfl, ⟨R.inv, R.keep, R.fresh, R.reach, fun i v hv => ⟨.inl ((R.strict i v hv).1.elim id id), (R.strict i v hv).2⟩, R.edges, R.own, R.ok, R.mono⟩, hz, hc2⟩
        obtain ⟨low2, ext2, a2, g1, R2, hne, hc3⟩ := mid
        have hl2 := R2.inv.len
        have hx2 := R2.x_on
        rw [g1]
        simp only [Option.bind_some]
        rw [idx_lv h0 (by omega), Option.bind_some, idx_lv t0 (by omega), Option.bind_some, setI_ok h0 (by omega), Option.bind_some]
        obtain ⟨a3, g3, R3⟩ := R2.upd S hn hr hx hto hne
        refine ⟨_, by rw [g3]; rfl, _, ext2, a3, rfl, R3, ?_⟩
        refine Nat.le_trans (count_le (by simp) fun v hv => ?_) hc3
        rw [lv_set h0 (by omega)]
        split
        · have : 1 ≤ lv low2 to := by
            by_cases hM : lv low2 to = MaxI
            · rw [hM]; decide
            · obtain ⟨i, hi⟩ := R2.inv.mem hn t0 t1 hne hM
              exact (R2.inv.on i to hi).2.2.1
          split <;> omega
        · exact hv)
    rw [List.take_length] at R
    have hl1 := R.inv.len
    have hs1 := R.inv.size
    have hxo := R.x_on
    rw [e1, Option.bind_some]
    unfold doneD
    dsimp only
    rw [idx_lv h0 (by omega), Option.bind_some, hst]
    by_cases hd : lv low1 x = (stk.length : Int) + 1
    · rw [show (lv low1 x != (stk.length : Int) + 1) = false by simp [hd], cond_false]
      have hsn : (stk ++ [x]).length = stk.length + 1 := by simp
      rw [hsn, need_ok ⟨by omega, by simp, by omega⟩]
      have hdr : (stk ++ x :: ext1).drop (stk.length + 1 - 1) = x :: ext1 := by simp
      have htk : (stk ++ x :: ext1).take (stk.length + 1 - 1) = stk := by simp
      rw [hdr, htk]
      obtain ⟨low2, g1, g2, g3⟩ := set_all (low := low1) (x :: ext1) (fun v hv => by
        obtain ⟨i, hi⟩ := List.getElem?_of_mem (List.mem_append_right stk hv)
        have := R.inv.on i v hi
        exact ⟨this.1, by omega⟩) (by rw [List.length_append] at hs1; omega)
      obtain ⟨a2, g4, g5⟩ := R.pop S hn hr hx hd g2 g3
      exact ⟨low2, [], a2, by rw [g1, Option.bind_some, g4, List.append_nil]; rfl, g5⟩
    · rw [show (lv low1 x != (stk.length : Int) + 1) = true by simp [hd], cond_true]
      exact ⟨low1, x :: ext1, a1, rfl, R.stay S hx hd⟩
end
end Go.Proofs.YtbpbfoemghcfaaaDoor
