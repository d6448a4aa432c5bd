/-
  EngI, EngJ, DenS, EngU, EngV, EngW, EngS, EngX, EngT, EngZ, EngM, EngK, EngY, EngN, EngL, put together.
  Conditions: none; each part tells its own.
-/
import Derived.Test.YteligkemohngiaaGreatDoorKt1
import Derived.Scope
import Derived.Recover
import Derived.Test.YteligkemohngiaaGreatDoorProg
import Derived.KernelRfl
import Derived.Below
import Derived.IntWalk
import Derived.Sort.Grow
/-
  THE ENGINE, PART I: the tree of a piece of code, and of a function; what it promises the function does.
  Conditions: the program follows 'mixedOrders' (each loaded program of the kit does).
-/
namespace Go.Eng
open Go

def writes : Code → List Nat
  | .region _ ops _ => ops.toList.filterMap (·.dst)
  | .seq x y => writes x ++ writes y
  | .cond _ x y => writes x ++ writes y
  | .block _ x => writes x
  | .loop x => writes x
  | .scope x => writes x
  | _ => []
/-- May a piece of code come to its own end? (That a piece is asked here changes how its tree is laid out, not what it promises.) -/
def exits (id : Nat) : Code → Bool
  | .seq x y => exits id x || exits id y
  | .cond _ x y => exits id x || exits id y
  | .block _ x => exits id x
  | .loop x => exits id x
  | .scope x => exits id x
  | .exit j => Nat.beq j id
  | _ => false
def falls : Code → Bool
  | .seq x y => falls x && falls y
  | .cond _ x y => falls x || falls y
  | .block id x => falls x || exits id x
  | .scope x => falls x
  | .loop _ => false
  | .exit _ => false
  | .ret => false
  | _ => true
/-- Does a piece of code hold nothing? -/
def empty : Code → Bool
  | .skip => true
  | _ => false

def Env.kill (e : Env) (W : List Nat) : Env := e.filter fun p => !W.contains p.1
def Env.puts (e : Env) (S : List Nat) (vs : List Value) : Env := S.zip vs ++ e
def Env.outs (e : Env) (S : List Nat) : List Value := S.map fun t => (e.get? t).getD undef
/-- The slots that are known and may be written: those that a join hands on. -/
def Env.slots (e : Env) (W : List Nat) : List Nat := ((e.map (·.1)).filter W.contains).eraseDups
def Env.shapes (e : Env) (S : List Nat) : List Sh1 := (e.outs S).map sh1Of

/-- What a region with guards hands on: what it assigns, and what its last operation yields. -/
def regionOuts (P : Program) (ops : Array Oper) : List (Nat × Sh1) :=
  ops.toList.zipIdx.filterMap fun (o, i) => match o.dst with
    | some d => match o.op, Nat.beq (i + 1) ops.size with
      | .assign _, _ => some (d, sh1Of (zeroOf P o.type))
      | _, true => some (d, sh1Of (zeroOf P o.type))
      | _, _ => none
    | none => none

def denCode (P : Program) (rt : Env → T) : Code → List (Nat × List Nat) → Env → (Env → T) → T
  | .skip, _, e, k => k e
  | .region _ ops draw, _, e, k => match guardsOf ops with
    | [] => denRegion P ops draw e k
    | _ => .join ((regionOuts P ops).map (·.2)) (denRegion P ops draw e fun e' => .out (e'.outs ((regionOuts P ops).map (·.1)))) fun y =>
        k ((e.kill (ops.toList.filterMap (·.dst))).puts ((regionOuts P ops).map (·.1)) (Shs.vals _ y))
  | .seq x y, c, e, k => denCode P rt x c e fun e' => denCode P rt y c e' k
  | .cond b x y, c, e, k => bif e.has b then (match e.ev b with
      | .bool t => match falls x && falls y && !(empty x && empty y) with
        | true =>
          .join (e.shapes (e.slots (writes x ++ writes y)))
            (cond t (denCode P rt x c e fun e' => .out (e'.outs (e.slots (writes x ++ writes y)))) (denCode P rt y c e fun e' => .out (e'.outs (e.slots (writes x ++ writes y))))) fun z =>
            k ((e.kill (writes x ++ writes y)).puts (e.slots (writes x ++ writes y)) (Shs.vals _ z))
        | false => cond t (denCode P rt x c e k) (denCode P rt y c e k)
      | _ => .stuck) else .stuck
  | .block id x, c, e, k => match exits id x with
    | false => denCode P rt x (c.filter fun p => !Nat.beq p.1 id) e k
    | true => .block id (e.shapes (e.slots (writes x)))
        (denCode P rt x ((id, e.slots (writes x)) :: c) e fun e' => .out (e'.outs (e.slots (writes x)))) fun z =>
        k ((e.kill (writes x)).puts (e.slots (writes x)) (Shs.vals _ z))
  | .loop x, c, e, _ => .loop (e.shapes (e.slots (writes x))) (e.outs (e.slots (writes x))) fun z =>
      denCode P rt x c ((e.kill (writes x)).puts (e.slots (writes x)) (Shs.vals _ z)) fun e' => .out (e'.outs (e.slots (writes x)))
  | .exit id, c, e, _ => match c.find? fun p => Nat.beq p.1 id with
    | some p => .brk id (e.outs p.2)
    | none => .stuck
  | .ret, _, e, _ => rt e
  | .scope x, c, e, k => denCode P rt x c e k
  | .label _, _, e, k => k e
  | _, _, _, _ => .stuck

section
variable {P : Program}

theorem sh1_undef (s : Sh1) : s.of undef = none := by
  cases s with
  | atom a => cases a <;> rfl
  | agg l => rfl

/-- What a leaf hands on is there. -/
theorem outs_spec {e : Env} {tm : Array Value} (hag : Agrees e tm) : ∀ (S : List Nat) (ss : List Sh1) (y : Shs.Ty ss), Shs.of ss (e.outs S) = some y →
    S.map (fun t => tm[t]?) = (Shs.vals ss y).map some := by
  intro S
  induction S with
  | nil =>
    intro ss y h
    cases ss with
    | nil => rfl
    | cons s r => simp [Env.outs, Shs.of] at h
  | cons t r ih =>
    intro ss y h
    cases ss with
    | nil => simp [Env.outs, Shs.of] at h
    | cons s ss =>
      simp only [Env.outs, List.map_cons, Shs.of] at h
      split at h
      · rename_i x1 y1 h1 h2
        cases h
        cases hg : e.get? t with
        | none => rw [hg] at h1; simp only [Option.getD_none] at h1; rw [sh1_undef] at h1; cases h1
        | some v =>
          rw [hg] at h1
          simp only [Option.getD_some] at h1
          have := hag t v hg
          simp only [List.map_cons, Shs.vals, this, Sh1.of_val s v x1 h1]
          rw [ih ss y1 h2]
      · cases h

theorem kill_get? {e : Env} {W : List Nat} : ∀ {t : Nat} {v : Value}, (e.kill W).get? t = some v → t ∉ W ∧ e.get? t = some v := by
  induction e with
  | nil => intro t v h; simp [Env.kill, Env.get?] at h
  | cons p r ih =>
    obtain ⟨i, u⟩ := p
    intro t v h
    unfold Env.kill at h
    by_cases hi : W.contains i = true
    · rw [List.filter_cons_of_neg (by simpa using hi)] at h
      obtain ⟨h1, h2⟩ := ih h
      refine ⟨h1, ?_⟩
      rw [Env.get?_cons]
      have : i ≠ t := fun e => h1 (e ▸ List.contains_iff_mem.1 hi)
      simp [this, h2]
    · rw [List.filter_cons_of_pos (by simpa using hi)] at h
      rw [Env.get?_cons] at h ⊢
      by_cases hit : i = t
      · subst hit
        simp only [if_true] at h ⊢
        exact ⟨fun hm => hi (List.contains_iff_mem.2 hm), h⟩
      · simp only [hit, if_false] at h ⊢
        exact ih h

theorem agrees_kill {e : Env} {a a' : Act} {W : List Nat} (hag : Agrees e a.tmps) (hf : Fr W a a') : Agrees (e.kill W) a'.tmps := by
  intro t v h
  obtain ⟨h1, h2⟩ := kill_get? h
  rw [hf.2.2 t h1]
  exact hag t v h2

theorem agrees_puts {e : Env} {tm : Array Value} (hag : Agrees e tm) : ∀ (S : List Nat) (vs : List Value), S.map (fun t => tm[t]?) = vs.map some → Agrees (e.puts S vs) tm := by
  intro S
  induction S with
  | nil => intro vs h; simpa [Env.puts] using hag
  | cons t r ih =>
    intro vs h
    cases vs with
    | nil => simp at h
    | cons v vs =>
      simp only [List.map_cons, List.cons.injEq] at h
      intro t' v' hg
      simp only [Env.puts, List.zip_cons_cons, List.cons_append, Env.get?_cons] at hg
      by_cases ht : t = t'
      · subst ht
        simp only [if_true, Option.some.injEq] at hg
        subst hg
        exact h.1
      · simp only [ht, if_false] at hg
        exact ih vs h.2 t' v' hg

/-- Behind a join: what is known. -/
theorem agrees_join {e e' : Env} {a a' : Act} {W S : List Nat} {ss : List Sh1} {y : Shs.Ty ss} (hag : Agrees e a.tmps) (hf : Fr W a a') (hag' : Agrees e' a'.tmps) (hy : Shs.of ss (e'.outs S) = some y) :
    Agrees ((e.kill W).puts S (Shs.vals ss y)) a'.tmps := agrees_puts (agrees_kill hag hf) S _ (outs_spec hag' S ss y hy)

theorem map_getD {tm : Array Value} : ∀ (S : List Nat) (vs : List Value), S.map (fun t => tm[t]?) = vs.map some → S.map (fun t => tm.getD t undef) = vs := by
  intro S
  induction S with
  | nil => intro vs h; cases vs <;> simp_all
  | cons t r ih =>
    intro vs h
    cases vs with
    | nil => simp at h
    | cons v vs =>
      simp only [List.map_cons, List.cons.injEq] at h ⊢
      refine ⟨?_, ih vs h.2⟩
      rw [Array.getD_eq_getD_getElem?, h.1]
      rfl

structure Ends (P : Program) (rt : Env → T) (c : List (Nat × List Nat)) (QT : Leaf → Heap → Prop) (W : List Nat) (a : Act) (w : World) (QC : Exit → Act → World → Prop) : Prop where
  brk : ∀ id p, c.find? (fun p => Nat.beq p.1 id) = some p → ∀ e' a' w', Agrees e' a'.tmps → Fr W a a' → Same w w' → QT (.brk id (e'.outs p.2)) w'.heap → QC (.exit id) a' w'
  ret : ∀ e' a' w', Agrees e' a'.tmps → Fr W a a' → Same w w' → (rt e').wp P QT w'.heap → QC .ret a' w'
  pan : ∀ ch a' w', Fr W a a' → Same w w' → QT (.pan ch) w'.heap → QC (.panic ch) a' w'

theorem Ends.step {rt : Env → T} {c : List (Nat × List Nat)} {QT : Leaf → Heap → Prop} {W W' : List Nat} {a a' : Act} {w w' : World} {QC : Exit → Act → World → Prop} (E : Ends P rt c QT W a w QC)
    (hf : Fr W a a') (hs : Same w w') (hW : ∀ t, t ∈ W' → t ∈ W) : Ends P rt c QT W' a' w' QC :=
  ⟨fun id p hp e2 a2 w2 h1 h2 h3 h4 => E.brk id p hp e2 a2 w2 h1 (hf.trans (h2.mono hW)) (hs.trans h3) h4,
   fun e2 a2 w2 h1 h2 h3 h4 => E.ret e2 a2 w2 h1 (hf.trans (h2.mono hW)) (hs.trans h3) h4,
   fun ch a2 w2 h2 h3 h4 => E.pan ch a2 w2 (hf.trans (h2.mono hW)) (hs.trans h3) h4⟩

/-- A tree that only comes back. -/
def Rets (P : Program) (rt : Env → T) : Prop := ∀ (e : Env) (Q Q' : Leaf → Heap → Prop) (h : Heap), (∀ v h, Q (.ret v) h → Q' (.ret v) h) → (rt e).wp P Q h → (rt e).wp P Q' h

theorem Ends.inner {rt : Env → T} {c : List (Nat × List Nat)} {QT QT' : Leaf → Heap → Prop} {W : List Nat} {a : Act} {w : World} {QC : Exit → Act → World → Prop} (E : Ends P rt c QT W a w QC) (hrt : Rets P rt)
    (hb : ∀ id vs h, QT' (.brk id vs) h → QT (.brk id vs) h) (hr : ∀ v h, QT' (.ret v) h → QT (.ret v) h) (hp : ∀ v h, QT' (.pan v) h → QT (.pan v) h) : Ends P rt c QT' W a w QC :=
  ⟨fun id p hf e2 a2 w2 h1 h2 h3 h4 => E.brk id p hf e2 a2 w2 h1 h2 h3 (hb _ _ _ h4),
   fun e2 a2 w2 h1 h2 h3 h4 => E.ret e2 a2 w2 h1 h2 h3 (hrt e2 _ _ _ hr h4),
   fun ch a2 w2 h2 h3 h4 => E.pan ch a2 w2 h2 h3 (hp _ _ h4)⟩

theorem find_filter {c : List (Nat × List Nat)} {id id' : Nat} {p : Nat × List Nat} (h : (c.filter fun p => !Nat.beq p.1 id).find? (fun p => Nat.beq p.1 id') = some p) :
    id' ≠ id ∧ c.find? (fun p => Nat.beq p.1 id') = some p := by
  have hm := List.mem_of_find?_eq_some h
  have hp := List.find?_some h
  rw [List.mem_filter] at hm
  have e1 : p.1 = id' := Nat.eq_of_beq_eq_true hp
  have e2 : p.1 ≠ id := fun e => by have := hm.2; rw [e] at this; simp at this
  have hne : id' ≠ id := e1 ▸ e2
  refine ⟨hne, ?_⟩
  clear hm hp
  induction c with
  | nil => simp at h
  | cons x r ih =>
    by_cases hx : x.1 = id
    · have : (!Nat.beq x.1 id) = false := by rw [hx]; simp
      rw [List.filter_cons_of_neg (by simp [this])] at h
      rw [List.find?_cons]
      have hx' : Nat.beq x.1 id' = false := by
        cases hb : Nat.beq x.1 id' with
        | false => rfl
        | true => exact absurd ((Nat.eq_of_beq_eq_true hb).symm.trans hx) hne
      rw [hx']
      exact ih h
    · have : (!Nat.beq x.1 id) = true := by
        cases hb : Nat.beq x.1 id with
        | false => rfl
        | true => exact absurd (Nat.eq_of_beq_eq_true hb) hx
      rw [List.filter_cons_of_pos (by simp [this])] at h
      rw [List.find?_cons] at h ⊢
      split
      · rename_i hb; rw [hb] at h; exact h
      · rename_i hb; rw [hb] at h; exact ih h

theorem denCode_ok {rt : Env → T} (hm : P.follows .mixedOrders = true) (hrt : Rets P rt) (code : Code) :
    ∀ (c : List (Nat × List Nat)) (e : Env) (k : Env → T) (QT : Leaf → Heap → Prop) (a : Act) (w : World) (QC : Exit → Act → World → Prop),
      Agrees e a.tmps → Bound (writes code) a → (denCode P rt code c e k).wp P QT w.heap →
      (∀ e' a' w', Agrees e' a'.tmps → Fr (writes code) a a' → Same w w' → (k e').wp P QT w'.heap → QC .normal a' w') →
      Ends P rt c QT (writes code) a w QC → code.wp P QC a w := by
  induction code with
  | skip => intro c e k QT a w QC hag hb H hn E; exact wp_skip (hn e a w hag (.refl _ a) (.refl w) H)
  | region id ops draw =>
    intro c e k QT a w QC hag hb H hn E
    have hW : ∀ o ∈ ops, ∀ d, o.dst = some d → d ∈ ops.toList.filterMap (·.dst) := fun o ho d hd => List.mem_filterMap.2 ⟨o, Array.mem_toList_iff.2 ho, hd⟩
    simp only [denCode] at H
    split at H
    · exact denRegion_ok hm hW hag hb H hn (fun ch a' w' => E.pan ch a' w')
    · simp only [T.wp] at H
      refine denRegion_ok hm hW hag hb H (fun e' a' w' h1 h2 h3 h4 => ?_) (fun ch a' w' h1 h2 h3 => E.pan ch a' w' h1 h2 h3)
      simp only [T.wp] at h4
      split at h4
      · rename_i y hy
        exact hn _ a' w' (agrees_join hag h2 h1 hy) h2 h3 h4
      · exact h4.elim
  | seq x y ihx ihy =>
    intro c e k QT a w QC hag hb H hn E
    refine wp_seq (ihx c e _ QT a w _ hag (fun d hd => hb d (List.mem_append_left _ hd)) H (fun e' a' w' h1 h2 h3 h4 => ?_) ?_)
    · have hf : Fr (writes x ++ writes y) a a' := h2.mono fun t ht => List.mem_append_left _ ht
      exact ihy c e' k QT a' w' QC h1 ((show Bound (writes y) a from fun d hd => hb d (List.mem_append_right _ hd)).fr hf) h4
        (fun e2 a2 w2 g1 g2 g3 g4 => hn e2 a2 w2 g1 (hf.trans (g2.mono fun t ht => List.mem_append_right _ ht)) (h3.trans g3) g4)
        (E.step hf h3 fun t ht => List.mem_append_right _ ht)
    · exact ⟨fun id p hp e2 a2 w2 h1 h2 h3 h4 => E.brk id p hp e2 a2 w2 h1 (h2.mono fun t ht => List.mem_append_left _ ht) h3 h4, fun e2 a2 w2 h1 h2 => E.ret e2 a2 w2 h1 (h2.mono fun t ht => List.mem_append_left _ ht), fun ch a2 w2 h2 => E.pan ch a2 w2 (h2.mono fun t ht => List.mem_append_left _ ht)⟩
  | cond b x y ihx ihy =>
    intro c e k QT a w QC hag hb H hn E
    simp only [denCode] at H
    cases hhas : e.has b with
    | false => rw [hhas] at H; exact H.elim
    | true =>
      rw [hhas] at H
      simp only [cond_true] at H
      have hev := hag.ev hhas
      split at H
      · rename_i t ht
        have hc : a.eval b = .bool t := hev.trans ht
        have hbx : Bound (writes x) a := fun d hd => hb d (List.mem_append_left _ hd)
        have hby : Bound (writes y) a := fun d hd => hb d (List.mem_append_right _ hd)
        have hl : ∀ t, t ∈ writes x → t ∈ writes x ++ writes y := fun t ht => List.mem_append_left _ ht
        have hr : ∀ t, t ∈ writes y → t ∈ writes x ++ writes y := fun t ht => List.mem_append_right _ ht
        split at H
        · simp only [T.wp] at H
          refine wp_cond hc ?_
          cases t with
          | true =>
            simp only [cond_true] at H
            simp only [if_true]
            refine ihx c e _ _ a w QC hag hbx H (fun e' a' w' h1 h2 h3 h4 => ?_) ((E.step (.refl _ a) (.refl w) hl).inner hrt (fun _ _ _ h => h) (fun _ _ h => h) (fun _ _ h => h))
            simp only [T.wp] at h4
            split at h4
            · rename_i z hz
              exact hn _ a' w' (agrees_join hag (h2.mono hl) h1 hz) (h2.mono hl) h3 h4
            · exact h4.elim
          | false =>
            simp only [cond_false] at H
            simp only [Bool.false_eq_true, if_false]
            refine ihy c e _ _ a w QC hag hby H (fun e' a' w' h1 h2 h3 h4 => ?_) ((E.step (.refl _ a) (.refl w) hr).inner hrt (fun _ _ _ h => h) (fun _ _ h => h) (fun _ _ h => h))
            simp only [T.wp] at h4
            split at h4
            · rename_i z hz
              exact hn _ a' w' (agrees_join hag (h2.mono hr) h1 hz) (h2.mono hr) h3 h4
            · exact h4.elim
        · refine wp_cond hc ?_
          cases t with
          | true => exact ihx c e k QT a w QC hag hbx H (fun e' a' w' h1 h2 => hn e' a' w' h1 (h2.mono hl)) (E.step (.refl _ a) (.refl w) hl)
          | false => exact ihy c e k QT a w QC hag hby H (fun e' a' w' h1 h2 => hn e' a' w' h1 (h2.mono hr)) (E.step (.refl _ a) (.refl w) hr)
      · exact H.elim
  | block id x ih =>
    intro c e k QT a w QC hag hb H hn E
    simp only [denCode] at H
    refine wp_block ?_
    split at H
    · refine ih _ e k QT a w _ hag hb H hn ⟨fun id' p hp e2 a2 w2 h1 h2 h3 h4 => ?_, E.ret, E.pan⟩
      obtain ⟨hne, hp'⟩ := find_filter hp
      simp only [Exit.inBlock, if_neg hne]
      exact E.brk id' p hp' e2 a2 w2 h1 h2 h3 h4
    · simp only [T.wp] at H
      refine ih _ e _ _ a w _ hag hb H (fun e' a' w' h1 h2 h3 h4 => ?_) ⟨fun id' p hp e2 a2 w2 h1 h2 h3 h4 => ?_, fun e2 a2 w2 h1 h2 h3 h4 => ?_, fun ch a2 w2 h2 h3 h4 => E.pan ch a2 w2 h2 h3 h4⟩
      · simp only [T.wp] at h4
        split at h4
        · rename_i z hz
          exact hn _ a' w' (agrees_join hag h2 h1 hz) h2 h3 h4
        · exact h4.elim
      · rw [List.find?_cons] at hp
        by_cases hid : id' = id
        · subst hid
          have e1 : Nat.beq id' id' = true := by simp
          simp only [e1, Option.some.injEq] at hp
          subst hp
          simp only [e1, cond_true] at h4
          simp only [Exit.inBlock, if_true]
          split at h4
          · rename_i z hz
            exact hn _ a2 w2 (agrees_join hag h2 h1 hz) h2 h3 h4
          · exact h4.elim
        · have e1 : Nat.beq id id' = false := by
            cases hbq : Nat.beq id id' with
            | false => rfl
            | true => exact absurd (Nat.eq_of_beq_eq_true hbq).symm hid
          have e2' : Nat.beq id' id = false := by
            cases hbq : Nat.beq id' id with
            | false => rfl
            | true => exact absurd (Nat.eq_of_beq_eq_true hbq) hid
          simp only [e1] at hp
          simp only [e2', cond_false] at h4
          simp only [Exit.inBlock, if_neg hid]
          exact E.brk id' p hp e2 a2 w2 h1 h2 h3 h4
      · refine E.ret e2 a2 w2 h1 h2 h3 (hrt e2 _ QT w2.heap ?_ h4)
        exact fun _ _ h => h
  | loop x ih =>
    intro c e k QT a w QC hag hb H hn E
    simp only [denCode, T.wp] at H
    obtain ⟨I, μ, ⟨y0, hy0, hI0⟩, hround⟩ := H
    refine wp_loop (fun a' w' => Fr (writes x) a a' ∧ Same w w' ∧ ∃ y, (e.slots (writes x)).map (fun t => a'.tmps[t]?) = (Shs.vals _ y).map some ∧
        Shs.of (e.shapes (e.slots (writes x))) (Shs.vals _ y) = some y ∧ I y w'.heap)
      (fun a' w' => match Shs.of (e.shapes (e.slots (writes x))) ((e.slots (writes x)).map fun t => a'.tmps.getD t undef) with
        | some y => μ y w'.heap
        | none => 0) ?_ ?_
    · exact ⟨.refl _ a, .refl w, y0, outs_spec hag _ _ y0 hy0, by rw [← Shs.of_vals _ _ _ hy0]; exact hy0, hI0⟩
    · rintro a' w' ⟨hf, hs, y, hv, hof, hI⟩
      have hag' : Agrees ((e.kill (writes x)).puts (e.slots (writes x)) (Shs.vals _ y)) a'.tmps := agrees_puts (agrees_kill hag hf) _ _ hv
      refine ih c _ _ _ a' w' _ hag' (Bound.fr hb hf) (hround y w'.heap hI) (fun e2 a2 w2 h1 h2 h3 h4 => ?_) ?_
      · simp only [T.wp] at h4
        split at h4
        · rename_i y2 hy2
          refine ⟨⟨hf.trans h2, hs.trans h3, y2, outs_spec h1 _ _ y2 hy2, by rw [← Shs.of_vals _ _ _ hy2]; exact hy2, h4.1⟩, ?_⟩
          have g1 := map_getD _ _ (outs_spec h1 _ _ y2 hy2)
          have g2 := map_getD _ _ hv
          have g3 : Shs.of (e.shapes (e.slots (writes x))) (Shs.vals _ y2) = some y2 := by rw [← Shs.of_vals _ _ _ hy2]; exact hy2
          simp only [g1, g2, g3, hof]
          exact h4.2
        · exact h4.elim
      · have E' : Ends P rt c QT (writes x) a' w' QC := E.step hf hs fun t ht => ht
        refine ⟨fun id p hp e2 a2 w2 h1 h2 h3 h4 => E'.brk id p hp e2 a2 w2 h1 h2 h3 h4, fun e2 a2 w2 h1 h2 h3 h4 => E'.ret e2 a2 w2 h1 h2 h3 (hrt e2 _ QT w2.heap ?_ h4), fun ch a2 w2 h2 h3 h4 => E'.pan ch a2 w2 h2 h3 h4⟩
        exact fun _ _ h => h
  | exit id =>
    intro c e k QT a w QC hag hb H hn E
    simp only [denCode] at H
    split at H
    · rename_i p hp
      exact wp_exit (E.brk id p hp e a w hag (.refl _ a) (.refl w) H)
    · exact H.elim
  | ret => intro c e k QT a w QC hag hb H hn E; exact wp_ret (E.ret e a w hag (.refl _ a) (.refl w) H)
  | rangeFunc f ps x y ihx ihy => intro c e k QT a w QC hag hb H hn E; exact H.elim
  | scope x ih =>
    intro c e k QT a w QC hag hb H hn E
    exact wp_scope_straight (ih c e k QT a w (Exit.noGoto QC) hag hb H hn ⟨E.brk, E.ret, E.pan⟩)
  | label l => intro c e k QT a w QC hag hb H hn E; exact wp_label (hn e a w hag (.refl _ a) (.refl w) H)
  | goto l => intro c e k QT a w QC hag hb H hn E; exact H.elim
  | refuse s => intro c e k QT a w QC hag hb H hn E; exact H.elim

/-! ## a function -/
def retVals (P : Program) : List ResultVar → Env → List Value → (List Value → T) → T
  | [], _, acc, k => k acc.reverse
  | .tmp t :: r, e, acc, k => match e.get? t with
    | some v => retVals P r e (v :: acc) k
    | none => .stuck
  | .cell a t :: r, e, acc, k => match e.get? a with
    | some (.pointer (some ad)) => denLoad P t ad fun v => retVals P r e (v :: acc) k
    | _ => .stuck
def oneOf : List Value → Value
  | [v] => v
  | vs => .tuple vs.toArray
def retT (P : Program) (fn : Func) (e : Env) : T := retVals P fn.results.toList e [] fun vs => .ret (oneOf vs)

def envOf : Nat → List Value → Env
  | _, [] => []
  | i, v :: r => (i, v) :: envOf (i + 1) r
def denFun (P : Program) (fn : Func) (args : List Value) : T := match fn.body with
  | some c => bif (writes c).all fun d => Nat.blt d fn.ntmps then denCode P (retT P fn) c [] (envOf 0 args) (retT P fn) else .stuck
  | none => .stuck

theorem loadsT_rets (l : List Atom) (a : Addr) {f : Array Value → T} {Q Q' : Leaf → Heap → Prop} (hf : ∀ cs h, (f cs).wp P Q h → (f cs).wp P Q' h) : ∀ (i : Nat) (acc : Array Value) (h : Heap),
    (loadsT l a i acc f).wp P Q h → (loadsT l a i acc f).wp P Q' h := by
  induction l with
  | nil => intro i acc h H; exact hf _ _ H
  | cons s r ih => intro i acc h H; obtain ⟨x, hx, H⟩ := H; exact ⟨x, hx, ih _ _ _ H⟩
theorem denLoad_rets {t : TypeId} {a : Addr} {k : Value → T} {Q Q' : Leaf → Heap → Prop} {h : Heap} (hk : ∀ v h, (k v).wp P Q h → (k v).wp P Q' h) (H : (denLoad P t a k).wp P Q h) : (denLoad P t a k).wp P Q' h := by
  unfold denLoad at H ⊢
  split at H
  · split at H
    · split at H
      · rename_i hlen; simp only [if_pos hlen]; exact loadsT_rets _ _ (fun cs h => hk _ h) _ _ _ H
      · exact H.elim
    · obtain ⟨x, hx, H⟩ := H; exact ⟨x, hx, hk _ _ H⟩
    · exact H.elim
  · exact H.elim

theorem retT_rets (fn : Func) : Rets P (retT P fn) := by
  intro e Q Q' h hq H
  have key : ∀ (l : List ResultVar) (acc : List Value) (h : Heap), (retVals P l e acc fun vs => .ret (oneOf vs)).wp P Q h → (retVals P l e acc fun vs => .ret (oneOf vs)).wp P Q' h := by
    intro l
    induction l with
    | nil => intro acc h H; exact hq _ _ H
    | cons x r ih =>
      intro acc h H
      cases x with
      | tmp t =>
        simp only [retVals] at H ⊢
        split at H
        · exact ih _ _ H
        · exact H.elim
      | cell a t =>
        simp only [retVals] at H ⊢
        split at H
        · exact denLoad_rets (fun v h => ih _ _) H
        · exact H.elim
  exact key _ _ _ H

theorem loads_run (l : List Atom) (a : Addr) {f : Array Value → T} {Q : Leaf → Heap → Prop} (w : World) : ∀ (i : Nat) (acc : Array Value), (loadsT l a i acc f).wp P Q w.heap →
    ∃ cs, (loadCellsFrom a i l.length acc).run P w = .ok cs w ∧ (f cs).wp P Q w.heap := by
  induction l with
  | nil => intro i acc H; exact ⟨acc, rfl, H⟩
  | cons s r ih =>
    intro i acc H
    obtain ⟨x, hx, H⟩ := H
    obtain ⟨cs, h1, h2⟩ := ih (i + 1) _ H
    refine ⟨cs, ?_, h2⟩
    have hx' : w.cell? (a.add i) = some (s.val x) := hx
    simp only [List.length_cons, loadCellsFrom, load, bind, Sem.bind, Sem.run, hx']
    exact h1
theorem run_bind {α β : Type} (s : Sem α) (f : α → Sem β) {w w' : World} {a : α} (h : s.run P w = .ok a w') : (s.bind f).run P w = (f a).run P w' := by
  induction s generalizing w with
  | pure b => cases h; rfl
  | load m ad k ih =>
    simp only [Sem.bind, Sem.run] at h ⊢
    split
    · rename_i v hv; rw [hv] at h; exact ih _ h
    · rename_i hv
      rw [hv] at h
      simp only at h
      split
      · rename_i v t he; rw [he] at h; exact ih _ h
      · rename_i x he; rw [he] at h; cases h
  | store m ad v k ih =>
    cases v <;> simp only [Sem.bind, Sem.run] at h ⊢ <;> first
      | cases h
      | (split <;> rename_i hv <;> rw [hv] at h <;> simp only at h
         · split <;> rename_i hf <;> simp only [hf] at h <;> first
             | (simp only [if_true] at h; cases h)
             | (simp only [Bool.false_eq_true, if_false] at h; exact ih h)
             | exact ih (by simpa using h)
             | simp at h
         · split <;> rename_i he <;> rw [he] at h <;> first | exact ih h | cases h)
  | new o k ih => simp only [Sem.bind, Sem.run] at h ⊢; exact ih _ h
  | shape r k ih => simp only [Sem.bind, Sem.run] at h ⊢; exact ih _ h
  | freeze a n k ih => simp only [Sem.bind, Sem.run] at h ⊢; exact ih h
  | frozen a k ih => simp only [Sem.bind, Sem.run] at h ⊢; exact ih _ h
  | getObj r k ih =>
    simp only [Sem.bind, Sem.run] at h ⊢
    split <;> rename_i hv <;> rw [hv] at h <;> simp only at h <;> first | cases h | exact ih _ h
  | setObj r o k ih =>
    simp only [Sem.bind, Sem.run] at h ⊢
    split <;> rename_i hv <;> rw [hv] at h <;> simp only at h <;> first | cases h | exact ih h
  | choose q k ih =>
    simp only [Sem.bind, Sem.run] at h ⊢
    split <;> rename_i hv <;> simp only [hv] at h
    · exact ih _ (by simpa using h)
    · exact ih _ (by simpa using h)
  | sys c k ih => simp only [Sem.bind, Sem.run] at h ⊢; exact ih _ h
  | program k ih => simp only [Sem.bind, Sem.run] at h ⊢; exact ih _ h
  | mark m k ih => simp only [Sem.bind, Sem.run] at h ⊢; exact ih h
  | halt x => simp only [Sem.run] at h; cases h

theorem loadVar_run {t : TypeId} {a : Addr} {k : Value → T} {Q : Leaf → Heap → Prop} (w : World) (H : (denLoad P t a k).wp P Q w.heap) :
    ∃ v, (loadVar t a).run P w = .ok v w ∧ (k v).wp P Q w.heap := by
  unfold denLoad at H
  split at H
  · rename_i d i hd hi
    have e1 : (isAgg t).run P w = .ok (isAggD d) w := by
      simp only [isAgg, underlying, program, bind, Sem.bind, hd, pure, Sem.run]
      cases d <;> rfl
    have e2 : (Go.sizeOf t).run P w = .ok i.size w := by simp only [Go.sizeOf, typeInfo, program, bind, Sem.bind, hi, pure, Sem.run]
    split at H
    · rename_i l hag hsh
      split at H
      · rename_i hlen
        obtain ⟨cs, h1, h2⟩ := loads_run l a w 0 #[] H
        refine ⟨.agg cs, ?_, h2⟩
        unfold loadVar
        refine (run_bind _ _ e1).trans ?_
        rw [hag]
        simp only [if_true]
        refine (run_bind _ _ e2).trans ?_
        rw [← hlen]
        exact (run_bind _ _ h1).trans rfl
      · exact H.elim
    · rename_i s hag hsh
      obtain ⟨x, hx, H⟩ := H
      refine ⟨s.val x, ?_, H⟩
      unfold loadVar
      refine (run_bind _ _ e1).trans ?_
      rw [hag]
      have hx' : w.cell? a = some (s.val x) := hx
      simp only [Bool.false_eq_true, if_false, load, Sem.run, hx']
    · exact H.elim
  · exact H.elim

/-- How one result variable is read. -/
def readVar (tmps : Array Value) : ResultVar → Sem Value
  | .tmp t => pure (tmps.getD t undef)
  | .cell a t => do loadVar t (← asAddr (tmps.getD a undef))
theorem results_eq (fn : Func) (tmps : Array Value) : results fn tmps = (fn.results.mapM (readVar tmps)).bind fun vs => .pure (if h : vs.size = 1 then vs[0] else .tuple vs) := rfl

theorem retT_ok {fn : Func} {e : Env} {a : Act} {w : World} {QT : Leaf → Heap → Prop} (hag : Agrees e a.tmps) (H : (retT P fn e).wp P QT w.heap) :
    ∃ v, (results fn a.tmps).run P w = .ok v w ∧ QT (.ret v) w.heap := by
  have key : ∀ (l : List ResultVar) (acc : List Value), (retVals P l e acc fun vs => .ret (oneOf vs)).wp P QT w.heap →
      ∃ vs, (l.mapM (readVar a.tmps)).run P w = .ok vs w ∧ QT (.ret (oneOf (acc.reverse ++ vs))) w.heap := by
    intro l
    induction l with
    | nil => intro acc H; exact ⟨[], rfl, by simpa [retVals, T.wp] using H⟩
    | cons x r ih =>
      intro acc H
      rw [List.mapM_cons]
      cases x with
      | tmp t =>
        simp only [retVals] at H
        split at H
        · rename_i v hv
          obtain ⟨vs, h1, h2⟩ := ih _ H
          refine ⟨v :: vs, ?_, by simpa using h2⟩
          have e1 : (readVar a.tmps (.tmp t)).run P w = .ok v w := by
            have := hag t v hv
            simp [readVar, pure, Array.getD_eq_getD_getElem?, this]
          refine (run_bind _ _ e1).trans ((run_bind _ _ h1).trans rfl)
        · exact H.elim
      | cell ad t =>
        simp only [retVals] at H
        split at H
        · rename_i b hb
          obtain ⟨v, h0, H⟩ := loadVar_run w H
          obtain ⟨vs, h1, h2⟩ := ih _ H
          refine ⟨v :: vs, ?_, by simpa using h2⟩
          have e1 : (readVar a.tmps (.cell ad t)).run P w = .ok v w := by
            have := hag ad _ hb
            have e2 : a.tmps.getD ad undef = .pointer (some b) := by rw [Array.getD_eq_getD_getElem?, this]; rfl
            simp only [readVar, e2]
            exact h0
          refine (run_bind _ _ e1).trans ((run_bind _ _ h1).trans rfl)
        · exact H.elim
  obtain ⟨vs, h1, h2⟩ := key fn.results.toList [] H
  refine ⟨oneOf vs, ?_, by simpa using h2⟩
  rw [results_eq]
  have e1 : (fn.results.mapM (readVar a.tmps)).run P w = .ok vs.toArray w := by
    rw [Array.mapM_eq_mapM_toList]
    show (Sem.bind (fn.results.toList.mapM (readVar a.tmps)) fun l => .pure l.toArray).run P w = _
    exact (run_bind _ _ h1).trans rfl
  refine (run_bind _ _ e1).trans ?_
  show Result.ok _ w = _
  congr 1
  cases vs with
  | nil => rfl
  | cons v r =>
    cases r with
    | nil => rfl
    | cons v2 r => simp [oneOf]

theorem envOf_agrees (args : List Value) : ∀ (i : Nat) (pre rest : List Value), pre.length = i → Agrees (envOf i args) (pre ++ args ++ rest).toArray := by
  induction args with
  | nil => intro i pre rest _ t v h; simp [envOf, Env.get?] at h
  | cons x r ih =>
    intro i pre rest hi t v h
    simp only [envOf, Env.get?_cons] at h
    by_cases hit : i = t
    · subst hit
      simp only [if_true, Option.some.injEq] at h
      subst h
      simp [← hi]
    · simp only [hit, if_false] at h
      have := ih (i + 1) (pre ++ [x]) rest (by simp [hi]) t v h
      simpa using this

/-- How a tree's end reads as a call's end. -/
def finOf (R : Fin → Heap → Prop) : Leaf → Heap → Prop
  | .ret v, h => R (.ret v) h
  | .pan c, h => R (.pan c) h
  | _, _ => False

theorem calls_of {f : FuncId} {fn : Func} {args : List Value} {h : Heap} {R : Fin → Heap → Prop} (hm : P.follows .mixedOrders = true) (hf : P.funcs[f]? = some fn)
    (H : (denFun P fn args).wp P (finOf R) h) : CallsH P f args h R := by
  intro w hw
  subst hw
  unfold denFun at H
  split at H
  · rename_i c hc
    cases hall : (writes c).all fun d => Nat.blt d fn.ntmps with
    | false => rw [hall] at H; exact H.elim
    | true =>
      rw [hall] at H
      simp only [cond_true] at H
      refine calls_of_wp hf hc ?_
      have hag : Agrees (envOf 0 args) (args.toArray ++ Array.replicate (fn.ntmps - args.toArray.size) undef) := by
        have := envOf_agrees args 0 [] (List.replicate (fn.ntmps - args.toArray.size) undef) rfl
        have e : ([] ++ args ++ List.replicate (fn.ntmps - args.toArray.size) undef).toArray = args.toArray ++ Array.replicate (fn.ntmps - args.toArray.size) undef := by
          apply Array.ext'
          simp
        rw [← e]; exact this
      have hb : Bound (writes c) { tmps := args.toArray ++ Array.replicate (fn.ntmps - args.toArray.size) undef, defers := [] } := by
        intro d hd
        have := List.all_eq_true.1 hall d hd
        have hlt : d < fn.ntmps := by simpa [Nat.blt_eq] using this
        simp
        omega
      refine denCode_ok hm (retT_rets fn) c [] _ _ (finOf R) _ w _ hag hb H (fun e' a' w' h1 h2 h3 h4 => ?_) ⟨fun id p hp => (by cases hp), fun e' a' w' h1 h2 h3 h4 => ?_, fun ch a' w' h1 h2 h3 => ⟨h1.2.1, h2, h3⟩⟩
      · obtain ⟨v, g1, g2⟩ := retT_ok h1 h4
        exact ⟨h2.2.1, v, g1, h3, g2⟩
      · obtain ⟨v, g1, g2⟩ := retT_ok h1 h4
        exact ⟨h2.2.1, v, g1, h3, g2⟩
  · exact H.elim
end
end Go.Eng

/-
  THE ENGINE, PART J: a function that defers one call on its straight road; a deferred function; one that recovers first of all.
  Conditions: the program follows 'mixedOrders' (each loaded program of the kit does).
-/
namespace Go.Eng
open Go

/-- The call that a region's last operation defers. -/
def deferOf (P : Program) (ops : Array Oper) (e : Env) : Option (FuncId × List Value) := match ops[ops.size - 1]? with
  | some o => match o.op, o.guard, o.dst with
    | .defer c, none, none => match c.callee with
      | .value x => match e.has x && c.args.toList.all e.has, e.ev x with
        | true, .func (.func f) first cap => match P.funcs[f]? with
          | some fn => match fn.name == "runtime.NumGoroutine", fn.body.isNone with
            | false, false => some (f, ((first ++ c.args.map e.ev) ++ cap).toList)
            | _, _ => none
          | none => none
        | _, _ => none
      | _ => none
    | _, _, _ => none
  | none => none
def defers (ops : Array Oper) : Bool := match ops[ops.size - 1]? with
  | some o => match o.op with
    | .defer _ => true
    | _ => false
  | none => false
def deferRegion : Code → Option (Array Oper)
  | .region _ ops false => match defers ops, guardsOf ops with
    | true, [] => some ops
    | _, _ => none
  | _ => none
def quiet0 : Env → T := fun _ => .ret .nilIface
def denD (P : Program) (fn : Func) : Code → Env → T
  | .seq x y, e => match deferRegion x with
    | some ops => denOps P ops [] (List.range (ops.size - 1)) e fun e' => match deferOf P ops e' with
        | some (f, args) => .later f args (denCode P quiet0 y [] e' quiet0) (retT P fn (e'.kill (writes y)))
        | none => .stuck
    | none => denCode P (retT P fn) x [] e fun e' => denD P fn y e'
  | c, e => denCode P (retT P fn) c [] e (retT P fn)
def denFunD (P : Program) (fn : Func) (args : List Value) : T := match fn.body with
  | some c => bif (writes c).all fun d => Nat.blt d fn.ntmps then denD P fn c (envOf 0 args) else .stuck
  | none => .stuck
/-- A deferred function's body whose first operation recovers: v is what it recovers. -/
def denRec (P : Program) (fn : Func) (v : Value) : Code → Env → T
  | .seq (.region _ ops false) y, e => match ops[0]?, guardsOf ops with
    | some o, [] => match o.op, o.guard with
      | .call c, none => match c.callee with
        | .builtin .recover => denOps P ops [] (List.range' 1 (ops.size - 1)) (e.put o.dst v) fun e' => denCode P (retT P fn) y [] e' (retT P fn)
        | _ => .stuck
      | _, _ => .stuck
    | _, _ => .stuck
  | _, _ => .stuck
def denFunRec (P : Program) (fn : Func) (v : Value) (args : List Value) : T := match fn.body with
  | some c => bif (writes c).all fun d => Nat.blt d fn.ntmps then denRec P fn v c (envOf 0 args) else .stuck
  | none => .stuck

section
variable {P : Program} {ops : Array Oper}

theorem ir_defer {Q : Exit → Act → World → Prop} {a : Act} {w : World} {i : Nat} {rest : List Nat} {o : Oper} {d : Deferred} {w' : World} (ho : ops[i]? = some o) (hw : Region.wanted o (yielded ops a.tmps) = true)
    (hr : (execOp a.eval o).run P w = .ok (.defer d) w') (H : IR P ops rest Q ({ a with defers := d :: a.defers }.put o.dst undef) w') : IR P ops (i :: rest) Q a w := fun b k cs => by
  obtain ⟨e, a', w'', hq, harr⟩ := H b k cs
  refine ⟨e, a', w'', hq, .of_steps (.one (step_lone_go ?_)) harr⟩
  have : ({ b.at a (.inRegion ops (i :: rest) :: k) with defers := d :: a.defers } : Frame).finish undef =
      b.at ({ a with defers := d :: a.defers }.put o.dst undef) (.inRegion ops rest :: k) := by
    have := Frame.finish_at b { a with defers := d :: a.defers } ops i rest k undef
    rw [ho] at this; exact this
  rw [stepG_op ho hw]
  simp only [stepG.apply, Sem.runT_eq, hr, GStep.bare_after]
  exact congrArg (fun fr => GStep.go { frame := fr, callers := cs, status := .running, dying := none } w') this

/-- A call's ends, read as heaps. -/
def endOf (w0 : World) (R : Fin → Heap → Prop) : Ending → World → Prop := fun e w' => Same w0 w' ∧ match e with
  | .returned v => R (.ret v) w'.heap
  | .panicked c => R (.pan c) w'.heap
  | .outgrown => False

theorem deferOf_ok {e : Env} {a : Act} {f : FuncId} {args : List Value} (hag : Agrees e a.tmps) (hd : deferOf P ops e = some (f, args)) :
    ∃ o d fv cap, ops[ops.size - 1]? = some o ∧ o.dst = none ∧ o.guard = none ∧ (∀ w, (execOp a.eval o).run P w = .ok (.defer d) w) ∧ d.target = .fn fv cap ∧
      ∀ w, (invoke d.target d.args).run P w = .ok (.enter f args.toArray) w := by
  unfold deferOf at hd
  split at hd
  case h_2 => cases hd
  rename_i o ho
  split at hd
  case h_2 => cases hd
  rename_i c hop hg hds
  split at hd
  case h_2 => cases hd
  rename_i x hx
  split at hd
  case h_2 => cases hd
  rename_i g first cap hall hev
  split at hd
  case h_2 => cases hd
  rename_i fn hfn
  split at hd
  case h_2 => cases hd
  rename_i hname hbody
  simp only [Option.some.injEq, Prod.mk.injEq] at hd
  obtain ⟨rfl, rfl⟩ := hd
  rw [Bool.and_eq_true] at hall
  have e1 : a.eval x = .func (.func g) first cap := by rw [hag.ev hall.1]; exact hev
  have e2 : c.args.map a.eval = c.args.map e.ev := by
    apply Array.map_congr_left
    intro y hy
    exact hag.ev (List.all_eq_true.1 hall.2 y (Array.mem_toList_iff.2 hy))
  refine ⟨o, { target := .fn (.func g) cap, args := first ++ c.args.map e.ev }, .func g, cap, ho, hds, hg, fun w => ?_, rfl, fun w => ?_⟩
  · simp only [execOp, hop, resolve, hx, e1, e2, Deferred.ofValue, bind, pure, Sem.bind, Sem.run]
  · simp only [invoke, callFunc, program, bind, Sem.bind, pure, Sem.run, hfn, hname, hbody, Bool.false_eq_true, if_false]

theorem quiet0_rets : Rets P quiet0 := fun _ _ _ _ hq H => hq _ _ H

theorem denD_ok {fn : Func} {R : Fin → Heap → Prop} {w0 : World} (hm : P.follows .mixedOrders = true) (code : Code) :
    ∀ (e : Env) (a : Act) (w : World), Agrees e a.tmps → Bound (writes code) a → a.defers = [] → Same w0 w → (denD P fn code e).wp P (finOf R) w.heap →
      code.wp P (bodyPostD P fn (endOf w0 R)) a w := by
  have fin : ∀ (e' : Env) (a' : Act) (w' : World), Agrees e' a'.tmps → a'.defers = [] → Same w0 w' → (retT P fn e').wp P (finOf R) w'.heap → Leaves P fn a'.tmps (endOf w0 R) a'.defers .returning w' := by
    intro e' a' w' h1 hd hs h4
    obtain ⟨v, g1, g2⟩ := retT_ok h1 h4
    rw [hd]
    exact ⟨v, g1, hs, g2⟩
  have finp : ∀ (ch : List PanicEntry) (a' : Act) (w' : World), a'.defers = [] → Same w0 w' → finOf R (.pan ch) w'.heap → Leaves P fn a'.tmps (endOf w0 R) a'.defers (.panicking ch) w' := by
    intro ch a' w' hd hs h4
    rw [hd]
    exact ⟨hs, h4⟩
  have base : ∀ (code : Code) (e : Env) (a : Act) (w : World), Agrees e a.tmps → Bound (writes code) a → a.defers = [] → Same w0 w → (denCode P (retT P fn) code [] e (retT P fn)).wp P (finOf R) w.heap →
      code.wp P (bodyPostD P fn (endOf w0 R)) a w := by
    intro code e a w hag hb hd hs H
    exact denCode_ok hm (retT_rets fn) code [] e _ (finOf R) a w _ hag hb H (fun e' a' w' h1 h2 h3 h4 => fin e' a' w' h1 (h2.2.1.trans hd) (hs.trans h3) h4)
      ⟨fun id p hp => (by cases hp), fun e' a' w' h1 h2 h3 h4 => fin e' a' w' h1 (h2.2.1.trans hd) (hs.trans h3) h4, fun ch a' w' h1 h2 h3 => finp ch a' w' (h1.2.1.trans hd) (hs.trans h2) h3⟩
  induction code with
  | seq x y ihx ihy =>
    intro e a w hag hb hd hs H
    have hbx : Bound (writes x) a := fun d hd => hb d (List.mem_append_left _ hd)
    have hby : Bound (writes y) a := fun d hd => hb d (List.mem_append_right _ hd)
    simp only [denD] at H
    split at H
    · rename_i ops hdr
      cases x with
      | region id ops' draw =>
        cases draw with
        | true => simp [deferRegion] at hdr
        | false =>
          simp only [deferRegion] at hdr
          split at hdr
          case h_2 => cases hdr
          rename_i hdf hgs
          cases hdr
          have hW : ∀ o ∈ ops, ∀ d, o.dst = some d → d ∈ ops.toList.filterMap (·.dst) := fun o ho d hd => List.mem_filterMap.2 ⟨o, Array.mem_toList_iff.2 ho, hd⟩
          have hsz : ops.size ≠ 0 := by
            intro h0
            unfold defers at hdf
            simp [h0] at hdf
          have hrange : List.range ops.size = List.range (ops.size - 1) ++ [ops.size - 1] := by
            have : ops.size = (ops.size - 1) + 1 := by omega
            rw [this, List.range_succ]
            simp
          refine wp_seq fun b k' cs => ?_
          have hir : IR P ops (List.range ops.size) (Exit.then (y.wp P (bodyPostD P fn (endOf w0 R))) (bodyPostD P fn (endOf w0 R))) a w := by
            rw [hrange]
            refine denOps_irT hW [ops.size - 1] (List.range (ops.size - 1)) e a w hag hbx H (fun e' a' w' h1 h2 h3 h4 => ?_) (fun ch a' w' h1 h2 h3 => ?_)
            · split at h4
              case h_2 => exact h4.elim
              rename_i f args hdo
              obtain ⟨o, d, fv, cap, ho, hds, hg, hex, htar, hinv⟩ := deferOf_ok h1 hdo
              refine ir_defer ho (by simp [Region.wanted, hg]) (hex w') (ir_nil ?_)
              rw [hds]
              show y.wp P (bodyPostD P fn (endOf w0 R)) { a' with defers := d :: a'.defers } w'
              have hd' : a'.defers = [] := h2.2.1.trans hd
              simp only [T.wp] at h4
              have hb' : Bound (writes y) a' := hby.fr h2
              have fin2 : ∀ (u : FrameMode) (a3 : Act) (w3 : World), u ≠ .run → Fr (writes y) { a' with defers := d :: a'.defers } a3 → Same w' w3 →
                  CallsDH P f args u w3.heap (fun e u h'' => match e with
                    | .ret _ => (match settle u with
                        | .returning => (retT P fn (e'.kill (writes y))).wp P (finOf R) h''
                        | .panicking c => finOf R (.pan c) h''
                        | .run => False)
                    | .pan _ => False) → Leaves P fn a3.tmps (endOf w0 R) a3.defers u w3 := by
                intro u a3 w3 hu hf h3' hcd
                have ed : a3.defers = [d] := by rw [hf.2.1, hd']
                rw [ed]
                refine ⟨hu, fv, cap, f, args.toArray, htar, hinv w3, (hcd w3 rfl).mono fun e2 u' w4 he => ?_⟩
                obtain ⟨s4, he⟩ := he
                cases e2 with
                | panicked c => exact he.elim
                | outgrown => exact he.elim
                | returned v =>
                  dsimp only at he ⊢
                  have s5 : Same w0 w4 := hs.trans (h3.trans (h3'.trans s4))
                  generalize settle u' = m at he ⊢
                  cases m with
                  | run => exact he.elim
                  | returning =>
                    have hk : Agrees (e'.kill (writes y)) a3.tmps := agrees_kill (a := { a' with defers := d :: a'.defers }) h1 hf
                    obtain ⟨v, g1, g2⟩ := retT_ok hk he
                    exact ⟨v, g1, s5, g2⟩
                  | panicking c => exact ⟨s5, he⟩
              have fin3 : ∀ (a3 : Act) (w3 : World), Fr (writes y) { a' with defers := d :: a'.defers } a3 → Same w' w3 →
                  CallsDH P f args .returning w3.heap (fun e u h'' => match e with
                    | .ret _ => settle u = .returning ∧ (retT P fn (e'.kill (writes y))).wp P (finOf R) h''
                    | .pan _ => False) → Leaves P fn a3.tmps (endOf w0 R) a3.defers .returning w3 := fun a3 w3 hf h3' hcd =>
                fin2 .returning a3 w3 (by simp) hf h3' (hcd.mono fun e2 u' h' he => by
                  cases e2 with
                  | ret v => dsimp only at he ⊢; rw [he.1]; exact he.2
                  | pan c => exact he)
              refine denCode_ok hm quiet0_rets y [] e' quiet0 _ { a' with defers := d :: a'.defers } w' _ h1 hb' h4 (fun e3 a3 w3 g1 g2 g3 g4 => ?_) ⟨fun id p hp => (by cases hp), fun e3 a3 w3 g1 g2 g3 g4 => ?_, fun ch a3 w3 g1 g2 g3 => ?_⟩
              · exact fin3 a3 w3 g2 g3 g4
              · exact fin3 a3 w3 g2 g3 g4
              · exact fin2 (.panicking ch) a3 w3 (by simp) g1 g2 g3
            · exact finp ch a' w' (h1.2.1.trans hd) (hs.trans h2) h3
          obtain ⟨ex, a', w', hq, harr⟩ := hir b k' cs
          exact ⟨ex, a', w', hq, .of_steps (.one step_region) harr⟩
      | _ => simp [deferRegion] at hdr
    · refine wp_seq (denCode_ok hm (retT_rets fn) x [] e _ (finOf R) a w _ hag hbx H (fun e' a' w' h1 h2 h3 h4 => ?_)
        ⟨fun id p hp => (by cases hp), fun e' a' w' h1 h2 h3 h4 => fin e' a' w' h1 (h2.2.1.trans hd) (hs.trans h3) h4, fun ch a' w' h1 h2 h3 => finp ch a' w' (h1.2.1.trans hd) (hs.trans h2) h3⟩)
      exact ihy e' a' w' h1 (hby.fr h2) (h2.2.1.trans hd) (hs.trans h3) h4
  | _ => exact base _

theorem args_agree {fn : Func} (args : List Value) : Agrees (envOf 0 args) (args.toArray ++ Array.replicate (fn.ntmps - args.toArray.size) undef) := by
  have := envOf_agrees args 0 [] (List.replicate (fn.ntmps - args.toArray.size) undef) rfl
  have e : ([] ++ args ++ List.replicate (fn.ntmps - args.toArray.size) undef).toArray = args.toArray ++ Array.replicate (fn.ntmps - args.toArray.size) undef := by
    apply Array.ext'
    simp
  rw [← e]; exact this
theorem args_bound {fn : Func} {c : Code} (args : List Value) (hall : ((writes c).all fun d => Nat.blt d fn.ntmps) = true) :
    Bound (writes c) { tmps := args.toArray ++ Array.replicate (fn.ntmps - args.toArray.size) undef, defers := [] } := by
  intro d hd
  have := List.all_eq_true.1 hall d hd
  have hlt : d < fn.ntmps := by simpa [Nat.blt_eq] using this
  simp
  omega

/-- A call of a function that may defer one. -/
theorem calls_ofD {f : FuncId} {fn : Func} {args : List Value} {h : Heap} {R : Fin → Heap → Prop} (hm : P.follows .mixedOrders = true) (hf : P.funcs[f]? = some fn)
    (H : (denFunD P fn args).wp P (finOf R) h) : CallsH P f args h R := by
  intro w hw
  subst hw
  unfold denFunD at H
  split at H
  · rename_i c hc
    cases hall : (writes c).all fun d => Nat.blt d fn.ntmps with
    | false => rw [hall] at H; exact H.elim
    | true =>
      rw [hall] at H
      simp only [cond_true] at H
      exact calls_of_wp_defers hf hc (denD_ok hm c _ _ w (args_agree args) (args_bound args hall) rfl (.refl w) H)
  · exact H.elim

/-- A deferred call of a function that defers and recovers nothing. -/
theorem callsDH_of {f : FuncId} {fn : Func} {args : List Value} {u : FrameMode} {h : Heap} {R : Fin → FrameMode → Heap → Prop} (hm : P.follows .mixedOrders = true) (hf : P.funcs[f]? = some fn)
    (H : (denFun P fn args).wp P (finOf fun e h' => R e u h') h) : CallsDH P f args u h R := by
  intro w hw
  subst hw
  unfold denFun at H
  split at H
  · rename_i c hc
    cases hall : (writes c).all fun d => Nat.blt d fn.ntmps with
    | false => rw [hall] at H; exact H.elim
    | true =>
      rw [hall] at H
      simp only [cond_true] at H
      refine CallsD.mono (callsD_of_wp (R := endOf w fun e h' => R e u h') hf hc ?_) (fun e u' w' he => ?_)
      · refine denCode_ok hm (retT_rets fn) c [] _ _ (finOf fun e h' => R e u h') _ w _ (args_agree args) (args_bound args hall) H (fun e' a' w' h1 h2 h3 h4 => ?_) ⟨fun id p hp => (by cases hp), fun e' a' w' h1 h2 h3 h4 => ?_, fun ch a' w' h1 h2 h3 => ⟨h1.2.1, h2, h3⟩⟩
        · obtain ⟨v, g1, g2⟩ := retT_ok h1 h4
          exact ⟨h2.2.1, v, g1, h3, g2⟩
        · obtain ⟨v, g1, g2⟩ := retT_ok h1 h4
          exact ⟨h2.2.1, v, g1, h3, g2⟩
      · obtain ⟨rfl, s, he⟩ := he
        refine ⟨s, ?_⟩
        cases e <;> exact he
  · exact H.elim

theorem wpS_rec {Q : Exit → Act → List Frame → World → Prop} {id : Nat} {o : Oper} {rest : List Nat} {a : Act} {cs cs' : List Frame} {w : World} {v : Value} (hr : List.range ops.size = 0 :: rest) (ho : ops[0]? = some o)
    (hw : Region.wanted o (yielded ops a.tmps) = true) (hx : (execOp a.eval o).run P w = .ok .recover w) (hrec : recoverD cs = some (v, cs') ∨ (recoverD cs = none ∧ v = .nilIface ∧ cs' = cs))
    (H : IR P ops rest (fun e a' w' => Q e a' cs' w') (a.put o.dst v) w) : (Code.region id ops false).wpS P Q a cs w := fun b k hb hro => by
  obtain ⟨e, a', w', hq, harr⟩ := H b k cs'
  refine ⟨e, a', cs', w', hq, .of_steps (.head step_region (.one (step_lone_go ?_))) harr⟩
  have hg := stepG_op (P := P) (b := b) (k := k) (cs := cs) (w := w) (rest := rest) ho hw
  have hfin : ∀ v, (b.at a (.inRegion ops (0 :: rest) :: k)).finish v = b.at (a.put o.dst v) (.inRegion ops rest :: k) := by
    intro v; rw [Frame.finish_at, ho]; rfl
  have hk : (b.at a (.inRegion ops (0 :: rest) :: k)).kind = .deferred := hb
  have htr := tryRecover_deferred hk cs
  rw [hr, hg, ← hfin]
  rcases hrec with hrec | ⟨hrec, rfl, rfl⟩
  · rw [hrec] at htr
    simp only [Frame.at] at htr ⊢
    simp [stepG.apply, hx, htr]
  · rw [hrec] at htr
    simp only [Frame.at] at htr ⊢
    simp [stepG.apply, hx, htr]

/-- A deferred call of a function that recovers first of all. -/
theorem callsDH_rec {f : FuncId} {fn : Func} {args : List Value} {u u' : FrameMode} {v : Value} {h : Heap} {R : Fin → FrameMode → Heap → Prop} (hm : P.follows .mixedOrders = true) (hf : P.funcs[f]? = some fn)
    (hu : (∃ older, u = .panicking ({ v, recovered := false } :: older) ∧ u' = .panicking ({ v, recovered := true } :: older)) ∨ (u = .returning ∧ v = .nilIface ∧ u' = u))
    (H : (denFunRec P fn v args).wp P (finOf fun e h' => R e u' h') h) : CallsDH P f args u h R := by
  intro w hw
  subst hw
  unfold denFunRec at H
  split at H
  · rename_i c hc
    cases hall : (writes c).all fun d => Nat.blt d fn.ntmps with
    | false => rw [hall] at H; exact H.elim
    | true =>
      rw [hall] at H
      simp only [cond_true] at H
      refine callsD_of_wpS hf hc fun c₀ cs hmode => ?_
      have hag := args_agree (fn := fn) args
      have hb := args_bound args hall
      generalize hA : ({ tmps := args.toArray ++ Array.replicate (fn.ntmps - args.toArray.size) undef, defers := [] } : Act) = A at hb ⊢
      have hag' : Agrees (envOf 0 args) A.tmps := by rw [← hA]; exact hag
      have hAd : A.defers = [] := by rw [← hA]
      have hrec : recoverD (c₀ :: cs) = some (v, { c₀ with mode := u' } :: cs) ∨ (recoverD (c₀ :: cs) = none ∧ v = .nilIface ∧ ({ c₀ with mode := u' } :: cs) = c₀ :: cs) := by
        rcases hu with ⟨older, rfl, rfl⟩ | ⟨rfl, rfl, rfl⟩
        · left; simp [recoverD, hmode]
        · right; refine ⟨by simp [recoverD, hmode], rfl, ?_⟩
          rw [← hmode]
      unfold denRec at H
      split at H
      case h_2 => exact H.elim
      rename_i id ops y
      split at H
      case h_2 => exact H.elim
      rename_i o ho hgs
      split at H
      case h_2 => exact H.elim
      rename_i cl hop hgd
      split at H
      case h_2 => exact H.elim
      rename_i hcl
      have hW : ∀ o ∈ ops, ∀ d, o.dst = some d → d ∈ ops.toList.filterMap (·.dst) := fun o ho d hd => List.mem_filterMap.2 ⟨o, Array.mem_toList_iff.2 ho, hd⟩
      have hbx : Bound (ops.toList.filterMap (·.dst)) A := fun d hd => hb d (List.mem_append_left _ hd)
      have hby : Bound (writes y) A := fun d hd => hb d (List.mem_append_right _ hd)
      have hdW : ∀ d, o.dst = some d → d ∈ ops.toList.filterMap (·.dst) := hW o (Array.mem_of_getElem? ho)
      have hsz : ops.size = (ops.size - 1) + 1 := by
        have : 0 < ops.size := by
          rcases Nat.eq_zero_or_pos ops.size with h0 | h0
          · simp [h0] at ho
          · exact h0
        omega
      have hrange : List.range ops.size = 0 :: List.range' 1 (ops.size - 1) := by
        rw [List.range_eq_range', hsz, List.range'_succ]
        simp
      have fin : ∀ (e' : Env) (a' : Act) (w' : World), Agrees e' a'.tmps → a'.defers = [] → Same w w' → (retT P fn e').wp P (finOf fun e h' => R e u' h') w'.heap →
          a'.defers = [] ∧ ∃ u2, ({ c₀ with mode := u' } :: cs : List Frame) = { c₀ with mode := u2 } :: cs ∧ ∃ v, (results fn a'.tmps).run P w' = .ok v w' ∧ (Same w w' ∧ R (.ret v) u2 w'.heap) := by
        intro e' a' w' h1 hd hs h4
        obtain ⟨v, g1, g2⟩ := retT_ok h1 h4
        exact ⟨hd, u', rfl, v, g1, hs, g2⟩
      have f0 : Fr (ops.toList.filterMap (·.dst)) A (A.put o.dst v) := Fr.put _ A _ _ hdW
      refine wpS_seq (wpS_rec hrange ho (by simp [Region.wanted, hgd]) (by simp only [execOp, hop, resolve, hcl, bind, pure, Sem.bind, Sem.run, invoke, builtin]) hrec ?_)
      refine denOps_ir hW (List.range' 1 (ops.size - 1)) _ _ w (hag'.put o.dst v fun d hd => hbx d (hdW d hd)) (hbx.fr f0) H (fun e' a' w' h1 h2 h3 h4 => ?_) (fun ch a' w' h1 h2 h3 => ?_)
      · have hd' : a'.defers = [] := h2.2.1.trans (f0.2.1.trans hAd)
        refine wpS_of_wp (denCode_ok hm (retT_rets fn) y [] e' _ (finOf fun e h' => R e u' h') a' w' _ h1 (hby.fr (f0.trans h2)) h4 (fun e2 a2 w2 g1 g2 g3 g4 => ?_) ⟨fun id p hp => (by cases hp), fun e2 a2 w2 g1 g2 g3 g4 => ?_, fun ch a2 w2 g2 g3 g4 => ?_⟩)
        · exact fin e2 a2 w2 g1 (g2.2.1.trans hd') (h3.trans g3) g4
        · exact fin e2 a2 w2 g1 (g2.2.1.trans hd') (h3.trans g3) g4
        · exact ⟨g2.2.1.trans hd', u', rfl, h3.trans g3, g4⟩
      · exact ⟨h1.2.1.trans (f0.2.1.trans hAd), u', rfl, h2, h3⟩
  · exact H.elim
end
end Go.Eng

namespace Go.Proofs.YteligkemohngiaaGreatDoor
open Go Go.Eng
set_option linter.unusedVariables false
set_option maxRecDepth 100000

/-- tronage/tronagelaw24.ParseSums -/
noncomputable def tronagelaw24_ParseSums_T (l_0_p : Option Addr) (l_0_n l_0_c : Nat) : T :=
  T.call 5 [] (.one (.atom .bool)) fun (t1 : Bool) =>
  T.join [(.atom .bool)]
  (cond (decide (((l_0_n : Nat) : Int) < (1 : Int)))
  (T.out [(.bool true)])
  (T.out [(.bool (decide (((l_0_n : Nat) : Int) > (20 : Int))))])) fun (z2 : Bool × Unit) =>
  cond z2.1
  (T.ret (.bool t1))
  (T.call 7 [] (.one (.agg [(.int .i64), (.int .i64), (.int .i64), (.int .i64), (.int .i64), (.int .i64)])) fun (t3 : Int × Int × Int × Int × Int × Int × Unit) =>
  T.call 6 [(.string { data := #[37, 116, 111, 107, 101, 110, 32, 78, 32, 91, 48, 45, 57, 93, 43, 32, 37, 116, 111, 107, 101, 110, 32, 80, 32, 34, 43, 34, 32, 37, 108, 101, 102, 116, 32, 80, 32, 37, 37, 32, 69, 32, 58, 32, 69, 32, 80, 32, 69, 32, 123, 36, 49, 32, 43, 32, 36, 51, 125, 32, 124, 32, 78, 32, 59] }), (.agg #[(.int .i64 t3.1), (.int .i64 t3.2.1), (.int .i64 t3.2.2.1), (.int .i64 t3.2.2.2.1), (.int .i64 t3.2.2.2.2.1), (.int .i64 t3.2.2.2.2.2.1)])] (.tuple [(.atom .pointer), (.agg [(.int .i64), (.int .i64), (.int .i64), (.int .i64), (.int .i64), .string, .slice, .slice, (.int .i64), (.int .i64)])]) fun (t4 : (Option Addr) × (Int × Int × Int × Int × Int × ByteArray × (Option Addr × Nat × Nat) × (Option Addr × Nat × Nat) × Int × Int × Unit) × Unit) =>
  T.new (.cells #[(.int .i64 (0 : Int)), (.int .i64 (0 : Int)), (.int .i64 (0 : Int)), (.int .i64 (0 : Int)), (.int .i64 (0 : Int)), (.string { data := #[] }), (.slice none 0 0), (.slice none 0 0), (.int .i64 (0 : Int)), (.int .i64 (0 : Int))] 33 (0, 0)) fun r5 =>
  T.store ⟨r5, 0, none⟩ (.int .i64 t4.2.1.1) <|
  T.store ⟨r5, 1, none⟩ (.int .i64 t4.2.1.2.1) <|
  T.store ⟨r5, 2, none⟩ (.int .i64 t4.2.1.2.2.1) <|
  T.store ⟨r5, 3, none⟩ (.int .i64 t4.2.1.2.2.2.1) <|
  T.store ⟨r5, 4, none⟩ (.int .i64 t4.2.1.2.2.2.2.1) <|
  T.store ⟨r5, 5, none⟩ (.string t4.2.1.2.2.2.2.2.1) <|
  T.store ⟨r5, 6, none⟩ (.slice t4.2.1.2.2.2.2.2.2.1.1 t4.2.1.2.2.2.2.2.2.1.2.1 t4.2.1.2.2.2.2.2.2.1.2.2) <|
  T.store ⟨r5, 7, none⟩ (.slice t4.2.1.2.2.2.2.2.2.2.1.1 t4.2.1.2.2.2.2.2.2.2.1.2.1 t4.2.1.2.2.2.2.2.2.2.1.2.2) <|
  T.store ⟨r5, 8, none⟩ (.int .i64 t4.2.1.2.2.2.2.2.2.2.2.1) <|
  T.store ⟨r5, 9, none⟩ (.int .i64 t4.2.1.2.2.2.2.2.2.2.2.2.1) <|
  cond (Option.isNone t4.1)
  (T.ret (.bool false))
  (T.block 0 [(.atom (.int .i64)), (.atom .string), (.atom (.int .i64)), (.atom .string)]
  (T.loop [(.atom (.int .i64)), (.atom .string), (.atom (.int .i64)), (.atom .string)] [(.int .i64 (0 : Int)), (.string { data := #[40, 69, 32, 78, 41] }), (.int .i64 (0 : Int)), (.string { data := #[] })] fun (z7 : Int × ByteArray × Int × ByteArray × Unit) =>
  cond (decide (z7.1 < ((l_0_n : Nat) : Int)))
  (T.join [(.atom .string), (.atom .string)]
  (cond (decide (z7.1 > (0 : Int)))
  (chk (((ByteArray.size z7.2.2.2.1 + ByteArray.size { data := #[43] } : Nat) : Int) ≤ IntKind.max .i64) <|
  chk (((ByteArray.size { data := #[40, 69, 32] } + ByteArray.size z7.2.1 : Nat) : Int) ≤ IntKind.max .i64) <|
  chk (((ByteArray.size ({ data := #[40, 69, 32] } ++ z7.2.1) + ByteArray.size { data := #[32, 80, 32, 40, 69, 32, 78, 41, 41] } : Nat) : Int) ≤ IntKind.max .i64) <|
  T.out [(.string (({ data := #[40, 69, 32] } ++ z7.2.1) ++ { data := #[32, 80, 32, 40, 69, 32, 78, 41, 41] })), (.string (z7.2.2.2.1 ++ { data := #[43] }))])
  (T.out [(.string z7.2.1), (.string z7.2.2.2.1)])) fun (z8 : ByteArray × ByteArray × Unit) =>
  deref l_0_p fun a9 =>
  chk (0 ≤ z7.1 ∧ z7.1 < (l_0_n : Nat)) <|
  T.load (.int .u32) (a9.add (Int.toNat z7.1 * 1)) fun (t10 : Int) =>
  T.block 2 [(.atom (.int .i64)), (.atom .string)]
  (T.loop [(.atom (.int .i64)), (.atom .string)] [(.int .i64 (IntKind.wrap .i64 t10)), (.string { data := #[] })] fun (z12 : Int × ByteArray × Unit) =>
  T.join [(.atom .bool)]
  (cond (decide (z12.1 > (0 : Int)))
  (T.out [(.bool true)])
  (T.out [(.bool (ByteArray.toList z12.2.1 == ByteArray.toList { data := #[] }))])) fun (z13 : Bool × Unit) =>
  cond z13.1
  (chk ((10 : Int) ≠ 0) <|
  chk ((10 : Int) ≠ 0) <|
  chk (0 ≤ (Int.tmod z12.1 (10 : Int)) ∧ (Int.tmod z12.1 (10 : Int)) ≤ (IntKind.wrap .i64 ((Int.tmod z12.1 (10 : Int)) + (1 : Int))) ∧ (IntKind.wrap .i64 ((Int.tmod z12.1 (10 : Int)) + (1 : Int))) ≤ (ByteArray.size { data := #[48, 49, 50, 51, 52, 53, 54, 55, 56, 57] } : Nat)) <|
  chk (((ByteArray.size (ByteArray.extract { data := #[48, 49, 50, 51, 52, 53, 54, 55, 56, 57] } (Int.toNat (Int.tmod z12.1 (10 : Int))) (Int.toNat (IntKind.wrap .i64 ((Int.tmod z12.1 (10 : Int)) + (1 : Int))))) + ByteArray.size z12.2.1 : Nat) : Int) ≤ IntKind.max .i64) <|
  chk ((10 : Int) ≠ 0) <|
  T.out [(.int .i64 (IntKind.wrap .i64 (Int.tdiv z12.1 (10 : Int)))), (.string ((ByteArray.extract { data := #[48, 49, 50, 51, 52, 53, 54, 55, 56, 57] } (Int.toNat (Int.tmod z12.1 (10 : Int))) (Int.toNat (IntKind.wrap .i64 ((Int.tmod z12.1 (10 : Int)) + (1 : Int))))) ++ z12.2.1))])
  (T.brk 2 [(.int .i64 z12.1), (.string z12.2.1)])) fun (z11 : Int × ByteArray × Unit) =>
  chk (((ByteArray.size z8.2.1 + ByteArray.size z11.2.1 : Nat) : Int) ≤ IntKind.max .i64) <|
  T.out [(.int .i64 (IntKind.wrap .i64 (z7.1 + (1 : Int)))), (.string z8.1), (.int .i64 (IntKind.wrap .i64 (z7.2.2.1 + (IntKind.wrap .i64 t10)))), (.string (z8.2.1 ++ z11.2.1))])
  (T.brk 0 [(.int .i64 z7.1), (.string z7.2.1), (.int .i64 z7.2.2.1), (.string z7.2.2.2.1)])) fun (z6 : Int × ByteArray × Int × ByteArray × Unit) =>
  T.call 7 [] (.one (.agg [(.int .i64), (.int .i64), (.int .i64), (.int .i64), (.int .i64), (.int .i64)])) fun (t14 : Int × Int × Int × Int × Int × Int × Unit) =>
  T.call 8 [(.pointer t4.1), (.string z6.2.2.2.1), (.agg #[(.int .i64 t14.1), (.int .i64 t14.2.1), (.int .i64 t14.2.2.1), (.int .i64 t14.2.2.2.1), (.int .i64 t14.2.2.2.2.1), (.int .i64 t14.2.2.2.2.2.1)])] (.one (.agg [(.int .i64), (.int .i64), (.int .i64), (.int .i64), (.int .i64), .string, .slice, .slice, (.int .i64), (.int .i64)])) fun (t15 : Int × Int × Int × Int × Int × ByteArray × (Option Addr × Nat × Nat) × (Option Addr × Nat × Nat) × Int × Int × Unit) =>
  T.new (.cells #[(.int .i64 (0 : Int)), (.int .i64 (0 : Int)), (.int .i64 (0 : Int)), (.int .i64 (0 : Int)), (.int .i64 (0 : Int)), (.string { data := #[] }), (.slice none 0 0), (.slice none 0 0), (.int .i64 (0 : Int)), (.int .i64 (0 : Int))] 33 (0, 0)) fun r16 =>
  T.store ⟨r16, 0, none⟩ (.int .i64 t15.1) <|
  T.store ⟨r16, 1, none⟩ (.int .i64 t15.2.1) <|
  T.store ⟨r16, 2, none⟩ (.int .i64 t15.2.2.1) <|
  T.store ⟨r16, 3, none⟩ (.int .i64 t15.2.2.2.1) <|
  T.store ⟨r16, 4, none⟩ (.int .i64 t15.2.2.2.2.1) <|
  T.store ⟨r16, 5, none⟩ (.string t15.2.2.2.2.2.1) <|
  T.store ⟨r16, 6, none⟩ (.slice t15.2.2.2.2.2.2.1.1 t15.2.2.2.2.2.2.1.2.1 t15.2.2.2.2.2.2.1.2.2) <|
  T.store ⟨r16, 7, none⟩ (.slice t15.2.2.2.2.2.2.2.1.1 t15.2.2.2.2.2.2.2.1.2.1 t15.2.2.2.2.2.2.2.1.2.2) <|
  T.store ⟨r16, 8, none⟩ (.int .i64 t15.2.2.2.2.2.2.2.2.1) <|
  T.store ⟨r16, 9, none⟩ (.int .i64 t15.2.2.2.2.2.2.2.2.2.1) <|
  T.join [(.atom .bool)]
  (cond t1
  (T.load (.int .i64) ⟨r16, 0, none⟩ fun (t18 : Int) =>
  T.load (.int .i64) ⟨r16, 1, none⟩ fun (t19 : Int) =>
  T.load (.int .i64) ⟨r16, 2, none⟩ fun (t20 : Int) =>
  T.load (.int .i64) ⟨r16, 3, none⟩ fun (t21 : Int) =>
  T.load (.int .i64) ⟨r16, 4, none⟩ fun (t22 : Int) =>
  T.load .string ⟨r16, 5, none⟩ fun (t23 : ByteArray) =>
  T.load .slice ⟨r16, 6, none⟩ fun (t24 : Option Addr × Nat × Nat) =>
  T.load .slice ⟨r16, 7, none⟩ fun (t25 : Option Addr × Nat × Nat) =>
  T.load (.int .i64) ⟨r16, 8, none⟩ fun (t26 : Int) =>
  T.load (.int .i64) ⟨r16, 9, none⟩ fun (t27 : Int) =>
  T.call 9 [(.agg #[(.int .i64 t18), (.int .i64 t19), (.int .i64 t20), (.int .i64 t21), (.int .i64 t22), (.string t23), (.slice t24.1 t24.2.1 t24.2.2), (.slice t25.1 t25.2.1 t25.2.2), (.int .i64 t26), (.int .i64 t27)]), (.agg #[(.int .i64 (6 : Int)), (.int .i64 (0 : Int)), (.int .i64 (0 : Int)), (.int .i64 (0 : Int)), (.int .i64 (0 : Int)), (.string z6.2.1), (.slice none 0 0), (.slice none 0 0), (.int .i64 (1 : Int)), (.int .i64 z6.2.2.1)])] (.one (.atom .bool)) fun (t28 : Bool) =>
  T.out [(.bool t28)])
  (T.out [(.bool false)])) fun (z17 : Bool × Unit) =>
  T.ret (.bool z17.1)))
theorem tronagelaw24_ParseSums_den (l_0_p : Option Addr) (l_0_n l_0_c : Nat) : denFun Tryz.prog Tryz.f3 [(.slice l_0_p l_0_n l_0_c)] = tronagelaw24_ParseSums_T l_0_p l_0_n l_0_c := by kernel_rfl

/-- tronage/tronageref23.Same -/
noncomputable def tronageref23_Same_T (a_0 : Int × Int × Int × Int × Int × ByteArray × (Option Addr × Nat × Nat) × (Option Addr × Nat × Nat) × Int × Int × Unit) (b_1 : Int × Int × Int × Int × Int × ByteArray × (Option Addr × Nat × Nat) × (Option Addr × Nat × Nat) × Int × Int × Unit) : T :=
  T.new (.cells #[(.int .i64 a_0.1), (.int .i64 a_0.2.1), (.int .i64 a_0.2.2.1), (.int .i64 a_0.2.2.2.1), (.int .i64 a_0.2.2.2.2.1), (.string a_0.2.2.2.2.2.1), (.slice a_0.2.2.2.2.2.2.1.1 a_0.2.2.2.2.2.2.1.2.1 a_0.2.2.2.2.2.2.1.2.2), (.slice a_0.2.2.2.2.2.2.2.1.1 a_0.2.2.2.2.2.2.2.1.2.1 a_0.2.2.2.2.2.2.2.1.2.2), (.int .i64 a_0.2.2.2.2.2.2.2.2.1), (.int .i64 a_0.2.2.2.2.2.2.2.2.2.1)] 33 (0, 0)) fun r1 =>
  T.new (.cells #[(.int .i64 b_1.1), (.int .i64 b_1.2.1), (.int .i64 b_1.2.2.1), (.int .i64 b_1.2.2.2.1), (.int .i64 b_1.2.2.2.2.1), (.string b_1.2.2.2.2.2.1), (.slice b_1.2.2.2.2.2.2.1.1 b_1.2.2.2.2.2.2.1.2.1 b_1.2.2.2.2.2.2.1.2.2), (.slice b_1.2.2.2.2.2.2.2.1.1 b_1.2.2.2.2.2.2.2.1.2.1 b_1.2.2.2.2.2.2.2.1.2.2), (.int .i64 b_1.2.2.2.2.2.2.2.2.1), (.int .i64 b_1.2.2.2.2.2.2.2.2.2.1)] 33 (0, 0)) fun r2 =>
  T.join [(.atom .bool)]
  (T.load (.int .i64) ⟨r1, 0, none⟩ fun (t4 : Int) =>
  T.load (.int .i64) ⟨r2, 0, none⟩ fun (t5 : Int) =>
  cond (t4 == t5)
  (T.load (.int .i64) ⟨r1, 1, none⟩ fun (t6 : Int) =>
  T.load (.int .i64) ⟨r2, 1, none⟩ fun (t7 : Int) =>
  cond (t6 == t7)
  (T.load (.int .i64) ⟨r1, 2, none⟩ fun (t8 : Int) =>
  T.load (.int .i64) ⟨r1, 3, none⟩ fun (t9 : Int) =>
  T.load (.int .i64) ⟨r2, 2, none⟩ fun (t10 : Int) =>
  T.load (.int .i64) ⟨r2, 3, none⟩ fun (t11 : Int) =>
  cond ((t8 == t10) && ((t9 == t11) && true))
  (T.load (.int .i64) ⟨r1, 4, none⟩ fun (t12 : Int) =>
  T.load (.int .i64) ⟨r2, 4, none⟩ fun (t13 : Int) =>
  cond (t12 == t13)
  (T.load .string ⟨r1, 5, none⟩ fun (t14 : ByteArray) =>
  T.load .string ⟨r2, 5, none⟩ fun (t15 : ByteArray) =>
  cond (ByteArray.toList t14 == ByteArray.toList t15)
  (T.load (.int .i64) ⟨r1, 8, none⟩ fun (t16 : Int) =>
  T.load (.int .i64) ⟨r1, 9, none⟩ fun (t17 : Int) =>
  T.load (.int .i64) ⟨r2, 8, none⟩ fun (t18 : Int) =>
  T.load (.int .i64) ⟨r2, 9, none⟩ fun (t19 : Int) =>
  cond ((t16 == t18) && ((t17 == t19) && true))
  (T.load .slice ⟨r1, 7, none⟩ fun (t20 : Option Addr × Nat × Nat) =>
  T.load .slice ⟨r2, 7, none⟩ fun (t21 : Option Addr × Nat × Nat) =>
  T.call 18 [(.slice t20.1 t20.2.1 t20.2.2), (.slice t21.1 t21.2.1 t21.2.2)] (.one (.atom .bool)) fun (t22 : Bool) =>
  cond t22
  (T.load .slice ⟨r1, 6, none⟩ fun (t23 : Option Addr × Nat × Nat) =>
  T.load .slice ⟨r2, 6, none⟩ fun (t24 : Option Addr × Nat × Nat) =>
  T.call 19 [(.slice t23.1 t23.2.1 t23.2.2), (.slice t24.1 t24.2.1 t24.2.2)] (.one (.atom .bool)) fun (t25 : Bool) =>
  T.out [(.bool t25)])
  (T.out [(.bool false)]))
  (T.out [(.bool false)]))
  (T.out [(.bool false)]))
  (T.out [(.bool false)]))
  (T.out [(.bool false)]))
  (T.out [(.bool false)]))
  (T.out [(.bool false)])) fun (z3 : Bool × Unit) =>
  T.ret (.bool z3.1)
theorem tronageref23_Same_den (a_0 : Int × Int × Int × Int × Int × ByteArray × (Option Addr × Nat × Nat) × (Option Addr × Nat × Nat) × Int × Int × Unit) (b_1 : Int × Int × Int × Int × Int × ByteArray × (Option Addr × Nat × Nat) × (Option Addr × Nat × Nat) × Int × Int × Unit) : denFun Tryz.prog Tryz.f9 [(.agg #[(.int .i64 a_0.1), (.int .i64 a_0.2.1), (.int .i64 a_0.2.2.1), (.int .i64 a_0.2.2.2.1), (.int .i64 a_0.2.2.2.2.1), (.string a_0.2.2.2.2.2.1), (.slice a_0.2.2.2.2.2.2.1.1 a_0.2.2.2.2.2.2.1.2.1 a_0.2.2.2.2.2.2.1.2.2), (.slice a_0.2.2.2.2.2.2.2.1.1 a_0.2.2.2.2.2.2.2.1.2.1 a_0.2.2.2.2.2.2.2.1.2.2), (.int .i64 a_0.2.2.2.2.2.2.2.2.1), (.int .i64 a_0.2.2.2.2.2.2.2.2.2.1)]), (.agg #[(.int .i64 b_1.1), (.int .i64 b_1.2.1), (.int .i64 b_1.2.2.1), (.int .i64 b_1.2.2.2.1), (.int .i64 b_1.2.2.2.2.1), (.string b_1.2.2.2.2.2.1), (.slice b_1.2.2.2.2.2.2.1.1 b_1.2.2.2.2.2.2.1.2.1 b_1.2.2.2.2.2.2.1.2.2), (.slice b_1.2.2.2.2.2.2.2.1.1 b_1.2.2.2.2.2.2.2.1.2.1 b_1.2.2.2.2.2.2.2.1.2.2), (.int .i64 b_1.2.2.2.2.2.2.2.2.1), (.int .i64 b_1.2.2.2.2.2.2.2.2.2.1)])] = tronageref23_Same_T a_0 b_1 := by kernel_rfl

end Go.Proofs.YteligkemohngiaaGreatDoor

/-
  THE ENGINE, PART U: the words in which trees are proved: one law a node; what stays of a heap; rows of cells; append.
  Conditions: none; it speaks of any program.
-/
namespace Go.Eng
open Go

section
variable {P : Program} {Q : Leaf → Heap → Prop} {h : Heap}

/-! ## nodes -/
theorem t_load {s : Atom} {a : Addr} {k : s.Ty → T} (x : s.Ty) (hx : cellH h a = some (s.val x)) (H : (k x).wp P Q h) : (T.load s a k).wp P Q h := ⟨x, hx, H⟩
theorem t_store {a : Addr} {v : Value} {k : T} (hp : Value.plain v = true) (hs : (cellH h a).isSome = true) (hf : frozenH h a = false) (H : k.wp P Q (setCellH h a v)) : (T.store a v k).wp P Q h := ⟨hp, hs, hf, H⟩
theorem t_new {o : Obj} {k : Nat → T} (H : (k h.size).wp P Q (h.push o)) : (T.new o k).wp P Q h := H
theorem t_call {f : FuncId} {args : List Value} {sh : Sh} {k : sh.Ty → T} {R : Fin → Heap → Prop} (hc : CallsH P f args h R)
    (hk : ∀ e h', R e h' → ∃ x, e = .ret (sh.val x) ∧ (k x).wp P Q h') : (T.call f args sh k).wp P Q h := by
  simp only [T.wp]
  refine hc.mono fun e h' hr => ?_
  obtain ⟨x, rfl, H⟩ := hk e h' hr
  exact ⟨x, rfl, H⟩
theorem t_sem {s : Sem Value} {sh : Sh} {k : sh.Ty → T} (H : semWp P s (fun v h' => ∃ x : sh.Ty, v = sh.val x ∧ (k x).wp P Q h') (fun _ _ => False) h) : (T.sem s sh k).wp P Q h := by
  simp only [T.wp]
  exact semWp_mono s (fun _ _ x => x) (fun _ _ x => x.elim) H
theorem t_still {a : Addr} {v : Value} {k : T} (hx : cellH h a = some v) (H : k.wp P Q h) : (T.still a v k).wp P Q h := ⟨hx, H⟩
theorem t_both {x y : T} (hx : x.wp P Q h) (hy : y.wp P Q h) : (T.both x y).wp P Q h := ⟨hx, hy⟩
theorem t_cond {b : Bool} {x y : T} (hx : b = true → x.wp P Q h) (hy : b = false → y.wp P Q h) : (cond b x y).wp P Q h := by
  cases b
  · exact hy rfl
  · exact hx rfl
theorem t_true {b : Bool} {x y : T} (hb : b = true) (hx : x.wp P Q h) : (cond b x y).wp P Q h := by subst hb; exact hx
theorem t_false {b : Bool} {x y : T} (hb : b = false) (hy : y.wp P Q h) : (cond b x y).wp P Q h := by subst hb; exact hy
theorem t_deref {p : Option Addr} {k : Addr → T} (a : Addr) (hp : p = some a) (H : (k a).wp P Q h) : (deref p k).wp P Q h := by subst hp; exact H
theorem t_derefN {p : Option Nat} {k : Nat → T} (a : Nat) (hp : p = some a) (H : (k a).wp P Q h) : (derefN p k).wp P Q h := by subst hp; exact H
theorem t_chk {p : Prop} [Decidable p] {k : T} (hp : p) (H : k.wp P Q h) : (chk p k).wp P Q h := ⟨hp, H⟩
theorem t_ret {v : Value} (H : Q (.ret v) h) : (T.ret v).wp P Q h := H
theorem t_pan {v : Value} (H : Q (.pan [{ v, recovered := false }]) h) : (T.pan v).wp P Q h := H

def joinQ (P : Program) (ss : List Sh1) (k : Shs.Ty ss → T) (Q : Leaf → Heap → Prop) (lf : Leaf) (h' : Heap) : Prop := match lf with
  | .out vs => (match Shs.of ss vs with
      | some y => (k y).wp P Q h'
      | none => False)
  | lf => Q lf h'
theorem t_join {ss : List Sh1} {x : T} {k : Shs.Ty ss → T} (H : x.wp P (joinQ P ss k Q) h) : (T.join ss x k).wp P Q h := by
  simp only [T.wp]
  exact H
/-- Through an assertion at the join. -/
theorem t_join' {ss : List Sh1} {x : T} {k : Shs.Ty ss → T} (M : Shs.Ty ss → Heap → Prop) (H : x.wp P (fun lf h' => match lf with
      | .out vs => ∃ y, Shs.of ss vs = some y ∧ M y h'
      | lf => Q lf h') h) (hk : ∀ y h', M y h' → (k y).wp P Q h') : (T.join ss x k).wp P Q h := by
  refine t_join (T.wp_mono x (fun lf h' hl => ?_) H)
  cases lf with
  | out vs =>
    obtain ⟨y, hy, hm⟩ := hl
    show (match Shs.of ss vs with | some y => (k y).wp P Q h' | none => False)
    rw [hy]
    exact hk y h' hm
  | brk id vs => exact hl
  | ret v => exact hl
  | pan c => exact hl
theorem t_out {vs : List Value} (H : Q (.out vs) h) : (T.out vs).wp P Q h := H
theorem t_brk {id : Nat} {vs : List Value} (H : Q (.brk id vs) h) : (T.brk id vs).wp P Q h := H
theorem joinQ_out {ss : List Sh1} {k : Shs.Ty ss → T} {vs : List Value} (y : Shs.Ty ss) (hy : Shs.of ss vs = some y) (H : (k y).wp P Q h) : joinQ P ss k Q (.out vs) h := by
  show (match Shs.of ss vs with | some y => (k y).wp P Q h | none => False)
  rw [hy]
  exact H
def blockQ (P : Program) (id : Nat) (ss : List Sh1) (k : Shs.Ty ss → T) (Q : Leaf → Heap → Prop) (lf : Leaf) (h' : Heap) : Prop := match lf with
  | .out vs => (match Shs.of ss vs with
      | some y => (k y).wp P Q h'
      | none => False)
  | .brk id' vs => bif Nat.beq id' id then (match Shs.of ss vs with
      | some y => (k y).wp P Q h'
      | none => False) else Q (.brk id' vs) h'
  | lf => Q lf h'
theorem t_block {id : Nat} {ss : List Sh1} {x : T} {k : Shs.Ty ss → T} (H : x.wp P (blockQ P id ss k Q) h) : (T.block id ss x k).wp P Q h := by
  simp only [T.wp]
  exact H
theorem t_block' {id : Nat} {ss : List Sh1} {x : T} {k : Shs.Ty ss → T} (M : Shs.Ty ss → Heap → Prop) (H : x.wp P (fun lf h' => match lf with
      | .out vs => ∃ y, Shs.of ss vs = some y ∧ M y h'
      | .brk id' vs => bif Nat.beq id' id then (∃ y, Shs.of ss vs = some y ∧ M y h') else Q (.brk id' vs) h'
      | lf => Q lf h') h) (hk : ∀ y h', M y h' → (k y).wp P Q h') : (T.block id ss x k).wp P Q h := by
  refine t_block (T.wp_mono x (fun lf h' hl => ?_) H)
  cases lf with
  | out vs =>
    obtain ⟨y, hy, hm⟩ := hl
    show (match Shs.of ss vs with | some y => (k y).wp P Q h' | none => False)
    rw [hy]
    exact hk y h' hm
  | brk id' vs =>
    unfold blockQ
    dsimp only at hl ⊢
    cases hb : Nat.beq id' id with
    | true =>
      rw [hb] at hl
      obtain ⟨y, hy, hm⟩ := hl
      rw [hy]
      exact hk y h' hm
    | false => rw [hb] at hl; exact hl
  | ret v => exact hl
  | pan c => exact hl
theorem blockQ_out {id : Nat} {ss : List Sh1} {k : Shs.Ty ss → T} {vs : List Value} (y : Shs.Ty ss) (hy : Shs.of ss vs = some y) (H : (k y).wp P Q h) : blockQ P id ss k Q (.out vs) h := by
  show (match Shs.of ss vs with | some y => (k y).wp P Q h | none => False)
  rw [hy]
  exact H
theorem blockQ_brk {id : Nat} {ss : List Sh1} {k : Shs.Ty ss → T} {vs : List Value} (y : Shs.Ty ss) (hy : Shs.of ss vs = some y) (H : (k y).wp P Q h) : blockQ P id ss k Q (.brk id vs) h := by
  unfold blockQ
  have : Nat.beq id id = true := by simp
  simp only [this, cond_true, hy]
  exact H

def loopQ (ss : List Sh1) (I : Shs.Ty ss → Heap → Prop) (μ : Shs.Ty ss → Heap → Nat) (m : Nat) (Q : Leaf → Heap → Prop) (lf : Leaf) (h' : Heap) : Prop := match lf with
  | .out vs => (match Shs.of ss vs with
      | some y' => I y' h' ∧ μ y' h' < m
      | none => False)
  | lf => Q lf h'
theorem t_loop {ss : List Sh1} {init : List Value} {body : Shs.Ty ss → T} (I : Shs.Ty ss → Heap → Prop) (μ : Shs.Ty ss → Heap → Nat) (y0 : Shs.Ty ss) (h0 : Shs.of ss init = some y0) (hi : I y0 h)
    (hr : ∀ y h, I y h → (body y).wp P (loopQ ss I μ (μ y h) Q) h) : (T.loop ss init body).wp P Q h := ⟨I, μ, ⟨y0, h0, hi⟩, hr⟩
theorem loopQ_out {ss : List Sh1} {I : Shs.Ty ss → Heap → Prop} {μ : Shs.Ty ss → Heap → Nat} {m : Nat} {vs : List Value} (y : Shs.Ty ss) (hy : Shs.of ss vs = some y) (hI : I y h) (hm : μ y h < m) : loopQ ss I μ m Q (.out vs) h := by
  show (match Shs.of ss vs with | some y' => I y' h ∧ μ y' h < m | none => False)
  rw [hy]
  exact ⟨hI, hm⟩

/-- A loop with a way out: the relation I at each round's head, the measure, what holds at the way out. -/
def forQ (id : Nat) (ss : List Sh1) (I : Shs.Ty ss → Heap → Prop) (μ : Shs.Ty ss → Heap → Nat) (m : Nat) (M : Shs.Ty ss → Heap → Prop) (Q : Leaf → Heap → Prop) (lf : Leaf) (h' : Heap) : Prop := match lf with
  | .out vs => ∃ y, Shs.of ss vs = some y ∧ I y h' ∧ μ y h' < m
  | .brk id' vs => bif Nat.beq id' id then (∃ y, Shs.of ss vs = some y ∧ M y h') else Q (.brk id' vs) h'
  | lf => Q lf h'
theorem t_for {id : Nat} {ss : List Sh1} {init : List Value} {body : Shs.Ty ss → T} {k : Shs.Ty ss → T} (I : Shs.Ty ss → Heap → Prop) (μ : Shs.Ty ss → Heap → Nat) (M : Shs.Ty ss → Heap → Prop)
    (y0 : Shs.Ty ss) (h0 : Shs.of ss init = some y0) (hi : I y0 h) (hr : ∀ y h, I y h → (body y).wp P (forQ id ss I μ (μ y h) M Q) h) (hk : ∀ y h', M y h' → (k y).wp P Q h') :
    (T.block id ss (T.loop ss init body) k).wp P Q h := by
  refine t_block' M (t_loop I μ y0 h0 hi fun y g hI => T.wp_mono _ (fun lf h' hl => ?_) (hr y g hI)) hk
  cases lf with
  | out vs =>
    obtain ⟨y', h1, h2, h3⟩ := hl
    exact loopQ_out y' h1 h2 h3
  | brk id' vs => exact hl
  | ret v => exact hl
  | pan c => exact hl
section
variable {id : Nat} {ss : List Sh1} {I : Shs.Ty ss → Heap → Prop} {μ : Shs.Ty ss → Heap → Nat} {m : Nat} {M : Shs.Ty ss → Heap → Prop}
theorem t_next {vs : List Value} (y : Shs.Ty ss) (hy : Shs.of ss vs = some y) (hI : I y h) (hm : μ y h < m) : (T.out vs).wp P (forQ id ss I μ m M Q) h := ⟨y, hy, hI, hm⟩
theorem t_exit {vs : List Value} (y : Shs.Ty ss) (hy : Shs.of ss vs = some y) (hM : M y h) : (T.brk id vs).wp P (forQ id ss I μ m M Q) h := by
  show forQ id ss I μ m M Q (.brk id vs) h
  unfold forQ
  have : Nat.beq id id = true := by simp
  simp only [this, cond_true]
  exact ⟨y, hy, hM⟩
end
theorem t_jout {ss : List Sh1} {k : Shs.Ty ss → T} {vs : List Value} (y : Shs.Ty ss) (hy : Shs.of ss vs = some y) (H : (k y).wp P Q h) : (T.out vs).wp P (joinQ P ss k Q) h := joinQ_out y hy H
theorem t_bout {id : Nat} {ss : List Sh1} {k : Shs.Ty ss → T} {vs : List Value} (y : Shs.Ty ss) (hy : Shs.of ss vs = some y) (H : (k y).wp P Q h) : (T.out vs).wp P (blockQ P id ss k Q) h := blockQ_out y hy H
theorem t_bbrk {id : Nat} {ss : List Sh1} {k : Shs.Ty ss → T} {vs : List Value} (y : Shs.Ty ss) (hy : Shs.of ss vs = some y) (H : (k y).wp P Q h) : (T.brk id vs).wp P (blockQ P id ss k Q) h := blockQ_brk y hy H

theorem forQ_ret {id : Nat} {ss : List Sh1} {I : Shs.Ty ss → Heap → Prop} {μ : Shs.Ty ss → Heap → Nat} {m : Nat} {M : Shs.Ty ss → Heap → Prop} {v : Value} (H : Q (.ret v) h) : forQ id ss I μ m M Q (.ret v) h := H
theorem joinQ_ret {ss : List Sh1} {k : Shs.Ty ss → T} {v : Value} (H : Q (.ret v) h) : joinQ P ss k Q (.ret v) h := H
theorem blockQ_ret {id : Nat} {ss : List Sh1} {k : Shs.Ty ss → T} {v : Value} (H : Q (.ret v) h) : blockQ P id ss k Q (.ret v) h := H
/-- Through an inner join to a loop's own ends. -/
theorem joinQ_brk {ss : List Sh1} {k : Shs.Ty ss → T} {id : Nat} {vs : List Value} (H : Q (.brk id vs) h) : joinQ P ss k Q (.brk id vs) h := H
theorem forQ_brk {id : Nat} {ss : List Sh1} {I : Shs.Ty ss → Heap → Prop} {μ : Shs.Ty ss → Heap → Nat} {m : Nat} {M : Shs.Ty ss → Heap → Prop} {vs : List Value} (y : Shs.Ty ss) (hy : Shs.of ss vs = some y) (hM : M y h) : forQ id ss I μ m M Q (.brk id vs) h := by
  unfold forQ
  have : Nat.beq id id = true := by simp
  simp only [this, cond_true]
  exact ⟨y, hy, hM⟩

@[simp] theorem sh_val_atom (a : Atom) (x : a.Ty) : (Sh.one (Sh1.atom a)).val x = a.val x := rfl
@[simp] theorem sh1_val_atom (a : Atom) (x : a.Ty) : (Sh1.atom a).val x = a.val x := rfl
@[simp] theorem val_int (k : IntKind) (x : Int) : (Atom.int k).val x = .int k x := rfl
@[simp] theorem val_bool (x : Bool) : Atom.bool.val x = .bool x := rfl
@[simp] theorem val_string (x : ByteArray) : Atom.string.val x = .string x := rfl
@[simp] theorem val_pointer (x : Option Addr) : Atom.pointer.val x = .pointer x := rfl
@[simp] theorem val_slice (x : Option Addr × Nat × Nat) : Atom.slice.val x = .slice x.1 x.2.1 x.2.2 := rfl
@[simp] theorem val_map (x : Option Nat) : Atom.map.val x = .map x := rfl

theorem w64 {n : Int} (h0 : -9223372036854775808 ≤ n) (h1 : n ≤ 9223372036854775807) : IntKind.wrap .i64 n = n := IntWalk.i64_in n ⟨h0, h1⟩

/-- A call that comes back. -/
def Back (S : Value → Heap → Prop) (e : Fin) (h' : Heap) : Prop := ∃ v, e = .ret v ∧ S v h'
theorem t_callB {f : FuncId} {args : List Value} {sh : Sh} {k : sh.Ty → T} {S : Value → Heap → Prop} (hc : CallsH P f args h (Back S))
    (hk : ∀ v h', S v h' → ∃ x, v = sh.val x ∧ (k x).wp P Q h') : (T.call f args sh k).wp P Q h :=
  t_call hc fun e h' ⟨v, he, hs⟩ => by
    obtain ⟨x, hx, H⟩ := hk v h' hs
    exact ⟨x, by rw [he, hx], H⟩
theorem finOf_back {S : Value → Heap → Prop} {v : Value} (H : S v h) : finOf (Back S) (.ret v) h := ⟨v, rfl, H⟩
end

/-! ## what stays -/
/-- All blocks that were there are as they were, but for those of M. -/
def Keep (M : List Nat) (h h' : Heap) : Prop := h.size ≤ h'.size ∧ ∀ i, i < h.size → i ∉ M → h'[i]? = h[i]?
theorem Keep.refl (M : List Nat) (h : Heap) : Keep M h h := ⟨Nat.le_refl _, fun _ _ _ => rfl⟩
theorem Keep.trans {M : List Nat} {a b c : Heap} (h : Keep M a b) (k : Keep M b c) : Keep M a c :=
  ⟨Nat.le_trans h.1 k.1, fun i hi hm => (k.2 i (Nat.lt_of_lt_of_le hi h.1) hm).trans (h.2 i hi hm)⟩
theorem Keep.mono {M M' : List Nat} {a b : Heap} (h : Keep M a b) (hM : ∀ i, i ∈ M → i ∈ M') : Keep M' a b := ⟨h.1, fun i hi hm => h.2 i hi fun h' => hm (hM i h')⟩
/-- What is changed among new blocks alone. -/
theorem Keep.new {M M' : List Nat} {a b c : Heap} (h : Keep M a b) (k : Keep M' b c) (hM : ∀ i, i ∈ M' → i ∈ M ∨ a.size ≤ i) : Keep M a c :=
  ⟨Nat.le_trans h.1 k.1, fun i hi hm => (k.2 i (Nat.lt_of_lt_of_le hi h.1) fun h' => (hM i h').elim hm (fun g => by omega)).trans (h.2 i hi hm)⟩
theorem Keep.push (M : List Nat) (h : Heap) (o : Obj) : Keep M h (h.push o) := ⟨by simp, fun i hi _ => by rw [Array.getElem?_push]; simp; omega⟩
theorem Keep.set (h : Heap) (c : Nat) (o : Obj) : Keep [c] h (h.setIfInBounds c o) :=
  ⟨by simp, fun i _ hm => by simp at hm; rw [Array.getElem?_setIfInBounds_ne (fun e => hm e.symm)]⟩
theorem setCellH_ne {h : Heap} {a : Addr} {v : Value} {i : Nat} (hi : i ≠ a.block) : (setCellH h a v)[i]? = h[i]? := by
  unfold setCellH ofHeap World.setCell
  simp only [Array.getElem?_modify]
  rw [if_neg (by omega)]
theorem setCellH_size {h : Heap} {a : Addr} {v : Value} : (setCellH h a v).size = h.size := by
  unfold setCellH ofHeap World.setCell
  simp
theorem Keep.setCell (h : Heap) (a : Addr) (v : Value) : Keep [a.block] h (setCellH h a v) :=
  ⟨by rw [setCellH_size]; exact Nat.le_refl _, fun i _ hm => setCellH_ne (by simpa using hm)⟩
theorem Keep.at {M : List Nat} {h h' : Heap} (k : Keep M h h') {i : Nat} {o : Obj} (ho : h[i]? = some o) (hm : i ∉ M) : h'[i]? = some o := by
  have hlt : i < h.size := by
    rcases Nat.lt_or_ge i h.size with g | g
    · exact g
    · rw [Array.getElem?_eq_none g] at ho; cases ho
  rw [k.2 i hlt hm]; exact ho

theorem cellH_of {h : Heap} {a : Addr} {c : Array Value} {t : TypeId} {f : Nat × Nat} (hb : h[a.block]? = some (.cells c t f)) (hs : a.spot = none) : cellH h a = c[a.off]? := by
  unfold cellH ofHeap World.cell?
  simp [hb, hs]
theorem cellH_block {h h' : Heap} {a : Addr} (hb : h'[a.block]? = h[a.block]?) : cellH h' a = cellH h a := by
  unfold cellH ofHeap World.cell?
  simp only [hb]
theorem frozenH_block {h h' : Heap} {a : Addr} (hb : h'[a.block]? = h[a.block]?) : frozenH h' a = frozenH h a := by
  unfold frozenH ofHeap World.frozen?
  simp only [hb]
theorem cellH_lt {h : Heap} {a : Addr} {v : Value} (hc : cellH h a = some v) : a.block < h.size := by
  rcases Nat.lt_or_ge a.block h.size with g | g
  · exact g
  · unfold cellH ofHeap World.cell? at hc
    simp [Array.getElem?_eq_none g] at hc
theorem Keep.cell {M : List Nat} {h h' : Heap} (k : Keep M h h') {a : Addr} {v : Value} (hc : cellH h a = some v) (hm : a.block ∉ M) : cellH h' a = some v := by
  rw [cellH_block (k.2 a.block (cellH_lt hc) hm)]; exact hc

theorem add_block (a : Addr) (n : Nat) : (a.add n).block = a.block := by unfold Addr.add; split <;> rfl
theorem add_zero (a : Addr) : a.add 0 = a := by simp [Addr.add]
theorem add_mk (b o n : Nat) : (⟨b, o, none⟩ : Addr).add n = ⟨b, o + n, none⟩ := by
  unfold Addr.add
  split
  · rename_i h; subst h; rfl
  · rfl
theorem add_add (a : Addr) (m n : Nat) : (a.add m).add n = a.add (m + n) := by
  unfold Addr.add
  by_cases hm : m = 0
  · subst hm; simp
  · by_cases hn : n = 0
    · subst hn; simp
    · simp [hm, hn, Nat.add_assoc]

/-- A slice's cells read so. -/
def CellsAt (h : Heap) (p : Option Addr) (vs : List Value) : Prop := ∀ i v, vs[i]? = some v → ∃ a, p = some a ∧ cellH h (a.add i) = some v
def blk : Option Addr → List Nat
  | some a => [a.block]
  | none => []
theorem CellsAt.nil (h : Heap) (p : Option Addr) : CellsAt h p [] := fun i v hv => by simp at hv
theorem CellsAt.keep {M : List Nat} {h h' : Heap} {p : Option Addr} {vs : List Value} (c : CellsAt h p vs) (k : Keep M h h') (hm : ∀ i, i ∈ blk p → i ∉ M) : CellsAt h' p vs := fun i v hv => by
  obtain ⟨a, rfl, hc⟩ := c i v hv
  exact ⟨a, rfl, k.cell hc (by rw [add_block]; exact hm a.block (by simp [blk]))⟩
theorem CellsAt.get {h : Heap} {p : Option Addr} {vs : List Value} (c : CellsAt h p vs) {i : Nat} {v : Value} (hv : vs[i]? = some v) : ∃ a, p = some a ∧ cellH h (a.add i) = some v := c i v hv
theorem CellsAt.old {h : Heap} {p : Option Addr} {vs : List Value} (c : CellsAt h p vs) (hn : vs ≠ []) : ∀ i, i ∈ blk p → i < h.size := fun i hi => by
  cases vs with
  | nil => exact absurd rfl hn
  | cons v r =>
    obtain ⟨a, rfl, hc⟩ := c 0 v rfl
    simp [blk] at hi
    subst hi
    rw [← add_block a 0]
    exact cellH_lt hc

/-- A slice that is the function's own: nil, or a row of an unfrozen block, with room up to its capacity. -/
def Own (sz : Nat) (ty : TypeId) (h : Heap) (p : Option Addr) (n c : Nat) (vs : List Value) : Prop :=
  (p = none ∧ n = 0 ∧ c = 0 ∧ vs = []) ∨
  (∃ b off arr, p = some ⟨b, off, none⟩ ∧ h[b]? = some (.cells arr ty (0, 0)) ∧ vs.length = n * sz ∧ n ≤ c ∧ off + c * sz ≤ arr.size ∧ ∀ i v, vs[i]? = some v → arr[off + i]? = some v)
theorem Own.cells {sz : Nat} {ty : TypeId} {h : Heap} {p : Option Addr} {n c : Nat} {vs : List Value} (o : Own sz ty h p n c vs) : CellsAt h p vs := by
  rcases o with ⟨rfl, _, _, rfl⟩ | ⟨b, off, arr, rfl, hb, h1, h2, h3, h4⟩
  · exact CellsAt.nil h none
  · intro i v hv
    exact ⟨_, rfl, by rw [add_mk, cellH_of hb rfl]; exact h4 i v hv⟩
theorem Own.length {sz : Nat} {ty : TypeId} {h : Heap} {p : Option Addr} {n c : Nat} {vs : List Value} (o : Own sz ty h p n c vs) : vs.length = n * sz := by
  rcases o with ⟨_, rfl, _, rfl⟩ | ⟨b, off, arr, _, hb, h1, _⟩
  · simp
  · exact h1
theorem Own.keep {sz : Nat} {ty : TypeId} {M : List Nat} {h h' : Heap} {p : Option Addr} {n c : Nat} {vs : List Value} (o : Own sz ty h p n c vs) (k : Keep M h h') (hm : ∀ i, i ∈ blk p → i ∉ M) : Own sz ty h' p n c vs := by
  rcases o with h0 | ⟨b, off, arr, rfl, hb, h1⟩
  · exact .inl h0
  · exact .inr ⟨b, off, arr, rfl, k.at hb (hm b (by simp [blk])), h1⟩
theorem Own.nil (sz : Nat) (ty : TypeId) (h : Heap) : Own sz ty h none 0 0 [] := .inl ⟨rfl, rfl, rfl, rfl⟩
theorem Own.ty {sz : Nat} {ty : TypeId} {h : Heap} {p : Option Addr} {n c : Nat} {vs : List Value} (o : Own sz ty h p n c vs) : ∀ i, i ∈ blk p → ∃ arr, h[i]? = some (.cells arr ty (0, 0)) := by
  rcases o with ⟨rfl, _⟩ | ⟨b, off, arr, rfl, hb, _⟩
  · intro i hi; cases hi
  · intro i hi
    simp [blk] at hi
    subst hi
    exact ⟨arr, hb⟩
theorem Own.cap {sz : Nat} {ty : TypeId} {h : Heap} {p : Option Addr} {n c : Nat} {vs : List Value} (o : Own sz ty h p n c vs) : n ≤ c := by
  rcases o with ⟨rfl, rfl, rfl, _⟩ | ⟨b, off, arr, rfl, hb, _, h, _⟩
  · exact Nat.le_refl _
  · exact h
theorem Own.old {sz : Nat} {ty : TypeId} {h : Heap} {p : Option Addr} {n c : Nat} {vs : List Value} (o : Own sz ty h p n c vs) : ∀ i, i ∈ blk p → i < h.size := by
  rcases o with ⟨rfl, _⟩ | ⟨b, off, arr, rfl, hb, _⟩
  · intro i hi; cases hi
  · intro i hi
    simp [blk] at hi
    subst hi
    rcases Nat.lt_or_ge i h.size with g | g
    · exact g
    · rw [Array.getElem?_eq_none g] at hb; cases hb

/-! ## append -/
theorem loadCells_wp {P : Program} {X : Value → Heap → Prop} {h : Heap} {a : Addr} : ∀ (vs : List Value) (i : Nat) (acc : Array Value) {K : Array Value → Heap → Prop},
    (∀ j v, vs[j]? = some v → cellH h (a.add (i + j)) = some v) → K (acc ++ vs.toArray) h → semWp P (loadCellsFrom a i vs.length acc) K X h := by
  intro vs
  induction vs with
  | nil => intro i acc K _ hk; simpa [loadCellsFrom, pure, semWp] using hk
  | cons v r ih =>
    intro i acc K hc hk
    refine ⟨v, by simpa using hc 0 v rfl, ?_⟩
    refine ih (i + 1) (acc.push v) (fun j u hj => ?_) ?_
    · have := hc (j + 1) u (by simpa using hj)
      rw [show i + 1 + j = i + (j + 1) by omega]; exact this
    · have e : acc ++ (v :: r).toArray = acc.push v ++ r.toArray := by
        apply Array.ext'
        simp
      rw [← e]; exact hk

theorem setCellH_at {h : Heap} {b off : Nat} {arr : Array Value} {ty : TypeId} {f : Nat × Nat} {v : Value} (hb : h[b]? = some (.cells arr ty f)) :
    (setCellH h ⟨b, off, none⟩ v)[b]? = some (.cells (arr.setIfInBounds off v) ty f) := by
  unfold setCellH ofHeap World.setCell
  simp [Array.getElem?_modify, hb]

/-- Cells stored in a row: the block holds them. -/
theorem storeCells_wp {P : Program} {X : Value → Heap → Prop} {b off : Nat} {ty : TypeId} : ∀ (vs : List Value) (i : Nat) (h : Heap) (arr : Array Value) {K : Unit → Heap → Prop},
    (∀ v ∈ vs, Value.plain v = true) → h[b]? = some (.cells arr ty (0, 0)) → off + i + vs.length ≤ arr.size →
    (∀ h' arr', h'[b]? = some (.cells arr' ty (0, 0)) → arr'.size = arr.size → (∀ j, (j < off + i ∨ off + i + vs.length ≤ j) → arr'[j]? = arr[j]?) → (∀ j v, vs[j]? = some v → arr'[off + i + j]? = some v) →
      h'.size = h.size → (∀ k, k ≠ b → h'[k]? = h[k]?) → K () h') → semWp P (storeCells ⟨b, off, none⟩ vs i) K X h := by
  intro vs
  induction vs with
  | nil => intro i h arr K _ hb _ hk; exact hk h arr hb rfl (fun _ _ => rfl) (fun j v hj => by simp at hj) rfl (fun _ _ => rfl)
  | cons v r ih =>
    intro i h arr K hp hb hle hk
    simp only [List.length_cons] at hle
    have hcell : cellH h (Addr.add ⟨b, off, none⟩ i) = arr[off + i]? := by rw [add_mk, cellH_of (c := arr) (t := ty) (f := (0, 0)) hb rfl]
    refine ⟨hp v (List.mem_cons_self ..), ?_, ?_, ?_⟩
    · rw [hcell]; simp; omega
    · rw [add_mk]; unfold frozenH ofHeap World.frozen?; simp [hb]
    · rw [add_mk]
      have hb1 := setCellH_at (off := off + i) (v := v) hb
      refine ih (i + 1) (setCellH h ⟨b, off + i, none⟩ v) (arr.setIfInBounds (off + i) v) (fun u hu => hp u (List.mem_cons_of_mem _ hu)) hb1 (by simp; omega) ?_
      intro h' arr' g1 g2 g3 g4 g5 g6
      refine hk h' arr' g1 (by simpa using g2) (fun j hj => ?_) (fun j u hj => ?_) (by rw [g5, setCellH_size]) (fun k hk' => by rw [g6 k hk']; exact setCellH_ne hk')
      · simp only [List.length_cons] at hj
        rw [g3 j (by omega), Array.getElem?_setIfInBounds_ne (by omega)]
      · cases j with
        | zero =>
          simp at hj; subst hj
          rw [g3 (off + i + 0) (by omega), Nat.add_zero]
          rw [Array.getElem?_setIfInBounds]
          simp only [if_true]
          rw [if_pos (by omega)]
        | succ j =>
          have := g4 j u (by simpa using hj)
          rw [show off + i + (j + 1) = off + (i + 1) + j by omega]; exact this

/-- What an append asks of the tables. -/
structure AppT (P : Program) (st xt elem : TypeId) (sz : Nat) : Prop where
  st : P.underlying st = some (.slice elem)
  xt : P.underlying xt = some (.slice elem) ∨ P.underlying xt = some .string
  info : ∃ i, P.info? elem = some i ∧ i.size = sz ∧ (∃ z, i.zero = some z ∧ z.cells.size = sz) ∧ 0 < i.bytes ∧ i.bytes ≤ 120
  pos : 0 < sz

theorem growBy_le (newLen : Nat) : ∀ (r c : Nat), Builtin.growBy newLen r c ≤ max c (newLen + (newLen + 768) / 4) := by
  intro r
  induction r with
  | zero => intro c; simp only [Builtin.growBy]; omega
  | succ r ih =>
    intro c
    simp only [Builtin.growBy]
    split
    · omega
    · have := ih (c + (c + 768) / 4)
      omega
theorem nextcap_le (need c : Nat) (h : c < need) : Builtin.nextslicecap need c ≤ 2 * need + 200 := by
  unfold Builtin.nextslicecap
  split
  · omega
  · split
    · omega
    · have := growBy_le need 4 c
      omega

/-- How a row grew: in place, or into a new block of its own. -/
def Grew (sz : Nat) (elem : TypeId) (h h' : Heap) (p : Option Addr) (c : Nat) (p' : Option Addr) (c' : Nat) : Prop :=
  (p' = p ∧ c' = c ∧ ∀ b off, p = some ⟨b, off, none⟩ → ∀ arr f, h[b]? = some (.cells arr elem f) → ∃ arr', h'[b]? = some (.cells arr' elem (0, 0)) ∧ arr'.size = arr.size) ∨
  (p' = some ⟨h.size, 0, none⟩ ∧ c' ≤ maxLen ∧ ∃ arr, h'[h.size]? = some (.cells arr elem (0, 0)) ∧ arr.size = c' * sz)
theorem append_wpX {P : Program} {h : Heap} {st xt rt elem : TypeId} {sz : Nat} (A : AppT P st xt elem sz) {p xp : Option Addr} {n c m xc : Nat} {vs ws : List Value}
    (o : Own sz elem h p n c vs) (cx : CellsAt h xp ws) (hm : ws.length = m * sz) (hpl : ∀ v ∈ ws, Value.plain v = true) (hle : n + m ≤ 1099512676352)
    {K : Value → Heap → Prop} {X : Value → Heap → Prop}
    (hk : ∀ p' c' h', Own sz elem h' p' (n + m) c' (vs ++ ws) → Keep (blk p) h h' → (∀ i, i ∈ blk p' → i ∈ blk p ∨ h.size ≤ i) → Grew sz elem h h' p c p' c' → K (.slice p' (n + m) c') h') :
    semWp P (Builtin.append_ #[st, xt] rt #[.slice p n c, .slice xp m xc]) K X h := by
  obtain ⟨i, hi, hsz, ⟨z, hz, hzs⟩, hb0, hb⟩ := A.info
  have hxt : ∃ d, P.underlying xt = some d ∧ (d matches .int _) = false := by
    rcases A.xt with g | g <;> exact ⟨_, g, rfl⟩
  obtain ⟨d, hd, hdi⟩ := hxt
  have first : ∀ {K' : Array Value → Heap → Prop} (q : Option Addr) (k kc : Nat) (us : List Value), CellsAt h q us → us.length = k * sz → K' us.toArray h →
      semWp P (Builtin.firstCells sz k (.slice q k kc)) K' X h := by
    intro K' q k kc us hq hl hk'
    cases q with
    | none =>
      cases us with
      | nil => exact hk'
      | cons u r => obtain ⟨a, ha, _⟩ := hq 0 u rfl; cases ha
    | some a =>
      show semWp P (loadCellsFrom a 0 (k * sz) #[]) K' X h
      rw [← hl]
      refine loadCells_wp us 0 #[] (fun j v hj => ?_) (by simpa using hk')
      obtain ⟨a', ha', hc⟩ := hq j v hj
      cases ha'
      simpa using hc
  unfold Builtin.append_
  simp only [List.getElem?_toArray, List.getElem?_cons_zero, List.getElem?_cons_succ]
  refine underlying_run A.st ?_
  refine sizeOf_run hi ?_
  rw [hsz]
  have key : ∀ (K : Value → Heap → Prop), (∀ p' c' h', Own sz elem h' p' (n + m) c' (vs ++ ws) → Keep (blk p) h h' → (∀ i, i ∈ blk p' → i ∈ blk p ∨ h.size ≤ i) → Grew sz elem h h' p c p' c' → K (.slice p' (n + m) c') h') →
      (n + m ≤ c → semWp P ((Builtin.firstCells sz m (Value.slice xp m xc)).bind fun new =>
        match p with
        | some a => (storeCells (a.add (n * sz)) new.toList).bind fun __r => Sem.pure (Value.slice p (n + m) c)
        | _ => Sem.pure (Value.slice p (n + m) c)) K X h) ∧
      (¬ n + m ≤ c → semWp P ((choose (Question.appendCap (n + m) c elem)).bind fun newCap =>
        (typeInfo elem).bind fun i =>
          (askRoom (newCap * i.bytes)).bind fun __r =>
            (Builtin.firstCells sz n (Value.slice p n c)).bind fun old =>
              (Builtin.firstCells sz m (Value.slice xp m xc)).bind fun new =>
                (zeroValue elem).bind fun z =>
                  (newRow elem (old ++ new ++ Builtin.zeroCells z.cells (newCap - (n + m)))).bind
                    fun a => Sem.pure (Value.slice (some a) (n + m) newCap)) K X h) := by
    intro K hk
    have hlen := o.length
    constructor
    · intro hfit
      refine semWp_bind _ _ (first xp m xc ws cx hm ?_)
      rcases o with ⟨rfl, rfl, rfl, rfl⟩ | ⟨b, off, arr, rfl, hbk, h1, h2, h3, h4⟩
      · have : m = 0 := by omega
        subst this
        have : ws = [] := List.eq_nil_of_length_eq_zero (by simpa using hm)
        subst this
        exact hk none 0 h (Own.nil sz elem h) (Keep.refl _ h) (fun i hi => .inl hi) (.inl ⟨rfl, rfl, fun b off e => by cases e⟩)
      · dsimp only
        refine semWp_bind _ _ ?_
        rw [add_mk]
        have hmul : (n + m) * sz ≤ c * sz := Nat.mul_le_mul_right sz hfit
        rw [Nat.add_mul] at hmul
        refine storeCells_wp ws 0 h arr hpl hbk (by rw [hm]; omega) ?_
        intro h' arr' g1 g2 g3 g4 g5 g6
        refine hk _ c h' (.inr ⟨b, off, arr', rfl, g1, ?_, hfit, by omega, ?_⟩) ⟨by omega, fun i _ hi => g6 i (by simpa [blk] using hi)⟩ (fun i hi => .inl hi) (.inl ⟨rfl, rfl, fun b' off' e arr0 f e0 => by cases e; rw [hbk] at e0; cases e0; exact ⟨arr', g1, g2⟩⟩)
        · rw [List.length_append, h1, hm, Nat.add_mul]
        · intro i v hv
          rcases Nat.lt_or_ge i vs.length with hi' | hi'
          · rw [List.getElem?_append_left hi'] at hv
            rw [g3 (off + i) (by omega)]
            exact h4 i v hv
          · rw [List.getElem?_append_right hi'] at hv
            have := g4 (i - vs.length) v hv
            rw [show off + i = off + n * sz + 0 + (i - vs.length) by omega]
            exact this
    · intro hgrow
      show semWp P (.choose _ _) K X h
      simp only [semWp]
      rw [if_neg (by simp [Question.forced])]
      intro t
      have hcut : n + m ≤ (Question.appendCap (n + m) c elem).cut t := by simp only [Question.cut]; omega
      have hnc : (Question.appendCap (n + m) c elem).cut t ≤ maxLen := by
        simp only [Question.cut]
        have := Nat.mod_lt t (y := 2 ^ 63 - (n + m)) (by omega)
        unfold maxLen
        omega
      generalize (Question.appendCap (n + m) c elem).cut t = nc at hcut hnc
      refine typeInfo_run hi ?_
      have rest : semWp P ((Builtin.firstCells sz n (Value.slice p n c)).bind fun old =>
              (Builtin.firstCells sz m (Value.slice xp m xc)).bind fun new =>
                (zeroValue elem).bind fun z =>
                  (newRow elem (old ++ new ++ Builtin.zeroCells z.cells (nc - (n + m)))).bind
                    fun a => Sem.pure (Value.slice (some a) (n + m) nc)) K X h := by
        refine semWp_bind _ _ (first p n c vs o.cells hlen ?_)
        refine semWp_bind _ _ (first xp m xc ws cx hm ?_)
        have ez : (zeroValue elem) = Sem.program fun P' => ((match P'.info? elem with | some i => Sem.pure i | none => stuck "no such type").bind fun i => match i.zero with | some v => Sem.pure v | none => unsupported (.resourceLimit "a value of more than 2^22 cells")) := rfl
        rw [ez]
        simp only [Sem.bind, semWp, hi, hz]
        show semWp P (Sem.new _ _) K X h
        have hzc : (Builtin.zeroCells z.cells (nc - (n + m))).size = (nc - (n + m)) * sz := by simp [Builtin.zeroCells, hzs]
        refine hk _ nc _ (.inr ⟨h.size, 0, vs.toArray ++ ws.toArray ++ Builtin.zeroCells z.cells (nc - (n + m)), rfl, by rw [Array.getElem?_push, if_pos rfl], ?_, hcut, ?_, ?_⟩) (Keep.push _ h _) (fun i hi => .inr (by simp [blk] at hi; omega)) (.inr ⟨rfl, hnc, _, by rw [Array.getElem?_push, if_pos rfl], ?_⟩)
        · rw [List.length_append, hlen, hm, Nat.add_mul]
        · simp only [Array.size_append, List.size_toArray, hzc, hlen, hm]
          rw [← Nat.add_mul, ← Nat.add_mul, show n + m + (nc - (n + m)) = nc by omega]
          omega
        · intro i v hv
          have hlt : i < (vs ++ ws).length := by
            rcases Nat.lt_or_ge i (vs ++ ws).length with g | g
            · exact g
            · rw [List.getElem?_eq_none g] at hv; cases hv
          have e : (vs.toArray ++ ws.toArray : Array Value) = (vs ++ ws).toArray := by simp
          rw [e, Nat.zero_add, Array.getElem?_append_left (by simpa using hlt)]
          simpa using hv
        · simp only [Array.size_append, List.size_toArray, hzc, hlen, hm]
          rw [← Nat.add_mul, ← Nat.add_mul, show n + m + (nc - (n + m)) = nc by omega]
      refine semWp_bind _ _ ?_
      unfold askRoom
      split
      · exact rest
      · exact rest
  obtain ⟨k1, k2⟩ := key K hk
  have hnb : ∀ (b : Prop), ¬ (((n + m : Nat) : Int) > IntKind.i64.max ∧ b) := by
    intro b hh
    have : ((n + m : Nat) : Int) ≤ 1099512676352 := by omega
    have e : IntKind.i64.max = 9223372036854775807 := rfl
    omega
  have hcap : ¬ n + m ≤ c → ¬ Builtin.nextslicecap (n + m) c * i.bytes > 2 ^ 48 := by
    intro hg
    have h1 := nextcap_le (n + m) c (by omega)
    have h2 : Builtin.nextslicecap (n + m) c * i.bytes ≤ (2 * (n + m) + 200) * 120 := Nat.mul_le_mul h1 hb
    omega
  rcases A.xt with g | g
  all_goals
    refine underlying_run g ?_
    simp only [bind, Sem.bind, pure, Bool.false_eq_true, if_false, Builtin.lenOf, Bool.not_false, if_true]
    by_cases hfit : n + m ≤ c
    · rw [if_pos hfit]; exact k1 hfit
    · rw [if_neg hfit]
      refine typeInfo_run hi ?_
      rw [if_neg (hnb _)]
      refine typeInfo_run hi ?_
      rw [if_neg (hcap hfit)]
      exact k2 hfit

theorem append_wp {P : Program} {h : Heap} {st xt rt elem : TypeId} {sz : Nat} (A : AppT P st xt elem sz) {p xp : Option Addr} {n c m xc : Nat} {vs ws : List Value}
    (o : Own sz elem h p n c vs) (cx : CellsAt h xp ws) (hm : ws.length = m * sz) (hpl : ∀ v ∈ ws, Value.plain v = true) (hle : n + m ≤ 1099512676352)
    {K : Value → Heap → Prop} {X : Value → Heap → Prop}
    (hk : ∀ p' c' h', Own sz elem h' p' (n + m) c' (vs ++ ws) → Keep (blk p) h h' → (∀ i, i ∈ blk p' → i ∈ blk p ∨ h.size ≤ i) → K (.slice p' (n + m) c') h') :
    semWp P (Builtin.append_ #[st, xt] rt #[.slice p n c, .slice xp m xc]) K X h :=
  append_wpX A o cx hm hpl hle fun p' c' h' h1 h2 h3 _ => hk p' c' h' h1 h2 h3

end Go.Eng

/-
  MORE LAWS: slices of slices. Conditions: none.
-/
namespace Go.Eng
open Go
theorem CellsAt.cut {h : Heap} {p : Option Addr} {vs : List Value} {c m sz : Nat} (H : CellsAt h p vs) (hc : vs.length ≤ c * sz) : CellsAt h (if c = m then p else Option.map (fun x => Addr.add x (m * sz)) p) (vs.drop (m * sz)) := by
  intro i v hv
  rw [List.getElem?_drop] at hv
  have hlt : m * sz + i < vs.length := by
    rcases Nat.lt_or_ge (m * sz + i) vs.length with g | g
    · exact g
    · rw [List.getElem?_eq_none g] at hv; cases hv
  obtain ⟨a, rfl, ha⟩ := H _ _ hv
  by_cases hcm : c = m
  · subst hcm; omega
  · rw [if_neg hcm]
    exact ⟨a.add (m * sz), rfl, by rw [add_add]; exact ha⟩
theorem CellsAt.take {h : Heap} {p : Option Addr} {vs : List Value} (H : CellsAt h p vs) (m : Nat) : CellsAt h p (vs.take m) := fun i v hv => by
  rw [List.getElem?_take] at hv
  split at hv
  · exact H i v hv
  · cases hv
theorem blk_cut {p : Option Addr} {c m k : Nat} : blk (if c = m then p else Option.map (fun x => Addr.add x k) p) = blk p := by
  split
  · rfl
  · cases p with
    | none => rfl
    | some a => simp [blk, add_block]
end Go.Eng

/-
  MORE LAWS: string(bytes). Conditions: none.
-/
namespace Go.Eng
open Go
theorem bytes_loop {P : Program} {X : Value → Heap → Prop} {h : Heap} : ∀ (l : List UInt8) (acc : ByteArray) {K : ByteArray → Heap → Prop}, K ⟨acc.data ++ l.toArray⟩ h →
    semWp P (forIn (l.map fun b => Value.int .u8 (b.toNat : Int)) acc fun c s => match c with
      | .int .u8 n => (pure (ForInStep.yield (s.push (UInt8.ofNat n.toNat))) : Sem (ForInStep ByteArray))
      | _ => stuck "bytesToString: byte expected") K X h := by
  intro l
  induction l with
  | nil => intro acc K hk; show K acc h; simpa using hk
  | cons b r ih =>
    intro acc K hk
    simp only [List.map_cons, List.forIn_cons]
    have e : UInt8.ofNat ((b.toNat : Int)).toNat = b := by simp
    rw [e]
    refine ih (acc.push b) ?_
    simpa [ByteArray.push] using hk
theorem convBytes_wp {P : Program} {src dst e : TypeId} {h : Heap} {p : Option Addr} {c : Nat} {l : List UInt8} (hs : P.underlying src = some (.slice e)) (he : P.underlying e = some (.int .u8)) (hd : P.underlying dst = some .string)
    (hp : CellsAt h p (l.map fun b => Value.int .u8 (b.toNat : Int))) {K X : Value → Heap → Prop} (hk : K (.string ⟨l.toArray⟩) h) : semWp P (convert src dst (.slice p l.length c)) K X h := by
  unfold convert
  refine underlying_run hs (underlying_run hd ?_)
  refine underlying_run he ?_
  dsimp only
  unfold Conv.bytesToString
  cases p with
  | none =>
    cases l with
    | nil => exact hk
    | cons b r => obtain ⟨a, ha, _⟩ := hp 0 _ rfl; cases ha
  | some a =>
    dsimp only
    refine semWp_bind _ _ ?_
    show semWp P (loadCellsFrom a 0 l.length #[]) _ X h
    have hl : l.length = (l.map fun b => Value.int .u8 (b.toNat : Int)).length := by simp
    rw [hl]
    refine loadCells_wp (l.map fun b => Value.int .u8 (b.toNat : Int)) 0 #[] (fun j v hj => by
      obtain ⟨a', ha', hc⟩ := hp j v hj
      cases ha'
      simpa using hc) ?_
    refine semWp_bind _ _ ?_
    have e0 : (#[] ++ (l.map fun b => Value.int .u8 (b.toNat : Int)).toArray : Array Value) = (l.map fun b => Value.int .u8 (b.toNat : Int)).toArray := by simp
    rw [e0, List.forIn_toArray]
    exact bytes_loop l _ (show K _ h by simpa using hk)
end Go.Eng

/-
  THE ENGINE, PART S: what a heap holds, in pieces: snapshots that stay, pieces that a call owns; values as what they stand for.
  Conditions: none; it speaks of any program.
-/
namespace Go.Eng
open Go

abbrev Slc := Option Addr × Nat × Nat
/-! ## snapshots -/
abbrev Snap := Nat → Option Obj
def snap (h : Heap) : Snap := fun i => h[i]?
def Sub (φ ψ : Snap) : Prop := ∀ i o, φ i = some o → ψ i = some o
theorem Sub.refl (φ : Snap) : Sub φ φ := fun _ _ h => h
theorem Sub.trans {a b c : Snap} (h : Sub a b) (k : Sub b c) : Sub a c := fun i o ho => k i o (h i o ho)
def cellS (φ : Snap) (a : Addr) : Option Value := match φ a.block with
  | some (.cells c _ _) => if a.spot.isSome then none else c[a.off]?
  | _ => none
theorem cellS_snap (h : Heap) (a : Addr) : cellS (snap h) a = cellH h a := rfl
theorem cellS_mono {φ ψ : Snap} (hs : Sub φ ψ) {a : Addr} {v : Value} (hc : cellS φ a = some v) : cellS ψ a = some v := by
  unfold cellS at hc ⊢
  cases hb : φ a.block with
  | none => rw [hb] at hc; cases hc
  | some o => rw [hs _ _ hb]; rw [hb] at hc; exact hc
theorem cellS_heap {φ : Snap} {h : Heap} (hs : Sub φ (snap h)) {a : Addr} {v : Value} (hc : cellS φ a = some v) : cellH h a = some v := by
  rw [← cellS_snap]; exact cellS_mono hs hc
/-- A slice's cells read so. -/
def CellsS (φ : Snap) (p : Option Addr) (vs : List Value) : Prop := ∀ i v, vs[i]? = some v → ∃ a, p = some a ∧ cellS φ (a.add i) = some v
theorem CellsS.mono {φ ψ : Snap} (hs : Sub φ ψ) {p : Option Addr} {vs : List Value} (hc : CellsS φ p vs) : CellsS ψ p vs := fun i v hv => by
  obtain ⟨a, ha, h⟩ := hc i v hv
  exact ⟨a, ha, cellS_mono hs h⟩
theorem CellsS.heap {φ : Snap} {h : Heap} (hs : Sub φ (snap h)) {p : Option Addr} {vs : List Value} (hc : CellsS φ p vs) : CellsAt h p vs := fun i v hv => by
  obtain ⟨a, ha, h⟩ := hc i v hv
  exact ⟨a, ha, cellS_heap hs h⟩

/-! ## what stays: values that stand for something, for good -/
structure Ro (α : Type) where
  sz : Nat
  is : Snap → List Value → α → Prop
  len : ∀ {φ cs x}, is φ cs x → cs.length = sz
  mono : ∀ {φ ψ cs x}, Sub φ ψ → is φ cs x → is ψ cs x
  plain : ∀ {φ cs x}, is φ cs x → ∀ v ∈ cs, Value.plain v = true
namespace Ro
def atom (a : Atom) : Ro a.Ty where
  sz := 1
  is _ cs x := cs = [a.val x]
  len h := by rw [h]; rfl
  mono _ h := h
  plain h v hv := by rw [h] at hv; simp at hv; rw [hv]; exact Atom.val_plain _ _
abbrev int (k : IntKind) : Ro Int := atom (.int k)
abbrev bool : Ro Bool := atom .bool
abbrev str : Ro ByteArray := atom .string
abbrev pt : Ro (Option Addr) := atom .pointer
def unit : Ro Unit where
  sz := 0
  is _ cs _ := cs = []
  len h := by rw [h]; rfl
  mono _ h := h
  plain h v hv := by rw [h] at hv; cases hv
def prod {α β : Type} (r : Ro α) (s : Ro β) : Ro (α × β) where
  sz := r.sz + s.sz
  is φ cs x := ∃ a b, cs = a ++ b ∧ r.is φ a x.1 ∧ s.is φ b x.2
  len h := by obtain ⟨a, b, rfl, ha, hb⟩ := h; rw [List.length_append, r.len ha, s.len hb]
  mono hs h := by obtain ⟨a, b, e, ha, hb⟩ := h; exact ⟨a, b, e, r.mono hs ha, s.mono hs hb⟩
  plain h v hv := by
    obtain ⟨a, b, rfl, ha, hb⟩ := h
    rcases List.mem_append.1 hv with h | h
    · exact r.plain ha v h
    · exact s.plain hb v h
/-- The cells of a list, one thing behind the other. -/
inductive All {α : Type} (r : Ro α) (φ : Snap) : List Value → List α → Prop where
  | nil : All r φ [] []
  | cons {a b : List Value} {x : α} {l : List α} : r.is φ a x → All r φ b l → All r φ (a ++ b) (x :: l)
theorem All.mono {α : Type} {r : Ro α} {φ ψ : Snap} (hs : Sub φ ψ) {vs : List Value} {l : List α} (h : All r φ vs l) : All r ψ vs l := by
  induction h with
  | nil => exact .nil
  | cons h _ ih => exact .cons (r.mono hs h) ih
theorem All.length {α : Type} {r : Ro α} {φ : Snap} {vs : List Value} {l : List α} (h : All r φ vs l) : vs.length = l.length * r.sz := by
  induction h with
  | nil => simp
  | cons h _ ih => rw [List.length_append, r.len h, ih, List.length_cons, Nat.add_mul, Nat.one_mul, Nat.add_comm]
theorem All.plain {α : Type} {r : Ro α} {φ : Snap} {vs : List Value} {l : List α} (h : All r φ vs l) : ∀ v ∈ vs, Value.plain v = true := by
  induction h with
  | nil => intro v hv; cases hv
  | cons h _ ih => intro v hv; rcases List.mem_append.1 hv with g | g; exact r.plain h v g; exact ih v g
theorem All.append {α : Type} {r : Ro α} {φ : Snap} {vs ws : List Value} {l m : List α} (h : All r φ vs l) (k : All r φ ws m) : All r φ (vs ++ ws) (l ++ m) := by
  induction h with
  | nil => exact k
  | cons h _ ih => rw [List.append_assoc]; exact .cons h ih
theorem All.one {α : Type} {r : Ro α} {φ : Snap} {vs : List Value} {x : α} (h : r.is φ vs x) : All r φ vs [x] := by
  have := All.cons h (.nil (r := r) (φ := φ))
  rwa [List.append_nil] at this
/-- The thing at a place, and its cells. -/
theorem All.at {α : Type} {r : Ro α} {φ : Snap} {vs : List Value} {l : List α} (h : All r φ vs l) : ∀ {i : Nat} {x : α}, l[i]? = some x → ∃ cs, r.is φ cs x ∧ ∀ j v, cs[j]? = some v → vs[i * r.sz + j]? = some v := by
  induction h with
  | nil => intro i x hx; simp at hx
  | @cons a b y l h hb ih =>
    intro i x hx
    cases i with
    | zero =>
      simp at hx
      subst hx
      refine ⟨a, h, fun j v hv => ?_⟩
      have : j < a.length := by
        rcases Nat.lt_or_ge j a.length with g | g
        · exact g
        · rw [List.getElem?_eq_none g] at hv; cases hv
      rw [Nat.zero_mul, Nat.zero_add, List.getElem?_append_left this]; exact hv
    | succ i =>
      obtain ⟨cs, h1, h2⟩ := ih (by simpa using hx)
      refine ⟨cs, h1, fun j v hv => ?_⟩
      have e : (i + 1) * r.sz + j = a.length + (i * r.sz + j) := by rw [r.len h, Nat.add_mul]; omega
      rw [e, List.getElem?_append_right (by omega), Nat.add_sub_cancel_left]
      exact h2 j v hv
theorem All.take {α : Type} {r : Ro α} {φ : Snap} {vs : List Value} {l : List α} (h : All r φ vs l) : ∀ n, All r φ (vs.take (n * r.sz)) (l.take n) := by
  induction h with
  | nil => intro n; simp; exact .nil
  | @cons a b y l h hb ih =>
    intro n
    cases n with
    | zero => simp; exact .nil
    | succ n =>
      have e : (a ++ b).take ((n + 1) * r.sz) = a ++ b.take (n * r.sz) := by
        rw [Nat.add_mul, Nat.one_mul, Nat.add_comm, ← r.len h, List.take_length_add_append]
      rw [e, List.take_succ_cons]
      exact .cons h (ih n)
theorem All.drop {α : Type} {r : Ro α} {φ : Snap} {vs : List Value} {l : List α} (h : All r φ vs l) : ∀ n, All r φ (vs.drop (n * r.sz)) (l.drop n) := by
  induction h with
  | nil => intro n; simp; exact .nil
  | @cons a b y l h hb ih =>
    intro n
    cases n with
    | zero => simp; exact .cons h hb
    | succ n =>
      have e : (a ++ b).drop ((n + 1) * r.sz) = b.drop (n * r.sz) := by
        rw [Nat.add_mul, Nat.one_mul, Nat.add_comm, ← r.len h, List.drop_append, List.drop_eq_nil_of_le (by omega), List.nil_append]
        congr 1
        omega
      rw [e, List.drop_succ_cons]
      exact ih n
/-- A slice whose cells stay. -/
def SliceIs {α : Type} (r : Ro α) (φ : Snap) (t : Slc) (l : List α) : Prop := l.length = t.2.1 ∧ t.2.1 ≤ t.2.2 ∧ t.2.2 ≤ maxLen ∧ (t.1 = none → l = []) ∧ ∃ vs, All r φ vs l ∧ CellsS φ t.1 vs
theorem SliceIs.mono {α : Type} {r : Ro α} {φ ψ : Snap} {t : Slc} {l : List α} (h : SliceIs r φ t l) (hs : Sub φ ψ) : SliceIs r ψ t l := by
  obtain ⟨h1, h2, h3, h0, vs, h4, h5⟩ := h
  exact ⟨h1, h2, h3, h0, vs, h4.mono hs, h5.mono hs⟩
def list {α : Type} (r : Ro α) : Ro (List α) where
  sz := 1
  is φ cs l := ∃ t : Slc, cs = [.slice t.1 t.2.1 t.2.2] ∧ SliceIs r φ t l
  len h := by obtain ⟨t, rfl, _⟩ := h; rfl
  mono hs h := by obtain ⟨t, e, h⟩ := h; exact ⟨t, e, h.mono hs⟩
  plain h v hv := by obtain ⟨t, rfl, _⟩ := h; simp at hv; subst hv; rfl
/-- Another thing in its place. -/
def via {α β : Type} (r : Ro α) (f : β → α) : Ro β where
  sz := r.sz
  is φ cs x := r.is φ cs (f x)
  len h := r.len h
  mono hs h := r.mono hs h
  plain h := r.plain h
/-- A pointer to what stays; nil. -/
def ptr {α : Type} (r : Ro α) : Ro (Option α) where
  sz := 1
  is φ cs x := match x with
    | none => cs = [.pointer none]
    | some x => ∃ a vs, cs = [.pointer (some a)] ∧ r.is φ vs x ∧ CellsS φ (some a) vs
  len {φ cs x} h := by
    cases x with
    | none => rw [h]; rfl
    | some x => obtain ⟨a, vs, rfl, _⟩ := h; rfl
  mono {φ ψ cs x} hs h := by
    cases x with
    | none => exact h
    | some x => obtain ⟨a, vs, e, h1, h2⟩ := h; exact ⟨a, vs, e, r.mono hs h1, h2.mono hs⟩
  plain {φ cs x} h v hv := by
    cases x with
    | none => rw [h] at hv; simp at hv; subst hv; rfl
    | some x => obtain ⟨a, vs, rfl, _⟩ := h; simp at hv; subst hv; rfl
end Ro

/-! ## what a call owns -/
abbrev Foot := Nat → Prop
structure Rep (α : Type) where
  sz : Nat
  is : Snap → Heap → Foot → List Value → α → Prop
  len : ∀ {φ h F cs x}, is φ h F cs x → cs.length = sz
  mono : ∀ {φ ψ h F cs x}, Sub φ ψ → is φ h F cs x → is ψ h F cs x
  loc : ∀ {φ h h' F cs x}, (∀ i, F i → h'[i]? = h[i]?) → is φ h F cs x → is φ h' F cs x
  lt : ∀ {φ h F cs x}, is φ h F cs x → ∀ i, F i → i < h.size
  plain : ∀ {φ h F cs x}, is φ h F cs x → ∀ v ∈ cs, Value.plain v = true

theorem lt_of_get {h : Heap} {i : Nat} {o : Obj} (ho : h[i]? = some o) : i < h.size := by
  rcases Nat.lt_or_ge i h.size with g | g
  · exact g
  · rw [Array.getElem?_eq_none g] at ho; cases ho

namespace Rep
def ro {α : Type} (r : Ro α) : Rep α where
  sz := r.sz
  is φ _ F cs x := (∀ i, ¬ F i) ∧ r.is φ cs x
  len h := r.len h.2
  mono hs h := ⟨h.1, r.mono hs h.2⟩
  loc _ h := h
  lt h i hi := (h.1 i hi).elim
  plain h := r.plain h.2
def prod {α β : Type} (r : Rep α) (s : Rep β) : Rep (α × β) where
  sz := r.sz + s.sz
  is φ h F cs x := ∃ a b A B, cs = a ++ b ∧ r.is φ h A a x.1 ∧ s.is φ h B b x.2 ∧ (∀ i, A i → B i → False) ∧ (∀ i, F i ↔ A i ∨ B i)
  len h := by obtain ⟨a, b, A, B, rfl, ha, hb, _⟩ := h; rw [List.length_append, r.len ha, s.len hb]
  mono hs h := by obtain ⟨a, b, A, B, e, ha, hb, g⟩ := h; exact ⟨a, b, A, B, e, r.mono hs ha, s.mono hs hb, g⟩
  loc hl h := by
    obtain ⟨a, b, A, B, e, ha, hb, g, gg⟩ := h
    exact ⟨a, b, A, B, e, r.loc (fun i hi => hl i ((gg i).2 (.inl hi))) ha, s.loc (fun i hi => hl i ((gg i).2 (.inr hi))) hb, g, gg⟩
  lt h i hi := by
    obtain ⟨a, b, A, B, e, ha, hb, g, gg⟩ := h
    rcases (gg i).1 hi with g | g
    · exact r.lt ha i g
    · exact s.lt hb i g
  plain h v hv := by
    obtain ⟨a, b, A, B, rfl, ha, hb, _⟩ := h
    rcases List.mem_append.1 hv with g | g
    · exact r.plain ha v g
    · exact s.plain hb v g
def via {α β : Type} (r : Rep α) (f : β → α) : Rep β where
  sz := r.sz
  is φ h F cs x := r.is φ h F cs (f x)
  len h := r.len h
  mono hs h := r.mono hs h
  loc hl h := r.loc hl h
  lt h := r.lt h
  plain h := r.plain h
/-- A row begins where its block does, and fills it. -/
def Full (sz : Nat) (h : Heap) (p : Option Addr) (c : Nat) : Prop := ∀ b off s, p = some ⟨b, off, s⟩ → off = 0 ∧ ∀ arr ty f, h[b]? = some (.cells arr ty f) → arr.size = c * sz
/-- A slice of one's own; its things stay. -/
def row {α : Type} (ty : TypeId) (r : Ro α) : Rep (List α) where
  sz := 1
  is φ h F cs l := ∃ p n c vs, cs = [.slice p n c] ∧ l.length = n ∧ c ≤ maxLen ∧ Full r.sz h p c ∧ Own r.sz ty h p n c vs ∧ r.All φ vs l ∧ (∀ i, F i ↔ i ∈ blk p)
  len h := by obtain ⟨p, n, c, vs, rfl, _⟩ := h; rfl
  mono hs h := by obtain ⟨p, n, c, vs, e, h1, h2, hf, h3, h4, h5⟩ := h; exact ⟨p, n, c, vs, e, h1, h2, hf, h3, h4.mono hs, h5⟩
  loc hl h := by
    obtain ⟨p, n, c, vs, e, h1, h2, hf, h3, h4, h5⟩ := h
    refine ⟨p, n, c, vs, e, h1, h2, ?_, ?_, h4, h5⟩
    · intro b off s hp
      obtain ⟨g1, g2⟩ := hf b off s hp
      refine ⟨g1, fun arr ty f harr => g2 arr ty f ?_⟩
      rw [← hl b ((h5 b).2 (by rw [hp]; simp [blk]))]; exact harr
    · rcases h3 with h3 | ⟨b, off, arr, rfl, hb, g⟩
      · exact .inl h3
      · exact .inr ⟨b, off, arr, rfl, by rw [hl b ((h5 b).2 (by simp [blk]))]; exact hb, g⟩
  lt h i hi := by
    obtain ⟨p, n, c, vs, e, h1, h2, hf, h3, h4, h5⟩ := h
    exact h3.old i ((h5 i).1 hi)
  plain h v hv := by obtain ⟨p, n, c, vs, rfl, _⟩ := h; simp at hv; subst hv; rfl
/-- A block of one's own: its cells. -/
def raw (ty : TypeId) : Rep (List Value) where
  sz := 1
  is _ h F cs vs := ∃ b, cs = [.pointer (some ⟨b, 0, none⟩)] ∧ h[b]? = some (.cells vs.toArray ty (0, 0)) ∧ (∀ i, F i ↔ i = b)
  len h := by obtain ⟨b, rfl, _⟩ := h; rfl
  mono _ h := h
  loc hl h := by obtain ⟨b, e, hb, hF⟩ := h; exact ⟨b, e, by rw [hl b ((hF b).2 rfl)]; exact hb, hF⟩
  lt h i hi := by obtain ⟨b, e, hb, hF⟩ := h; rw [(hF i).1 hi]; exact lt_of_get hb
  plain h v hv := by obtain ⟨b, rfl, _⟩ := h; simp at hv; subst hv; rfl
/-- A thing of one's own behind a pointer. -/
def obj {α : Type} (ty : TypeId) (R : Rep α) : Rep α where
  sz := 1
  is φ h F cs x := ∃ b vs G, cs = [.pointer (some ⟨b, 0, none⟩)] ∧ h[b]? = some (.cells vs.toArray ty (0, 0)) ∧ R.is φ h G vs x ∧ ¬ G b ∧ (∀ i, F i ↔ i = b ∨ G i)
  len h := by obtain ⟨b, vs, G, rfl, _⟩ := h; rfl
  mono hs h := by obtain ⟨b, vs, G, e, hb, hR, g⟩ := h; exact ⟨b, vs, G, e, hb, R.mono hs hR, g⟩
  loc hl h := by
    obtain ⟨b, vs, G, e, hb, hR, g, hF⟩ := h
    exact ⟨b, vs, G, e, by rw [hl b ((hF b).2 (.inl rfl))]; exact hb, R.loc (fun i hi => hl i ((hF i).2 (.inr hi))) hR, g, hF⟩
  lt h i hi := by
    obtain ⟨b, vs, G, e, hb, hR, g, hF⟩ := h
    rcases (hF i).1 hi with rfl | g
    · exact lt_of_get hb
    · exact R.lt hR i g
  plain h v hv := by obtain ⟨b, vs, G, rfl, _⟩ := h; simp at hv; subst hv; rfl
end Rep

/-! ## states -/
structure Chk where
  {α : Type}
  R : Rep α
  cs : List Value
  x : α
def Chk.on (φ : Snap) (h : Heap) (F : Foot) (c : Chk) : Prop := c.R.is φ h F c.cs c.x
/-- The pieces lie apart from one another, from what stays, and from X. -/
def StX (φ : Snap) (h : Heap) : List Chk → Foot → Prop
  | [], _ => Sub φ (snap h)
  | c :: Γ, X => ∃ F, c.on φ h F ∧ (∀ k, F k → φ k = none ∧ ¬ X k) ∧ StX φ h Γ (fun k => X k ∨ F k)
def St (φ : Snap) (Γ : List Chk) (h : Heap) : Prop := StX φ h Γ fun _ => False

theorem StX.sub {φ : Snap} {h : Heap} : ∀ {Γ : List Chk} {X : Foot}, StX φ h Γ X → Sub φ (snap h) := by
  intro Γ
  induction Γ with
  | nil => intro X H; exact H
  | cons c Γ ih => intro X ⟨F, _, _, H⟩; exact ih H
theorem StX.less {φ : Snap} {h : Heap} : ∀ {Γ : List Chk} {X Y : Foot}, StX φ h Γ X → (∀ k, Y k → X k) → StX φ h Γ Y := by
  intro Γ
  induction Γ with
  | nil => intro X Y H _; exact H
  | cons c Γ ih => intro X Y ⟨F, h1, h2, H⟩ hY; exact ⟨F, h1, fun k hk => ⟨(h2 k hk).1, fun g => (h2 k hk).2 (hY k g)⟩, ih H fun k hk => hk.imp (hY k) id⟩
/-- Whoever is not in the pieces may be put aside. -/
theorem StX.more {φ : Snap} {h : Heap} : ∀ {Γ : List Chk} {X Y : Foot}, StX φ h Γ X → (∀ k, Y k → h.size ≤ k ∨ X k ∨ φ k ≠ none) → StX φ h Γ Y := by
  intro Γ
  induction Γ with
  | nil => intro X Y H _; exact H
  | cons c Γ ih =>
    intro X Y ⟨F, h1, h2, H⟩ hY
    refine ⟨F, h1, fun k hk => ⟨(h2 k hk).1, fun g => ?_⟩, ih H fun k hk => ?_⟩
    · rcases hY k g with g | g | g
      · have := c.R.lt h1 k hk; omega
      · exact (h2 k hk).2 g
      · exact g (h2 k hk).1
    · rcases hk with hk | hk
      · rcases hY k hk with g | g | g
        · exact .inl g
        · exact .inr (.inl (.inl g))
        · exact .inr (.inr g)
      · exact .inr (.inl (.inr hk))
/-- Another heap, the same outside X. -/
theorem StX.heap {φ : Snap} {h h' : Heap} : ∀ {Γ : List Chk} {X : Foot}, StX φ h Γ X → (∀ k, k < h.size → ¬ X k → h'[k]? = h[k]?) → Sub φ (snap h') → StX φ h' Γ X := by
  intro Γ
  induction Γ with
  | nil => intro X H _ hs; exact hs
  | cons c Γ ih =>
    intro X ⟨F, h1, h2, H⟩ hh hs
    exact ⟨F, c.R.loc (fun i hi => hh i (c.R.lt h1 i hi) (h2 i hi).2) h1, h2, ih H (fun k hk hX => hh k hk fun g => hX (.inl g)) hs⟩
/-- More stays: of X, or what is new. -/
theorem StX.grow {φ ψ : Snap} {h : Heap} : ∀ {Γ : List Chk} {X : Foot}, StX φ h Γ X → Sub φ ψ → Sub ψ (snap h) → (∀ k, ψ k ≠ none → φ k = none → X k) → StX ψ h Γ X := by
  intro Γ
  induction Γ with
  | nil => intro X H _ hs _; exact hs
  | cons c Γ ih =>
    intro X ⟨F, h1, h2, H⟩ hs hs' hX
    refine ⟨F, c.R.mono hs h1, fun k hk => ⟨?_, (h2 k hk).2⟩, ih H hs hs' fun k hk hn => .inl (hX k hk hn)⟩
    cases hψ : ψ k with
    | none => rfl
    | some o => exact ((h2 k hk).2 (hX k (by rw [hψ]; simp) (h2 k hk).1)).elim
theorem St.sub {φ : Snap} {Γ : List Chk} {h : Heap} (H : St φ Γ h) : Sub φ (snap h) := StX.sub H
theorem StX.cut {φ : Snap} {h : Heap} : ∀ {Γ Δ : List Chk} {X : Foot}, StX φ h (Γ ++ Δ) X → ∃ Y : Foot, (∀ k, Y k → φ k = none ∧ ¬ X k) ∧ (∀ k, Y k → k < h.size) ∧ StX φ h Γ (fun k => X k) ∧ StX φ h Δ (fun k => X k ∨ Y k) ∧
    (∀ {φ' : Snap} {h' : Heap} {X' : Foot}, Sub φ φ' → Sub φ' (snap h') → (∀ k, Y k → h'[k]? = h[k]?) → (∀ k, Y k → φ' k = none ∧ ¬ X' k) → StX φ' h' Δ (fun k => X' k ∨ Y k) → StX φ' h' (Γ ++ Δ) X') := by
  intro Γ
  induction Γ with
  | nil =>
    intro Δ X H
    refine ⟨fun _ => False, fun k hk => hk.elim, fun k hk => hk.elim, StX.sub H, by simpa using H, fun {φ' h' X'} _ _ _ _ H' => ?_⟩
    simpa using H'
  | cons c Γ ih =>
    intro Δ X ⟨F, h1, h2, H⟩
    obtain ⟨Y, y1, y2, y3, y4, y5⟩ := ih H
    refine ⟨fun k => F k ∨ Y k, fun k hk => ?_, fun k hk => ?_, ⟨F, h1, h2, y3⟩, ?_, ?_⟩
    · rcases hk with hk | hk
      · exact h2 k hk
      · exact ⟨(y1 k hk).1, fun g => (y1 k hk).2 (.inl g)⟩
    · rcases hk with hk | hk
      · exact c.R.lt h1 k hk
      · exact y2 k hk
    · refine y4.less fun k hk => ?_
      rcases hk with hk | hk | hk
      · exact .inl (.inl hk)
      · exact .inl (.inr hk)
      · exact .inr hk
    · intro φ' h' X' hs hs' hy hX H'
      refine ⟨F, c.R.mono hs (c.R.loc (fun i hi => hy i (.inl hi)) h1), fun k hk => hX k (.inl hk), y5 hs hs' (fun k hk => hy k (.inr hk)) (fun k hk => ⟨(hX k (.inr hk)).1, fun g => ?_⟩) (H'.less fun k hk => ?_)⟩
      · rcases g with g | g
        · exact (hX k (.inr hk)).2 g
        · exact (y1 k hk).2 (.inr g)
      · rcases hk with (hk | hk) | hk
        · exact .inl hk
        · exact .inr (.inl hk)
        · exact .inr (.inr hk)

/-! ### order does not matter -/
theorem StX.swap {φ : Snap} {h : Heap} {a b : Chk} {Γ : List Chk} {X : Foot} (H : StX φ h (a :: b :: Γ) X) : StX φ h (b :: a :: Γ) X := by
  obtain ⟨A, a1, a2, B, b1, b2, H⟩ := H
  refine ⟨B, b1, fun k hk => ⟨(b2 k hk).1, fun g => (b2 k hk).2 (.inl g)⟩, A, a1, fun k hk => ⟨(a2 k hk).1, fun g => ?_⟩, H.less fun k hk => ?_⟩
  · rcases g with g | g
    · exact (a2 k hk).2 g
    · exact (b2 k g).2 (.inr hk)
  · rcases hk with (hk | hk) | hk
    · exact .inl (.inl hk)
    · exact .inr hk
    · exact .inl (.inr hk)
theorem StX.perm {φ : Snap} {h : Heap} {Γ Δ : List Chk} (p : Γ.Perm Δ) : ∀ {X : Foot}, StX φ h Γ X → StX φ h Δ X := by
  induction p with
  | nil => intro X H; exact H
  | cons c _ ih => intro X ⟨F, h1, h2, H⟩; exact ⟨F, h1, h2, ih H⟩
  | swap a b l => intro X H; exact H.swap
  | trans _ _ ih1 ih2 => intro X H; exact ih2 (ih1 H)
theorem StX.tail {φ : Snap} {h : Heap} {c : Chk} {Γ : List Chk} {X : Foot} (H : StX φ h (c :: Γ) X) : StX φ h Γ X := by
  obtain ⟨F, _, _, H⟩ := H
  exact H.less fun k hk => .inl hk
theorem St.tail {φ : Snap} {h : Heap} {c : Chk} {Γ : List Chk} (H : St φ (c :: Γ) h) : St φ Γ h := StX.tail H
theorem St.perm {φ : Snap} {h : Heap} {Γ Δ : List Chk} (H : St φ Γ h) (p : Γ.Perm Δ) : St φ Δ h := StX.perm p H
/-- The piece at a place, ahead of all others. -/
def front (i : Nat) (Γ : List Chk) : List Chk := match Γ[i]? with
  | some c => c :: Γ.eraseIdx i
  | none => Γ
theorem front_perm : ∀ (i : Nat) (Γ : List Chk), Γ.Perm (front i Γ) := by
  intro i
  induction i with
  | zero => intro Γ; cases Γ <;> exact List.Perm.refl _
  | succ i ih =>
    intro Γ
    cases Γ with
    | nil => exact List.Perm.refl _
    | cons a Γ =>
      unfold front
      simp only [List.getElem?_cons_succ, List.eraseIdx_cons_succ]
      have := ih Γ
      unfold front at this
      cases hc : Γ[i]? with
      | none => exact List.Perm.refl _
      | some c =>
        rw [hc] at this
        exact (List.Perm.cons a this).trans (List.Perm.swap c a _)
theorem St.at {φ : Snap} {h : Heap} {Γ : List Chk} (H : St φ Γ h) (i : Nat) : St φ (front i Γ) h := H.perm (front_perm i Γ)
end Go.Eng

/-
  THE ENGINE, PART X: rules over pieces: what a tree's nodes do to them; loops as functions.
  Conditions: none; it speaks of any program.
-/
namespace Go.Eng
open Go

/-! ## plain things -/
def idx {α : Type} (l : List α) (i : Int) : Option α := if 0 ≤ i then l[i.toNat]? else none
def setI {α : Type} (l : List α) (i : Int) (x : α) : Option (List α) := if 0 ≤ i ∧ i < (l.length : Int) then some (l.set i.toNat x) else none
def app {α : Type} (l m : List α) : Option (List α) := if l.length + m.length ≤ 1099512676352 then some (l ++ m) else none
def cut {α : Type} (l : List α) (a b : Int) : Option (List α) := if 0 ≤ a ∧ a ≤ b ∧ b ≤ (l.length : Int) then some ((l.take b.toNat).drop a.toNat) else none
inductive Step (σ β : Type) where
  | next (s : σ)
  | done (b : β)
def iter {σ β : Type} (f : σ → Option (Step σ β)) : Nat → σ → Option β
  | 0, _ => none
  | n + 1, s => match f s with
    | none => none
    | some (.done b) => some b
    | some (.next s') => iter f n s'
theorem iter_mono {σ β : Type} {f : σ → Option (Step σ β)} {b : β} : ∀ {n m : Nat} {s : σ}, iter f n s = some b → n ≤ m → iter f m s = some b := by
  intro n
  induction n with
  | zero => intro m s h; cases h
  | succ n ih =>
    intro m s h hm
    obtain ⟨m, rfl⟩ : ∃ k, m = k + 1 := ⟨m - 1, by omega⟩
    simp only [iter] at h ⊢
    cases hf : f s with
    | none => rw [hf] at h; cases h
    | some e =>
      rw [hf] at h
      cases e with
      | done b' => exact h
      | next s' => exact ih h (by omega)
open Classical in
noncomputable def loopAny {σ β : Type} (s : σ) (f : σ → Option (Step σ β)) : Option β := if h : ∃ n b, iter f n s = some b then iter f h.choose s else none
/-- A loop, as long as it ends. (The kernel can run it, if it ends soon.) -/
noncomputable def loop {σ β : Type} (s : σ) (f : σ → Option (Step σ β)) : Option β := match iter f 4096 s with
  | some b => some b
  | none => loopAny s f
theorem loopAny_iff {σ β : Type} {f : σ → Option (Step σ β)} {s : σ} {b : β} : loopAny s f = some b ↔ ∃ n, iter f n s = some b := by
  unfold loopAny
  constructor
  · intro h
    split at h
    · exact ⟨_, h⟩
    · cases h
  · rintro ⟨n, h⟩
    have hx : ∃ n b, iter f n s = some b := ⟨n, b, h⟩
    rw [dif_pos hx]
    obtain ⟨b', hb'⟩ := hx.choose_spec
    rw [hb']
    rcases Nat.le_total n hx.choose with g | g
    · rw [← iter_mono h g, hb']
    · rw [← h, iter_mono hb' g]
theorem loop_iff {σ β : Type} {f : σ → Option (Step σ β)} {s : σ} {b : β} : loop s f = some b ↔ ∃ n, iter f n s = some b := by
  unfold loop
  split
  · rename_i b' h'
    constructor
    · rintro h; exact ⟨4096, by rw [h', h]⟩
    · rintro ⟨n, h⟩
      rcases Nat.le_total n 4096 with g | g
      · rw [← iter_mono h g, h']
      · rw [← h, iter_mono h' g]
  · exact loopAny_iff
theorem loop_eq {σ β : Type} (s : σ) (f : σ → Option (Step σ β)) : loop s f = (f s).bind fun e => match e with
    | .done b => some b
    | .next s' => loop s' f := by
  apply Option.ext
  intro b
  constructor
  · intro h
    obtain ⟨n, hn⟩ := loop_iff.1 h
    cases n with
    | zero => cases hn
    | succ n =>
      simp only [iter] at hn
      cases hf : f s with
      | none => rw [hf] at hn; cases hn
      | some e =>
        rw [hf] at hn
        cases e with
        | done b' => exact hn
        | next s' => exact loop_iff.2 ⟨n, hn⟩
  · intro h
    cases hf : f s with
    | none => rw [hf] at h; cases h
    | some e =>
      rw [hf] at h
      cases e with
      | done b' => exact loop_iff.2 ⟨1, by simp only [iter, hf]; exact h⟩
      | next s' =>
        obtain ⟨n, hn⟩ := loop_iff.1 h
        exact loop_iff.2 ⟨n + 1, by simp only [iter, hf]; exact hn⟩
/-- From i on, so often. -/
def forGo {σ β : Type} (f : Int → σ → Option (Step σ β)) : Nat → Int → σ → Option (Step σ β)
  | 0, _, s => some (.next s)
  | n + 1, i, s => (f i s).bind fun e => match e with
    | .next s' => forGo f n (i + 1) s'
    | .done b => some (.done b)
/-- From i on, ahead of e. -/
def forN {σ β : Type} (i e : Int) (s : σ) (f : Int → σ → Option (Step σ β)) : Option (Step σ β) := if 0 ≤ i ∧ e ≤ 9223372036854775807 then forGo f (e - i).toNat i s else none
def forGoS {σ : Type} (f : Int → σ → Option σ) : Nat → Int → σ → Option σ
  | 0, _, s => some s
  | n + 1, i, s => (f i s).bind fun s' => forGoS f n (i + 1) s'
/-- The same without a way out. -/
def forS {σ : Type} (i e : Int) (s : σ) (f : Int → σ → Option σ) : Option σ := if 0 ≤ i ∧ e ≤ 9223372036854775807 then forGoS f (e - i).toNat i s else none

theorem idx_some {α : Type} {l : List α} {i : Int} {x : α} (h : idx l i = some x) : 0 ≤ i ∧ i < (l.length : Int) ∧ l[i.toNat]? = some x := by
  unfold idx at h
  split at h
  · rename_i h0
    have : i.toNat < l.length := by
      rcases Nat.lt_or_ge i.toNat l.length with g | g
      · exact g
      · rw [List.getElem?_eq_none g] at h; cases h
    exact ⟨h0, by omega, h⟩
  · cases h
theorem app_some {α : Type} {l m k : List α} (h : app l m = some k) : l.length + m.length ≤ 1099512676352 ∧ k = l ++ m := by
  unfold app at h
  split at h
  · rename_i g; exact ⟨g, (Option.some.inj h).symm⟩
  · cases h
theorem setI_some {α : Type} {l m : List α} {i : Int} {x : α} (h : setI l i x = some m) : 0 ≤ i ∧ i < (l.length : Int) ∧ m = l.set i.toNat x := by
  unfold setI at h
  split at h
  · rename_i g; exact ⟨g.1, g.2, (Option.some.inj h).symm⟩
  · cases h
theorem cut_some {α : Type} {l m : List α} {a b : Int} (h : cut l a b = some m) : 0 ≤ a ∧ a ≤ b ∧ b ≤ (l.length : Int) ∧ m = (l.take b.toNat).drop a.toNat := by
  unfold cut at h
  split at h
  · rename_i g; exact ⟨g.1, g.2.1, g.2.2, (Option.some.inj h).symm⟩
  · cases h

/-! ## what stays -/
theorem Ro.SliceIs.get {α : Type} {r : Ro α} {φ : Snap} {t : Slc} {l : List α} {i : Int} {x : α} (H : Ro.SliceIs r φ t l) (hx : idx l i = some x) :
    ∃ a cs, t.1 = some a ∧ (0 ≤ i ∧ i < (t.2.1 : Nat)) ∧ r.is φ cs x ∧ ∀ j v, cs[j]? = some v → cellS φ (a.add (i.toNat * r.sz + j)) = some v := by
  obtain ⟨h0, h1, hx⟩ := idx_some hx
  obtain ⟨e, _, _, hn, vs, ha, hc⟩ := H
  obtain ⟨cs, hr, hcs⟩ := ha.at hx
  cases hp : t.1 with
  | none => rw [hn hp] at hx; simp at hx
  | some a =>
    refine ⟨a, cs, rfl, ⟨h0, by omega⟩, hr, fun j v hv => ?_⟩
    obtain ⟨a', ha', hcell⟩ := hc _ v (hcs j v hv)
    rw [hp] at ha'; cases ha'
    exact hcell
theorem Ro.SliceIs.nil {α : Type} (r : Ro α) (φ : Snap) : Ro.SliceIs r φ (none, 0, 0) [] := ⟨rfl, Nat.le_refl _, Nat.zero_le _, fun _ => rfl, [], .nil, fun i v hv => by simp at hv⟩
theorem Ro.SliceIs.length {α : Type} {r : Ro α} {φ : Snap} {t : Slc} {l : List α} (H : Ro.SliceIs r φ t l) : t.2.1 = l.length := H.1.symm
theorem Ro.SliceIs.lt {α : Type} {r : Ro α} {φ : Snap} {t : Slc} {l : List α} (H : Ro.SliceIs r φ t l) : l.length ≤ maxLen := by have := H.1; have := H.2.1; have := H.2.2.1; omega
/-- A part of a slice. -/
theorem Ro.SliceIs.cut {α : Type} {r : Ro α} {φ : Snap} {t : Slc} {l m : List α} {a b : Int} {sz : Nat} (H : Ro.SliceIs r φ t l) (hm : cut l a b = some m) (hsz : r.sz = sz) :
    (0 ≤ a ∧ a ≤ b ∧ b ≤ (t.2.2 : Nat)) ∧ Ro.SliceIs r φ ((if t.2.2 = a.toNat then t.1 else Option.map (fun x => Addr.add x (a.toNat * sz)) t.1), b.toNat - a.toNat, t.2.2 - a.toNat) m := by
  obtain ⟨h0, h1, h2, rfl⟩ := cut_some hm
  obtain ⟨e, hc, hm, hn, vs, ha, hcs⟩ := H
  subst hsz
  refine ⟨⟨h0, h1, by omega⟩, ?_, ?_, ?_, ?_, (vs.take (b.toNat * r.sz)).drop (a.toNat * r.sz), (ha.take _).drop _, ?_⟩
  · simp only [List.length_drop, List.length_take]; omega
  · dsimp only; omega
  · dsimp only; omega
  · intro h
    dsimp only at h
    cases hp : t.1 with
    | none => rw [hn hp]; simp
    | some x =>
      rw [hp] at h
      split at h <;> cases h
  · intro i v hv
    rw [List.getElem?_drop, List.getElem?_take] at hv
    split at hv
    · rename_i hlt
      obtain ⟨x, hx, hcell⟩ := hcs _ v hv
      rw [hx]
      dsimp only
      split
      · rename_i hca
        have hl := ha.length
        have : vs[a.toNat * r.sz + i]? = none := by
          rw [List.getElem?_eq_none]
          rw [hl]
          have : l.length * r.sz ≤ a.toNat * r.sz := Nat.mul_le_mul_right _ (by omega)
          omega
        rw [this] at hv; cases hv
      · exact ⟨_, rfl, by rw [add_add]; exact hcell⟩
    · cases hv

/-! ## pieces -/
section
variable {φ : Snap} {h : Heap} {Γ : List Chk} {X : Foot}
theorem StX.ro {α : Type} {r : Ro α} {cs : List Value} {x : α} (H : StX φ h (⟨Rep.ro r, cs, x⟩ :: Γ) X) : r.is φ cs x ∧ StX φ h Γ X := by
  obtain ⟨F, h1, _, H⟩ := H
  exact ⟨h1.2, H.less fun k hk => .inl hk⟩
theorem St.ro {α : Type} {r : Ro α} {cs : List Value} {x : α} (H : St φ (⟨Rep.ro r, cs, x⟩ :: Γ) h) : r.is φ cs x ∧ St φ Γ h := StX.ro H
theorem St.unro {α : Type} {r : Ro α} {cs : List Value} {x : α} (H : St φ Γ h) (hr : r.is φ cs x) : St φ (⟨Rep.ro r, cs, x⟩ :: Γ) h :=
  ⟨fun _ => False, ⟨fun _ h => h, hr⟩, fun _ hk => hk.elim, H.less fun _ hk => hk.elim id id⟩
theorem St.pair {α β : Type} {R : Rep α} {S : Rep β} {cs : List Value} {x : α × β} (H : St φ (⟨Rep.prod R S, cs, x⟩ :: Γ) h) : ∃ a b, cs = a ++ b ∧ a.length = R.sz ∧ St φ (⟨R, a, x.1⟩ :: ⟨S, b, x.2⟩ :: Γ) h := by
  obtain ⟨F, ⟨a, b, A, B, rfl, ha, hb, hd, hF⟩, h2, H⟩ := H
  refine ⟨a, b, rfl, R.len ha, A, ha, fun k hk => h2 k ((hF k).2 (.inl hk)), B, hb, fun k hk => ⟨(h2 k ((hF k).2 (.inr hk))).1, fun g => ?_⟩, H.less fun k hk => ?_⟩
  · rcases g with g | g
    · exact g
    · exact hd k g hk
  · rcases hk with (hk | hk) | hk
    · exact hk.elim
    · exact .inr ((hF k).2 (.inl hk))
    · exact .inr ((hF k).2 (.inr hk))
theorem St.unpair {α β : Type} {R : Rep α} {S : Rep β} {a b : List Value} {x : α} {y : β} (H : St φ (⟨R, a, x⟩ :: ⟨S, b, y⟩ :: Γ) h) : St φ (⟨Rep.prod R S, a ++ b, (x, y)⟩ :: Γ) h := by
  obtain ⟨A, ha, hA, B, hb, hB, H⟩ := H
  refine ⟨fun k => A k ∨ B k, ⟨a, b, A, B, rfl, ha, hb, fun i hi hj => (hB i hj).2 (.inr hi), fun _ => Iff.rfl⟩, fun k hk => ?_, H.less fun k hk => ?_⟩
  · rcases hk with hk | hk
    · exact hA k hk
    · exact ⟨(hB k hk).1, fun g => g⟩
  · rcases hk with hk | hk | hk
    · exact hk.elim
    · exact .inl (.inr hk)
    · exact .inr hk
theorem St.open {α : Type} {ty : TypeId} {R : Rep α} {cs : List Value} {x : α} (H : St φ (⟨Rep.obj ty R, cs, x⟩ :: Γ) h) :
    ∃ b vs, cs = [.pointer (some ⟨b, 0, none⟩)] ∧ vs.length = R.sz ∧ St φ (⟨Rep.raw ty, [.pointer (some ⟨b, 0, none⟩)], vs⟩ :: ⟨R, vs, x⟩ :: Γ) h := by
  obtain ⟨F, ⟨b, vs, G, rfl, hb, hR, hG, hF⟩, h2, H⟩ := H
  refine ⟨b, vs, rfl, R.len hR, fun i => i = b, ⟨b, rfl, hb, fun _ => Iff.rfl⟩, fun k hk => h2 k ((hF k).2 (.inl hk)), G, hR, fun k hk => ⟨(h2 k ((hF k).2 (.inr hk))).1, fun g => ?_⟩, H.less fun k hk => ?_⟩
  · rcases g with g | g
    · exact g
    · subst g; exact hG hk
  · rcases hk with (hk | hk) | hk
    · exact hk.elim
    · exact .inr ((hF k).2 (.inl hk))
    · exact .inr ((hF k).2 (.inr hk))
theorem St.shut {α : Type} {ty : TypeId} {R : Rep α} {cs vs : List Value} {x : α} (H : St φ (⟨Rep.raw ty, cs, vs⟩ :: ⟨R, vs, x⟩ :: Γ) h) : St φ (⟨Rep.obj ty R, cs, x⟩ :: Γ) h := by
  obtain ⟨A, ⟨b, rfl, hb, hA'⟩, hA, B, hR, hB, H⟩ := H
  refine ⟨fun k => k = b ∨ B k, ⟨b, vs, B, rfl, hb, hR, fun hk => (hB b hk).2 (.inr ((hA' b).2 rfl)), fun _ => Iff.rfl⟩, fun k hk => ?_, H.less fun k hk => ?_⟩
  · rcases hk with hk | hk
    · exact hA k ((hA' k).2 hk)
    · exact ⟨(hB k hk).1, fun g => g⟩
  · rcases hk with hk | hk | hk
    · exact hk.elim
    · exact .inl (.inr ((hA' k).2 hk))
    · exact .inr hk
/-- What is new. -/
theorem St.new {ty : TypeId} (vs : List Value) (H : St φ Γ h) : St φ (⟨Rep.raw ty, [.pointer (some ⟨h.size, 0, none⟩)], vs⟩ :: Γ) (h.push (.cells vs.toArray ty (0, 0))) := by
  have hs := H.sub
  refine ⟨fun i => i = h.size, ⟨h.size, rfl, by rw [Array.getElem?_push, if_pos rfl], fun _ => Iff.rfl⟩, fun k hk => ⟨?_, fun g => g⟩, ?_⟩
  · subst hk
    cases hφ : φ h.size with
    | none => rfl
    | some o => have := lt_of_get (hs _ _ hφ); omega
  · refine StX.heap (StX.more H fun k hk => ?_) (fun k hk _ => by rw [Array.getElem?_push]; simp; omega) fun i o ho => ?_
    · rcases hk with hk | hk
      · exact hk.elim
      · left; omega
    · have hlt := lt_of_get (hs i o ho)
      show (h.push _)[i]? = some o
      rw [Array.getElem?_push, if_neg (by omega)]
      exact hs i o ho
theorem St.nil {α : Type} (ty : TypeId) (r : Ro α) (H : St φ Γ h) : St φ (⟨Rep.row ty r, [.slice none 0 0], []⟩ :: Γ) h :=
  ⟨fun _ => False, ⟨none, 0, 0, [], rfl, rfl, Nat.zero_le _, (fun _ _ _ h => by cases h), .inl ⟨rfl, rfl, rfl, rfl⟩, .nil, fun i => by simp [blk]⟩, fun _ hk => hk.elim, H.less fun _ hk => hk.elim id id⟩
theorem St.lit {α : Type} {ty : TypeId} {r : Ro α} {b n : Nat} {vs : List Value} {l : List α} (H : St φ (⟨Rep.raw ty, [.pointer (some ⟨b, 0, none⟩)], vs⟩ :: Γ) h) (ha : r.All φ vs l) (hn : l.length = n) (hb : n ≤ maxLen) :
    St φ (⟨Rep.row ty r, [.slice (some ⟨b, 0, none⟩) n n], l⟩ :: Γ) h := by
  obtain ⟨F, ⟨b', e, hcell, hF⟩, h2, H⟩ := H
  cases e
  refine ⟨F, ⟨_, n, n, vs, rfl, hn, hb, (fun b' off s e => by cases e; exact ⟨rfl, fun arr ty f harr => by rw [hcell] at harr; cases harr; simp [ha.length, hn]⟩), .inr ⟨b, 0, vs.toArray, rfl, hcell, by rw [ha.length, hn], Nat.le_refl _, by simp [ha.length, hn], fun i v hv => by simpa using hv⟩, ha, fun i => by rw [hF]; simp [blk]⟩, h2, H⟩
/-- For good. -/
def Frz {α : Type} (R : Rep α) (r : Ro α) : Prop := ∀ {φ ψ : Snap} {h : Heap} {F : Foot} {cs : List Value} {x : α}, R.is φ h F cs x → Sub φ ψ → (∀ i, F i → ψ i = h[i]?) → r.is ψ cs x
theorem St.freeze {α : Type} {R : Rep α} {r : Ro α} {cs : List Value} {x : α} (hz : Frz R r) (H : St φ (⟨R, cs, x⟩ :: Γ) h) : ∃ ψ, Sub φ ψ ∧ r.is ψ cs x ∧ St ψ Γ h := by
  classical
  obtain ⟨F, h1, h2, H⟩ := H
  have hs := H.sub
  have le : Sub φ (fun i => if F i then h[i]? else φ i) := fun i o ho => by
    show (if F i then h[i]? else φ i) = some o
    rw [if_neg]
    · exact ho
    · intro hF; have e := (h2 i hF).1; rw [e] at ho; cases ho
  refine ⟨fun i => if F i then h[i]? else φ i, le, hz h1 le fun i hi => if_pos hi, ?_⟩
  refine StX.less (StX.grow H le (fun i o ho => ?_) fun k hk hn => ?_) fun k hk => hk.elim
  · split at ho
    · exact ho
    · exact hs i o ho
  · split at hk
    · exact .inr (by assumption)
    · exact absurd hn hk
theorem frz_ro {α : Type} (r : Ro α) : Frz (Rep.ro r) r := fun h hs _ => r.mono hs h.2
theorem frz_prod {α β : Type} {R : Rep α} {S : Rep β} {r : Ro α} {s : Ro β} (hr : Frz R r) (hs : Frz S s) : Frz (Rep.prod R S) (Ro.prod r s) := by
  rintro φ ψ h F cs x ⟨a, b, A, B, rfl, ha, hb, _, hF⟩ hsub hψ
  exact ⟨a, b, rfl, hr ha hsub fun i hi => hψ i ((hF i).2 (.inl hi)), hs hb hsub fun i hi => hψ i ((hF i).2 (.inr hi))⟩
theorem frz_via {α β : Type} {R : Rep α} {r : Ro α} (f : β → α) (hr : Frz R r) : Frz (Rep.via R f) (Ro.via r f) := fun h hs hψ => hr h hs hψ
theorem cells_freeze {ψ : Snap} {p : Option Addr} {vs : List Value} (hc : CellsAt h p vs) (hψ : ∀ i, i ∈ blk p → ψ i = h[i]?) : CellsS ψ p vs := fun i v hv => by
  obtain ⟨a, rfl, hcell⟩ := hc i v hv
  refine ⟨a, rfl, ?_⟩
  have e := hψ a.block (by simp [blk])
  unfold cellS
  rw [add_block, e]
  have : cellS (snap h) (a.add i) = some v := hcell
  unfold cellS at this
  rw [add_block] at this
  exact this
theorem frz_row {α : Type} (ty : TypeId) (r : Ro α) : Frz (Rep.row ty r) (Ro.list r) := by
  rintro φ ψ h F cs l ⟨p, n, c, vs, rfl, hn, hc, hfu, ho, ha, hF⟩ hsub hψ
  refine ⟨(p, n, c), rfl, hn, ho.cap, hc, fun hp => ?_, vs, ha.mono hsub, cells_freeze ho.cells fun i hi => hψ i ((hF i).2 hi)⟩
  rcases ho with ⟨_, h0, _, _⟩ | ⟨b, off, arr, rfl, _⟩
  · exact List.eq_nil_of_length_eq_zero (by omega)
  · cases hp
/-- What stays may be told from a piece that was put away. -/
theorem frz_obj {α : Type} {ty : TypeId} {R : Rep α} {r : Ro α} (hr : Frz R r) : Frz (Rep.obj ty R) (Ro.via (Ro.ptr r) some) := by
  rintro φ ψ h F cs x ⟨b, vs, G, rfl, hb, hR, hG, hF⟩ hsub hψ
  have hc : CellsAt h (some ⟨b, 0, none⟩) vs := fun i v hv => by
    refine ⟨⟨b, 0, none⟩, rfl, ?_⟩
    rw [add_mk, cellH_of (c := vs.toArray) (t := ty) (f := (0, 0)) hb rfl]
    simpa using hv
  have hk : ∀ i, i ∈ blk (some (⟨b, 0, none⟩ : Addr)) → ψ i = h[i]? := fun i hi => by
    simp [blk] at hi
    rw [hi]
    exact hψ b ((hF b).2 (.inl rfl))
  exact ⟨⟨b, 0, none⟩, vs, rfl, hr hR hsub fun i hi => hψ i ((hF i).2 (.inr hi)), cells_freeze hc hk⟩

/-! ## cells -/
theorem St.cell {ty : TypeId} {b j : Nat} {vs : List Value} {v : Value} (H : St φ (⟨Rep.raw ty, [.pointer (some ⟨b, 0, none⟩)], vs⟩ :: Γ) h) (hv : vs[j]? = some v) : cellH h ⟨b, j, none⟩ = some v := by
  obtain ⟨F, ⟨b', e, hb, hF⟩, h2, H⟩ := H
  cases e
  rw [cellH_of (c := vs.toArray) (t := ty) (f := (0, 0)) hb rfl]
  simpa using hv
theorem St.cells {ty : TypeId} {b : Nat} {vs : List Value} (H : St φ (⟨Rep.raw ty, [.pointer (some ⟨b, 0, none⟩)], vs⟩ :: Γ) h) : CellsAt h (some ⟨b, 0, none⟩) vs := fun i v hv => ⟨_, rfl, by rw [add_mk, Nat.zero_add]; exact H.cell hv⟩
/-- A cell is written. -/
theorem St.put {ty : TypeId} {b j : Nat} {vs : List Value} (v : Value) (H : St φ (⟨Rep.raw ty, [.pointer (some ⟨b, 0, none⟩)], vs⟩ :: Γ) h) (hj : j < vs.length) :
    (cellH h ⟨b, j, none⟩).isSome = true ∧ frozenH h ⟨b, j, none⟩ = false ∧ St φ (⟨Rep.raw ty, [.pointer (some ⟨b, 0, none⟩)], vs.set j v⟩ :: Γ) (setCellH h ⟨b, j, none⟩ v) := by
  obtain ⟨F, ⟨b', e, hb, hF⟩, h2, H⟩ := H
  cases e
  refine ⟨?_, ?_, F, ⟨b, rfl, ?_, hF⟩, h2, ?_⟩
  · rw [cellH_of (c := vs.toArray) (t := ty) (f := (0, 0)) hb rfl]; simp; omega
  · unfold frozenH ofHeap World.frozen?; simp [hb]
  · rw [setCellH_at hb]; simp
  · have hs := H.sub
    have hne : ∀ k, ¬ F k → (setCellH h ⟨b, j, none⟩ v)[k]? = h[k]? := fun k hk => setCellH_ne fun e => hk ((hF k).2 e)
    refine StX.heap H (fun k _ hX => hne k fun g => hX (.inr g)) fun i o ho => ?_
    show (setCellH h _ v)[i]? = some o
    rw [hne i fun g => by rw [(h2 i g).1] at ho; cases ho]
    exact hs i o ho
/-- A row's thing. -/
theorem St.get {α : Type} {ty : TypeId} {r : Ro α} {t : Slc} {l : List α} {i : Int} {x : α} (H : St φ (⟨Rep.row ty r, [.slice t.1 t.2.1 t.2.2], l⟩ :: Γ) h) (hx : idx l i = some x) :
    ∃ a cs, t.1 = some a ∧ (0 ≤ i ∧ i < (t.2.1 : Nat)) ∧ r.is φ cs x ∧ ∀ j v, cs[j]? = some v → cellH h (a.add (i.toNat * r.sz + j)) = some v := by
  obtain ⟨F, ⟨p, n, c, vs, e, hn, hc, hfu, ho, ha, hF⟩, h2, H⟩ := H
  have hn : l.length = n := hn
  simp only [List.cons.injEq, Value.slice.injEq, and_true] at e
  obtain ⟨e1, e2, e3⟩ := e
  obtain ⟨h0, h1, hx⟩ := idx_some hx
  obtain ⟨cs, hr, hcs⟩ := ha.at hx
  have hcells := ho.cells
  rw [e1]
  cases p with
  | none =>
    rcases ho with ⟨_, hn0, _, _⟩ | ⟨b, off, arr, hp, _⟩
    · omega
    · cases hp
  | some a =>
    refine ⟨a, cs, rfl, ⟨h0, by rw [e2]; omega⟩, hr, fun j v hv => ?_⟩
    obtain ⟨a', ha', hcell⟩ := hcells _ v (hcs j v hv)
    cases ha'
    exact hcell
theorem St.rowLen {α : Type} {ty : TypeId} {r : Ro α} {t : Slc} {l : List α} (H : St φ (⟨Rep.row ty r, [.slice t.1 t.2.1 t.2.2], l⟩ :: Γ) h) : t.2.1 = l.length := by
  obtain ⟨F, ⟨p, n, c, vs, e, hn, hc, hfu, ho, ha, hF⟩, h2, H⟩ := H
  have hn : l.length = n := hn
  simp only [List.cons.injEq, Value.slice.injEq, and_true] at e
  omega
theorem St.rowMax {α : Type} {ty : TypeId} {r : Ro α} {t : Slc} {l : List α} (H : St φ (⟨Rep.row ty r, [.slice t.1 t.2.1 t.2.2], l⟩ :: Γ) h) : l.length ≤ maxLen := by
  obtain ⟨F, ⟨p, n, c, vs, e, hn, hc, hfu, ho, ha, hF⟩, h2, H⟩ := H
  have := ho.cap
  have hn : l.length = n := hn
  omega
/-- The cells of all things of a row. -/
theorem St.all {α : Type} {ty : TypeId} {r : Ro α} {t : Slc} {l : List α} (H : St φ (⟨Rep.row ty r, [.slice t.1 t.2.1 t.2.2], l⟩ :: Γ) h) : ∃ vs, r.All φ vs l ∧ CellsAt h t.1 vs := by
  obtain ⟨F, ⟨p, n, c, vs, e, hn, hc, hfu, ho, ha, hF⟩, h2, H⟩ := H
  have hn : l.length = n := hn
  simp only [List.cons.injEq, Value.slice.injEq, and_true] at e
  rw [e.1]
  exact ⟨vs, ha, ho.cells⟩
end

/-! ## nodes over pieces -/
section
variable {P : Program} {Q : Leaf → Heap → Prop} {φ : Snap} {h : Heap} {Γ : List Chk}
theorem s_new {ty : TypeId} {vs : List Value} {k : Nat → T} (H : St φ Γ h) (hk : ∀ r h', St φ (⟨Rep.raw ty, [.pointer (some ⟨r, 0, none⟩)], vs⟩ :: Γ) h' → (k r).wp P Q h') : (T.new (.cells vs.toArray ty (0, 0)) k).wp P Q h :=
  t_new (hk _ _ (H.new vs))
theorem s_load {s : Atom} {a : Addr} {k : s.Ty → T} {x : s.Ty} {v : Value} (hc : cellH h a = some v) (hv : v = s.val x) (H : (k x).wp P Q h) : (T.load s a k).wp P Q h := t_load x (by rw [hc, hv]) H
theorem s_loadR {s : Atom} {ty : TypeId} {b j : Nat} {vs : List Value} {k : s.Ty → T} {x : s.Ty} (H : St φ (⟨Rep.raw ty, [.pointer (some ⟨b, 0, none⟩)], vs⟩ :: Γ) h) (hv : vs[j]? = some (s.val x)) (hk : (k x).wp P Q h) : (T.load s ⟨b, j, none⟩ k).wp P Q h :=
  t_load x (H.cell hv) hk
theorem s_put {ty : TypeId} {b j : Nat} {vs : List Value} {v : Value} {k : T} (H : St φ (⟨Rep.raw ty, [.pointer (some ⟨b, 0, none⟩)], vs⟩ :: Γ) h) (hp : Value.plain v = true) (hj : j < vs.length)
    (hk : ∀ h', St φ (⟨Rep.raw ty, [.pointer (some ⟨b, 0, none⟩)], vs.set j v⟩ :: Γ) h' → k.wp P Q h') : (T.store ⟨b, j, none⟩ v k).wp P Q h := by
  obtain ⟨h1, h2, h3⟩ := H.put v hj
  exact t_store hp h1 h2 (hk _ h3)
/-- A thing of one cell is put in another's place. -/
theorem s_set {α : Type} {ty : TypeId} {r : Ro α} {t : Slc} {l m : List α} {i : Int} {x : α} {v : Value} {k : T} {a : Addr} (H : St φ (⟨Rep.row ty r, [.slice t.1 t.2.1 t.2.2], l⟩ :: Γ) h) (hm : setI l i x = some m) (hr : r.is φ [v] x) (ha : t.1 = some a)
    (hk : ∀ h', St φ (⟨Rep.row ty r, [.slice t.1 t.2.1 t.2.2], m⟩ :: Γ) h' → k.wp P Q h') : (T.store (a.add (i.toNat * 1)) v k).wp P Q h := by
  obtain ⟨F, ⟨p, n, c, vs, e, hn, hc, hfu, ho, hall, hF⟩, h2, H⟩ := H
  have hn : l.length = n := hn
  simp only [List.cons.injEq, Value.slice.injEq, and_true] at e
  obtain ⟨e1, e2, e3⟩ := e
  obtain ⟨h0, h1, rfl⟩ := setI_some hm
  have hsz : r.sz = 1 := (r.len hr).symm
  rw [e1] at ha
  subst ha
  rcases ho with ⟨hp, _⟩ | ⟨b, off, arr, hp, hb, g1, g2, g3, g4⟩
  · cases hp
  · cases hp
    rw [hsz] at g1 g3
    have hlt : off + i.toNat < arr.size := by omega
    have hcell : (Addr.add ⟨b, off, none⟩ (i.toNat * 1)) = ⟨b, off + i.toNat, none⟩ := by rw [add_mk, Nat.mul_one]
    rw [hcell]
    have hb1 := setCellH_at (off := off + i.toNat) (v := v) hb
    refine t_store (r.plain hr v (by simp)) ?_ ?_ (hk _ ?_)
    · rw [cellH_of (c := arr) (t := ty) (f := (0, 0)) hb rfl]; simp; omega
    · unfold frozenH ofHeap World.frozen?; simp [hb]
    · have hs := H.sub
      have hne : ∀ k, ¬ F k → (setCellH h ⟨b, off + i.toNat, none⟩ v)[k]? = h[k]? := fun k hk => setCellH_ne fun e => hk ((hF k).2 (by simp [blk]; exact e))
      refine ⟨F, ⟨some ⟨b, off, none⟩, n, c, vs.set i.toNat v, by rw [e1, e2, e3], by simp; exact hn, hc, (fun b' off' s' e => by cases e; obtain ⟨q1, q2⟩ := hfu _ _ _ rfl; exact ⟨q1, fun arr' ty' f' harr => by rw [hb1] at harr; cases harr; rw [Array.size_setIfInBounds]; exact q2 _ _ _ hb⟩), .inr ⟨b, off, _, rfl, hb1, by simp [hsz]; omega, g2, by simp [hsz]; omega, fun j u hu => ?_⟩, ?_, hF⟩, h2, StX.heap H (fun k _ hX => hne k fun g => hX (.inr g)) fun j o ho => ?_⟩
      · rw [List.getElem?_set] at hu
        split at hu
        · rename_i hj
          subst hj
          split at hu
          · cases hu; rw [Array.getElem?_setIfInBounds]; simp; omega
          · cases hu
        · rw [Array.getElem?_setIfInBounds_ne (by omega)]; exact g4 j u hu
      · clear hk hb1 hne hm
        have : ∀ {vs : List Value} {l : List α}, r.All φ vs l → ∀ i : Nat, r.All φ (vs.set i v) (l.set i x) := by
          intro vs l hall
          induction hall with
          | nil => intro i; simp; exact .nil
          | @cons a b y l hy hb ih =>
            intro i
            have hl : a.length = 1 := by rw [r.len hy, hsz]
            match a, hl with
            | [w], _ =>
              cases i with
              | zero => exact .cons (a := [v]) hr hb
              | succ i => exact .cons (a := [w]) hy (ih i)
        exact this hall i.toNat
      · show (setCellH h _ v)[j]? = some o
        rw [hne j fun g => by rw [(h2 j g).1] at ho; cases ho]
        exact hs j o ho
/-- append -/
theorem s_append {α : Type} {st xt rt elem : TypeId} {sz : Nat} {r : Ro α} {p xp : Option Addr} {n c m xc : Nat} {l l' : List α} {ms : List α} {ws : List Value} {k : Slc → T} (A : AppT P st xt elem sz)
    (H : St φ (⟨Rep.row elem r, [.slice p n c], l⟩ :: Γ) h) (hsz : r.sz = sz) (hw : CellsAt h xp ws) (ha : r.All φ ws ms) (hm : ms.length = m) (hD : app l ms = some l')
    (hk : ∀ (t : Slc) h', St φ (⟨Rep.row elem r, [.slice t.1 t.2.1 t.2.2], l'⟩ :: Γ) h' → (k t).wp P Q h') :
    (T.sem (Builtin.append_ #[st, xt] rt #[.slice p n c, .slice xp m xc]) (.one (.atom .slice)) k).wp P Q h := by
  obtain ⟨F, ⟨p', n', c', vs, e, hn, hc, hfu, ho, hall, hF⟩, h2, H⟩ := H
  have hn : l.length = n' := hn
  simp only [List.cons.injEq, Value.slice.injEq, and_true] at e
  obtain ⟨rfl, rfl, rfl⟩ := e
  obtain ⟨hle, rfl⟩ := app_some hD
  subst hsz
  have hs := H.sub
  refine t_sem (append_wpX A ho hw (by rw [ha.length, hm]) ha.plain (by omega) fun p' c' h' o' k' n' g' => ⟨(p', n + m, c'), rfl, hk _ _ ?_⟩)
  have hFk : ∀ k, k < h.size → ¬ F k → h'[k]? = h[k]? := fun k hk hF' => k'.2 k hk fun hb => hF' ((hF k).2 hb)
  refine ⟨fun i => i ∈ blk p', ⟨p', n + m, c', vs ++ ws, rfl, by simp; omega, ?_, ?_, o', hall.append ha, fun i => Iff.rfl⟩, fun k hk => ⟨?_, fun g => g⟩, ?_⟩
  · rcases g' with ⟨_, rfl, _⟩ | ⟨_, g, _⟩
    · exact hc
    · exact g
  · intro b off s e
    rcases g' with ⟨rfl, rfl, g⟩ | ⟨rfl, _, arr, g1, g2⟩
    · subst e
      obtain ⟨q1, q2⟩ := hfu _ _ _ rfl
      refine ⟨q1, fun arr ty f harr => ?_⟩
      rcases ho with ⟨hp, _⟩ | ⟨b', off', arr', hp, hb', _⟩
      · cases hp
      · cases hp
        obtain ⟨arr2, e1, e2⟩ := g _ _ rfl _ _ hb'
        rw [e1] at harr; cases harr
        rw [e2]; exact q2 _ _ _ hb'
    · cases e
      refine ⟨rfl, fun arr' ty f harr => ?_⟩
      rw [g1] at harr; cases harr
      exact g2
  · rcases n' k hk with g | g
    · exact (h2 k ((hF k).2 g)).1
    · cases hφ : φ k with
      | none => rfl
      | some o => have := lt_of_get (hs _ _ hφ); omega
  · have H1 : StX φ h Γ (fun k => F k ∨ h.size ≤ k) := StX.more H fun k hk => by
      rcases hk with hk | hk
      · exact .inr (.inl (.inr hk))
      · exact .inl hk
    have H2 : StX φ h' Γ (fun k => F k ∨ h.size ≤ k) := StX.heap H1 (fun k hk hX => hFk k hk fun g => hX (.inl g)) fun i o ho => by
      show h'[i]? = some o
      rw [hFk i (lt_of_get (hs i o ho)) fun g => by rw [(h2 i g).1] at ho; cases ho]
      exact hs i o ho
    refine H2.less fun k hk => ?_
    rcases hk with hk | hk
    · exact hk.elim
    · exact (n' k hk).imp (fun g => (hF k).2 g) id

/-! ## calls -/
/-- What a state becomes, where nothing that was there changed but what is told. -/
theorem s_call {f : FuncId} {args : List Value} {sh : Sh} {k : sh.Ty → T} {S : Value → Heap → Prop} (hc : CallsH P f args h (Back S)) (hk : ∀ v h', S v h' → ∃ x, v = sh.val x ∧ (k x).wp P Q h') : (T.call f args sh k).wp P Q h :=
  t_callB hc hk

theorem least {p : Nat → Prop} (h : ∃ n, p n) : ∃ n, p n ∧ ∀ m, p m → n ≤ m := by
  obtain ⟨n, hn⟩ := h
  induction n using Nat.strongRecOn with
  | ind n ih =>
    by_cases hx : ∃ m, m < n ∧ p m
    · obtain ⟨m, hm, hp⟩ := hx
      exact ih m hm hp
    · refine ⟨n, hn, fun m hm => ?_⟩
      rcases Nat.lt_or_ge m n with g | g
      · exact absurd ⟨m, g, hm⟩ hx
      · exact g

/-! ## joins and loops -/
/-- Where both ways of a test come together, D tells what comes of it. -/
def meet {γ : Type} (ss : List Sh1) (M : Shs.Ty ss → Heap → γ → Prop) (g : γ) (Q : Leaf → Heap → Prop) (lf : Leaf) (h' : Heap) : Prop := match lf with
  | .out vs => ∃ y, Shs.of ss vs = some y ∧ M y h' g
  | lf => Q lf h'
theorem s_join {γ : Type} {ss : List Sh1} {x : T} {k : Shs.Ty ss → T} (M : Shs.Ty ss → Heap → γ → Prop) {g : γ} (H : x.wp P (meet ss M g Q) h) (hk : ∀ y h', M y h' g → (k y).wp P Q h') : (T.join ss x k).wp P Q h :=
  t_join' (fun y h' => M y h' g) (T.wp_mono x (fun lf h' hl => by cases lf <;> exact hl) H) hk
theorem s_out {γ : Type} {ss : List Sh1} {M : Shs.Ty ss → Heap → γ → Prop} {g : γ} {vs : List Value} (y : Shs.Ty ss) (hy : Shs.of ss vs = some y) (hM : M y h g) : (T.out vs).wp P (meet ss M g Q) h := ⟨y, hy, hM⟩
theorem meet_ret {γ : Type} {ss : List Sh1} {M : Shs.Ty ss → Heap → γ → Prop} {g : γ} {v : Value} (H : Q (.ret v) h) : meet ss M g Q (.ret v) h := H
theorem meet_brk {γ : Type} {ss : List Sh1} {M : Shs.Ty ss → Heap → γ → Prop} {g : γ} {id : Nat} {vs : List Value} (H : Q (.brk id vs) h) : meet ss M g Q (.brk id vs) h := H
/-- A block that is left. -/
def meetB {γ : Type} (id : Nat) (ss : List Sh1) (M : Shs.Ty ss → Heap → γ → Prop) (g : γ) (Q : Leaf → Heap → Prop) (lf : Leaf) (h' : Heap) : Prop := match lf with
  | .out vs => ∃ y, Shs.of ss vs = some y ∧ M y h' g
  | .brk id' vs => bif Nat.beq id' id then (∃ y, Shs.of ss vs = some y ∧ M y h' g) else Q (.brk id' vs) h'
  | lf => Q lf h'
theorem s_block {γ : Type} {id : Nat} {ss : List Sh1} {x : T} {k : Shs.Ty ss → T} (M : Shs.Ty ss → Heap → γ → Prop) {g : γ} (H : x.wp P (meetB id ss M g Q) h) (hk : ∀ y h', M y h' g → (k y).wp P Q h') : (T.block id ss x k).wp P Q h :=
  t_block' (fun y h' => M y h' g) (T.wp_mono x (fun lf h' hl => by cases lf <;> exact hl) H) hk
section
variable {γ : Type} {id : Nat} {ss : List Sh1} {M : Shs.Ty ss → Heap → γ → Prop} {g : γ}
theorem s_bout {vs : List Value} (y : Shs.Ty ss) (hy : Shs.of ss vs = some y) (hM : M y h g) : (T.out vs).wp P (meetB id ss M g Q) h := ⟨y, hy, hM⟩
theorem s_bbrk {vs : List Value} (y : Shs.Ty ss) (hy : Shs.of ss vs = some y) (hM : M y h g) : (T.brk id vs).wp P (meetB id ss M g Q) h := by
  show meetB id ss M g Q (.brk id vs) h
  unfold meetB
  have : Nat.beq id id = true := by simp
  simp only [this, cond_true]
  exact ⟨y, hy, hM⟩
theorem meetB_brk {vs : List Value} (y : Shs.Ty ss) (hy : Shs.of ss vs = some y) (hM : M y h g) : meetB id ss M g Q (.brk id vs) h := by
  unfold meetB
  have : Nat.beq id id = true := by simp
  simp only [this, cond_true]
  exact ⟨y, hy, hM⟩
theorem meetB_ret {v : Value} (H : Q (.ret v) h) : meetB id ss M g Q (.ret v) h := H
theorem meetB_other {id' : Nat} {vs : List Value} (hn : Nat.beq id' id = false) (H : Q (.brk id' vs) h) : meetB id ss M g Q (.brk id' vs) h := by
  unfold meetB
  simp only [hn, cond_false]
  exact H
end
/-- A round's end. -/
def around {σ : Type} (ss : List Sh1) (I : Shs.Ty ss → Heap → σ → Prop) (e : Option σ) (Q : Leaf → Heap → Prop) (lf : Leaf) (h' : Heap) : Prop := match lf with
  | .out vs => ∃ y s, Shs.of ss vs = some y ∧ e = some s ∧ I y h' s
  | lf => Q lf h'
def Step.go {σ β : Type} : Step σ β → Option σ
  | .next s => some s
  | .done _ => none
/-- A loop that D goes along: the state I; what holds where the loop is left is for the body's other leaves. -/
theorem s_loop {σ β : Type} {ss : List Sh1} {init : List Value} {body : Shs.Ty ss → T} {d : σ → Option (Step σ β)} {s0 : σ} {b : β} (hD : loop s0 d = some b) (I : Shs.Ty ss → Heap → σ → Prop) (y0 : Shs.Ty ss) (h0 : Shs.of ss init = some y0) (hi : I y0 h s0)
    (hr : ∀ y h s e, I y h s → d s = some e → (∀ b', e = .done b' → b' = b) → (body y).wp P (around ss I e.go Q) h) : (T.loop ss init body).wp P Q h := by
  obtain ⟨n0, hn0⟩ := loop_iff.1 hD
  classical
  let μ : Shs.Ty ss → Heap → Nat := fun y h => if hx : ∃ n s, I y h s ∧ iter d n s = some b then (least hx).choose else 0
  refine t_loop (fun y h => ∃ n s, I y h s ∧ iter d n s = some b) μ y0 h0 ⟨n0, s0, hi, hn0⟩ fun y g hx => ?_
  obtain ⟨⟨s, hI, hn⟩, hmin⟩ := (least hx).choose_spec
  have hμ : μ y g = (least hx).choose := dif_pos hx
  rw [hμ]
  generalize (least hx).choose = n at hn hmin
  cases n with
  | zero => cases hn
  | succ n =>
    simp only [iter] at hn
    cases hd : d s with
    | none => rw [hd] at hn; cases hn
    | some e =>
      rw [hd] at hn
      refine T.wp_mono _ (fun lf h' hl => ?_) (hr y g s e hI hd fun b' hb => by subst hb; exact Option.some.inj hn)
      cases lf with
      | out vs =>
        obtain ⟨y', s', hy, he, hI'⟩ := hl
        cases e with
        | done b' => cases he
        | next s'' =>
          cases he
          have hx' : ∃ n s, I y' h' s ∧ iter d n s = some b := ⟨n, _, hI', hn⟩
          refine loopQ_out y' hy hx' ?_
          have h1 : μ y' h' = (least hx').choose := dif_pos hx'
          have h2 := (least hx').choose_spec.2 n ⟨_, hI', hn⟩
          omega
      | brk id vs => exact hl
      | ret v => exact hl
      | pan c => exact hl
theorem s_next {σ : Type} {ss : List Sh1} {I : Shs.Ty ss → Heap → σ → Prop} {e : Option σ} {vs : List Value} (y : Shs.Ty ss) (s : σ) (hy : Shs.of ss vs = some y) (he : e = some s) (hI : I y h s) : (T.out vs).wp P (around ss I e Q) h := ⟨y, s, hy, he, hI⟩
theorem s_brk {id : Nat} {vs : List Value} (H : Q (.brk id vs) h) : (T.brk id vs).wp P Q h := H
theorem s_ret {v : Value} (H : Q (.ret v) h) : (T.ret v).wp P Q h := H
theorem around_brk {σ : Type} {ss : List Sh1} {I : Shs.Ty ss → Heap → σ → Prop} {e : Option σ} {id : Nat} {vs : List Value} (H : Q (.brk id vs) h) : around ss I e Q (.brk id vs) h := H
theorem around_ret {σ : Type} {ss : List Sh1} {I : Shs.Ty ss → Heap → σ → Prop} {e : Option σ} {v : Value} (H : Q (.ret v) h) : around ss I e Q (.ret v) h := H

/-- A counted loop: y.1 counts. -/
theorem forGo_loop {σ β : Type} {f : Int → σ → Option (Step σ β)} {e : Int} {r : Step σ β} : ∀ {n : Nat} {i : Int} {s : σ}, (e - i).toNat = n → forGo f n i s = some r →
    loop (i, s) (fun x => if x.1 < e then (f x.1 x.2).bind fun q => match q with | .next s' => some (.next (x.1 + 1, s')) | .done b => some (.done (Step.done b)) else some (.done (.next x.2))) = some r := by
  intro n
  induction n with
  | zero =>
    intro i s hn h
    rw [loop_eq, if_neg (by dsimp only; omega)]
    exact h
  | succ n ih =>
    intro i s hn h
    rw [loop_eq, if_pos (by dsimp only; omega)]
    simp only [forGo] at h
    dsimp only
    cases hf : f i s with
    | none => rw [hf] at h; cases h
    | some q =>
      rw [hf] at h
      cases q with
      | done b => exact h
      | next s' => exact ih (by omega) h
theorem s_forN {σ β : Type} {ss : List Sh1} {init : List Value} {body : Shs.Ty ss → T} {f : Int → σ → Option (Step σ β)} {i0 e0 : Int} {s0 : σ} {r : Step σ β} (hD : forN i0 e0 s0 f = some r) (I : Int → Shs.Ty ss → Heap → σ → Prop) (y0 : Shs.Ty ss) (h0 : Shs.of ss init = some y0) (hi : I i0 y0 h s0)
    (hr : ∀ i y h s e, I i y h s → f i s = some e → i0 ≤ i → i < e0 → IntKind.wrap .i64 (i + 1) = i + 1 → (∀ b', e = .done b' → r = .done b') → (body y).wp P (around ss (I (i + 1)) e.go Q) h)
    (hx : ∀ i y h s, I i y h s → e0 ≤ i → r = .next s → (body y).wp P (around ss (I i) (none : Option σ) Q) h) : (T.loop ss init body).wp P Q h := by
  unfold forN at hD
  split at hD
  · rename_i hg
    have hl := forGo_loop rfl hD
    refine s_loop hl (fun y h x => i0 ≤ x.1 ∧ I x.1 y h x.2) y0 h0 ⟨Int.le_refl _, hi⟩ fun y h x e ⟨hle, hI⟩ he hb => ?_
    by_cases hlt : x.1 < e0
    · rw [if_pos hlt] at he
      cases hf : f x.1 x.2 with
      | none => rw [hf] at he; cases he
      | some q =>
        rw [hf] at he
        refine T.wp_mono _ (fun lf h' hl => ?_) (hr x.1 y h x.2 q hI hf hle hlt (w64 (by omega) (by omega)) fun b' hq => ?_)
        · cases lf with
          | out vs =>
            obtain ⟨y', s', hy, hq, hI'⟩ := hl
            cases q with
            | done b' => cases hq
            | next s'' =>
              cases hq
              cases he
              exact ⟨y', _, hy, rfl, by dsimp only; omega, hI'⟩
          | brk id vs => exact hl
          | ret v => exact hl
          | pan c => exact hl
        · subst hq
          cases he
          exact (hb _ rfl).symm
    · rw [if_neg hlt] at he
      cases he
      refine T.wp_mono _ (fun lf h' hl => ?_) (hx x.1 y h x.2 hI (by omega) (hb _ rfl).symm)
      cases lf with
      | out vs => obtain ⟨y', s', hy, hq, hI'⟩ := hl; cases hq
      | brk id vs => exact hl
      | ret v => exact hl
      | pan c => exact hl
  · cases hD
theorem forGoS_go {σ : Type} {f : Int → σ → Option σ} : ∀ {n : Nat} {i : Int} {s r : σ}, forGoS f n i s = some r → forGo (β := Empty) (fun i s => (f i s).map Step.next) n i s = some (.next r) := by
  intro n
  induction n with
  | zero => intro i s r h; simp only [forGoS] at h; simp only [forGo]; cases h; rfl
  | succ n ih =>
    intro i s r h
    simp only [forGoS] at h
    simp only [forGo]
    cases hf : f i s with
    | none => rw [hf] at h; cases h
    | some s' => rw [hf] at h; exact ih h
theorem s_forS {σ : Type} {ss : List Sh1} {init : List Value} {body : Shs.Ty ss → T} {f : Int → σ → Option σ} {i0 e0 : Int} {s0 r : σ} (hD : forS i0 e0 s0 f = some r) (I : Int → Shs.Ty ss → Heap → σ → Prop) (y0 : Shs.Ty ss) (h0 : Shs.of ss init = some y0) (hi : I i0 y0 h s0)
    (hr : ∀ i y h s e, I i y h s → f i s = some e → i0 ≤ i → i < e0 → IntKind.wrap .i64 (i + 1) = i + 1 → (body y).wp P (around ss (I (i + 1)) (some e) Q) h)
    (hx : ∀ i y h, I i y h r → e0 ≤ i → (body y).wp P (around ss (I i) (none : Option σ) Q) h) : (T.loop ss init body).wp P Q h := by
  unfold forS at hD
  split at hD
  · rename_i hg
    have hD' : forN (β := Empty) i0 e0 s0 (fun i s => (f i s).map Step.next) = some (.next r) := by
      unfold forN
      rw [if_pos hg]
      exact forGoS_go hD
    refine s_forN hD' I y0 h0 hi (fun i y h s e hI he h1 h2 hw hb => ?_) fun i y h s hI he hs => ?_
    · cases hf : f i s with
      | none => rw [hf] at he; cases he
      | some s' =>
        rw [hf] at he
        cases he
        exact hr i y h s s' hI hf h1 h2 hw
    · cases hs
      exact hx i y h hI he
  · cases hD
/-- A block with a counted loop: what holds behind it is what the loop keeps. -/
theorem s_blockS {σ : Type} {id : Nat} {ss : List Sh1} {init : List Value} {body k : Shs.Ty ss → T} {f : Int → σ → Option σ} {i0 e0 : Int} {s0 r : σ} (hD : forS i0 e0 s0 f = some r) (I : Int → Shs.Ty ss → Heap → σ → Prop) (y0 : Shs.Ty ss) (h0 : Shs.of ss init = some y0) (hi : I i0 y0 h s0)
    (hr : ∀ i y h s e, I i y h s → f i s = some e → i0 ≤ i → i < e0 → IntKind.wrap .i64 (i + 1) = i + 1 → (body y).wp P (around ss (I (i + 1)) (some e) (meetB id ss (fun y h g => ∃ i, I i y h g) r Q)) h)
    (hx : ∀ i y h, I i y h r → e0 ≤ i → (body y).wp P (around ss (I i) (none : Option σ) (meetB id ss (fun y h g => ∃ i, I i y h g) r Q)) h)
    (hk : ∀ y h', (∃ i, I i y h' r) → (k y).wp P Q h') : (T.block id ss (T.loop ss init body) k).wp P Q h :=
  s_block (fun y h g => ∃ i, I i y h g) (s_forS hD I y0 h0 hi hr hx) hk
theorem s_blockN {σ β : Type} {id : Nat} {ss : List Sh1} {init : List Value} {body k : Shs.Ty ss → T} {f : Int → σ → Option (Step σ β)} {i0 e0 : Int} {s0 : σ} {r : Step σ β} (hD : forN i0 e0 s0 f = some r) (I : Int → Shs.Ty ss → Heap → σ → Prop) (y0 : Shs.Ty ss) (h0 : Shs.of ss init = some y0) (hi : I i0 y0 h s0)
    (hr : ∀ i y h s e, I i y h s → f i s = some e → i0 ≤ i → i < e0 → IntKind.wrap .i64 (i + 1) = i + 1 → (∀ b', e = .done b' → r = .done b') → (body y).wp P (around ss (I (i + 1)) e.go (meetB id ss (fun y h g => ∃ s, Step.next s = g ∧ ∃ i, I i y h s) r Q)) h)
    (hx : ∀ i y h s, I i y h s → e0 ≤ i → r = .next s → (body y).wp P (around ss (I i) (none : Option σ) (meetB id ss (fun y h g => ∃ s, Step.next s = g ∧ ∃ i, I i y h s) r Q)) h)
    (hk : ∀ y h', (∃ s, Step.next s = r ∧ ∃ i, I i y h' s) → (k y).wp P Q h') : (T.block id ss (T.loop ss init body) k).wp P Q h :=
  s_block (fun y h g => ∃ s, Step.next s = g ∧ ∃ i, I i y h s) (s_forN hD I y0 h0 hi hr hx) hk
/-! ## D along a tree -/
def need {α : Type} (p : Prop) [Decidable p] (k : Option α) : Option α := if p then k else none
theorem need_some {α : Type} {p : Prop} [Decidable p] {k : Option α} {x : α} (h : need p k = some x) : p ∧ k = some x := by
  unfold need at h
  split at h
  · exact ⟨by assumption, h⟩
  · cases h
def Step.get {σ : Type} : Step σ σ → σ
  | .next s => s
  | .done s => s
theorem s_cond {γ : Type} {b bD : Bool} {x y : T} {dx dy : Option γ} {g : γ} (hd : cond bD dx dy = some g) (e : b = bD) (hx : bD = true → dx = some g → x.wp P Q h) (hy : bD = false → dy = some g → y.wp P Q h) : (cond b x y).wp P Q h := by
  subst e
  cases b
  · exact hy rfl hd
  · exact hx rfl hd
theorem s_chk {γ : Type} {p pD : Prop} [Decidable p] [Decidable pD] {k : T} {d : Option γ} {g : γ} (hd : need pD d = some g) (e : pD → p) (hk : pD → d = some g → k.wp P Q h) : (chk p k).wp P Q h := by
  obtain ⟨h1, h2⟩ := need_some hd
  exact t_chk (e h1) (hk h1 h2)
theorem St.at1 {a b : Chk} (H : St φ (a :: b :: Γ) h) : St φ (b :: a :: Γ) h := H.perm (List.Perm.swap b a Γ)
theorem St.at2 {a b c : Chk} (H : St φ (a :: b :: c :: Γ) h) : St φ (c :: a :: b :: Γ) h := H.perm (front_perm 2 (a :: b :: c :: Γ))
theorem St.at3 {a b c d : Chk} (H : St φ (a :: b :: c :: d :: Γ) h) : St φ (d :: a :: b :: c :: Γ) h := H.perm (front_perm 3 (a :: b :: c :: d :: Γ))
theorem St.at4 {a b c d e : Chk} (H : St φ (a :: b :: c :: d :: e :: Γ) h) : St φ (e :: a :: b :: c :: d :: Γ) h := H.perm (front_perm 4 (a :: b :: c :: d :: e :: Γ))
theorem St.at5 {a b c d e f : Chk} (H : St φ (a :: b :: c :: d :: e :: f :: Γ) h) : St φ (f :: a :: b :: c :: d :: e :: Γ) h := H.perm (front_perm 5 (a :: b :: c :: d :: e :: f :: Γ))
theorem St.at6 {a b c d e f g : Chk} (H : St φ (a :: b :: c :: d :: e :: f :: g :: Γ) h) : St φ (g :: a :: b :: c :: d :: e :: f :: Γ) h := H.perm (front_perm 6 (a :: b :: c :: d :: e :: f :: g :: Γ))
theorem St.at7 {a b c d e f g i : Chk} (H : St φ (a :: b :: c :: d :: e :: f :: g :: i :: Γ) h) : St φ (i :: a :: b :: c :: d :: e :: f :: g :: Γ) h := H.perm (front_perm 7 (a :: b :: c :: d :: e :: f :: g :: i :: Γ))
theorem St.at8 {a b c d e f g i j : Chk} (H : St φ (a :: b :: c :: d :: e :: f :: g :: i :: j :: Γ) h) : St φ (j :: a :: b :: c :: d :: e :: f :: g :: i :: Γ) h := H.perm (front_perm 8 (a :: b :: c :: d :: e :: f :: g :: i :: j :: Γ))
theorem St.at9 {a b c d e f g i j k : Chk} (H : St φ (a :: b :: c :: d :: e :: f :: g :: i :: j :: k :: Γ) h) : St φ (k :: a :: b :: c :: d :: e :: f :: g :: i :: j :: Γ) h := H.perm (front_perm 9 (a :: b :: c :: d :: e :: f :: g :: i :: j :: k :: Γ))
theorem Ro.SliceIs.heap {α : Type} {r : Ro α} {t : Slc} {l : List α} (H : Ro.SliceIs r φ t l) (hs : Sub φ (snap h)) : ∃ vs, r.All φ vs l ∧ CellsAt h t.1 vs := by
  obtain ⟨_, _, _, _, vs, ha, hc⟩ := H
  exact ⟨vs, ha, hc.heap hs⟩
theorem St.rowCs {α : Type} {ty : TypeId} {r : Ro α} {cs : List Value} {l : List α} (H : St φ (⟨Rep.row ty r, cs, l⟩ :: Γ) h) : ∃ t : Slc, cs = [.slice t.1 t.2.1 t.2.2] := by
  obtain ⟨F, ⟨p, n, c, vs, e, _⟩, _⟩ := H
  exact ⟨(p, n, c), e⟩
theorem St.shape {c d : Chk} (H : St φ (c :: Γ) h) (e : c = d) : St φ (d :: Γ) h := by rw [← e]; exact H
theorem St.freezeRow {α : Type} {ty : TypeId} {r : Ro α} {t : Slc} {l : List α} (H : St φ (⟨Rep.row ty r, [.slice t.1 t.2.1 t.2.2], l⟩ :: Γ) h) : ∃ ψ, Sub φ ψ ∧ Ro.SliceIs r ψ t l ∧ St ψ Γ h := by
  obtain ⟨ψ, h1, ⟨t', e, h2⟩, h3⟩ := H.freeze (frz_row ty r)
  simp only [List.cons.injEq, Value.slice.injEq, and_true] at e
  obtain ⟨e1, e2, e3⟩ := e
  have : t = t' := by
    obtain ⟨a, b, c⟩ := t
    obtain ⟨a', b', c'⟩ := t'
    simp only at e1 e2 e3
    rw [e1, e2, e3]
  subst this
  exact ⟨ψ, h1, h2, h3⟩
theorem St.there {α : Type} {ty : TypeId} {r : Ro α} {t : Slc} {l m : List α} {i : Int} {x : α} (H : St φ (⟨Rep.row ty r, [.slice t.1 t.2.1 t.2.2], l⟩ :: Γ) h) (hm : setI l i x = some m) : ∃ a, t.1 = some a ∧ (0 ≤ i ∧ i < (t.2.1 : Nat)) := by
  obtain ⟨h0, h1, _⟩ := setI_some hm
  have hlt : i.toNat < l.length := by omega
  have : idx l i = some l[i.toNat] := by unfold idx; rw [if_pos h0]; exact List.getElem?_eq_getElem hlt
  obtain ⟨a, _, h1, h2, _⟩ := H.get this
  exact ⟨a, h1, h2⟩
theorem CellsS.at {a : Addr} {vs : List Value} (H : CellsS φ (some a) vs) (j : Nat) {v : Value} (hv : vs[j]? = some v) : cellS φ (a.add j) = some v := by
  obtain ⟨a', e, hc⟩ := H j v hv
  cases e
  exact hc
/-- Where all stays as it was. -/
theorem St.keep {h' : Heap} (H : St φ Γ h) (hs : Sub (snap h) (snap h')) : St φ Γ h' := by
  refine StX.heap H (fun k hk _ => ?_) (H.sub.trans hs)
  have h1 : snap h k = some h[k] := Array.getElem?_eq_getElem hk
  have h2 := hs _ _ h1
  show h'[k]? = h[k]?
  have h3 : h'[k]? = some h[k] := h2
  rw [h3, Array.getElem?_eq_getElem hk]
end
end Go.Eng

/-
  THE ENGINE, PART T: rules over pieces for calls that may panic, and for a function that defers a call.
  Conditions: none; it speaks of any program.
-/
namespace Go.Eng
open Go

section
variable {P : Program} {Q : Leaf → Heap → Prop} {φ : Snap} {h : Heap} {Γ : List Chk}
/-- How a call ends that may panic. -/
def Ends2 (S : Value → Heap → Prop) (X : List PanicEntry → Heap → Prop) : Fin → Heap → Prop
  | .ret v, h => S v h
  | .pan c, h => X c h
theorem finOf_ret {S : Value → Heap → Prop} {X : List PanicEntry → Heap → Prop} {v : Value} (H : S v h) : finOf (Ends2 S X) (.ret v) h := H
theorem finOf_pan {S : Value → Heap → Prop} {X : List PanicEntry → Heap → Prop} {c : List PanicEntry} (H : X c h) : finOf (Ends2 S X) (.pan c) h := H
theorem s_callP {f : FuncId} {args : List Value} {sh : Sh} {k : sh.Ty → T} {S : Value → Heap → Prop} {X : List PanicEntry → Heap → Prop} (hc : CallsH P f args h (Ends2 S X))
    (hk : ∀ v h', S v h' → ∃ x, v = sh.val x ∧ (k x).wp P Q h') (hp : ∀ c h', X c h' → Q (.pan c) h') : (T.call f args sh k).wp P Q h := by
  simp only [T.wp]
  refine CallsH.mono hc fun e h' he => ?_
  cases e with
  | ret v => exact hk v h' he
  | pan c => exact hp c h' he
theorem s_pan {v : Value} (H : Q (.pan [{ v, recovered := false }]) h) : (T.pan v).wp P Q h := H
theorem meet_pan {γ : Type} {ss : List Sh1} {M : Shs.Ty ss → Heap → γ → Prop} {g : γ} {c : List PanicEntry} (H : Q (.pan c) h) : meet ss M g Q (.pan c) h := H
theorem meetB_pan {γ : Type} {id : Nat} {ss : List Sh1} {M : Shs.Ty ss → Heap → γ → Prop} {g : γ} {c : List PanicEntry} (H : Q (.pan c) h) : meetB id ss M g Q (.pan c) h := H
theorem around_pan {σ : Type} {ss : List Sh1} {I : Shs.Ty ss → Heap → σ → Prop} {e : Option σ} {c : List PanicEntry} (H : Q (.pan c) h) : around ss I e Q (.pan c) h := H
/-- Ahead of a deferred call. -/
def aft (N : Heap → Prop) (X : List PanicEntry → Heap → Prop) : Leaf → Heap → Prop
  | .ret _, h => N h
  | .pan c, h => X c h
  | _, _ => False
theorem aft_ret {N : Heap → Prop} {X : List PanicEntry → Heap → Prop} {v : Value} (H : N h) : aft N X (.ret v) h := H
theorem aft_pan {N : Heap → Prop} {X : List PanicEntry → Heap → Prop} {c : List PanicEntry} (H : X c h) : aft N X (.pan c) h := H
theorem s_later {f : FuncId} {args : List Value} {x k : T} (N : Heap → Prop) (X : List PanicEntry → Heap → Prop) (H : x.wp P (aft N X) h)
    (hn : ∀ h', N h' → CallsDH P f args .returning h' fun e u h'' => (∃ v, e = .ret v) ∧ settle u = .returning ∧ k.wp P Q h'')
    (hx : ∀ c h', X c h' → CallsDH P f args (.panicking c) h' fun e u h'' => (∃ v, e = .ret v) ∧ ((settle u = .returning ∧ k.wp P Q h'') ∨ ∃ c', settle u = .panicking c' ∧ Q (.pan c') h'')) :
    (T.later f args x k).wp P Q h := by
  simp only [T.wp]
  refine T.wp_mono x (fun lf h' hl => ?_) H
  cases lf with
  | out vs => exact hl
  | brk id vs => exact hl
  | ret v =>
    refine CallsDH.mono (hn h' hl) ?_
    rintro _ u h'' ⟨⟨v, rfl⟩, h1, h2⟩
    exact ⟨h1, h2⟩
  | pan c =>
    refine CallsDH.mono (hx c h' hl) ?_
    rintro _ u h'' ⟨⟨v, rfl⟩, ⟨h1, h2⟩ | ⟨c', h1, h2⟩⟩
    · dsimp only; rw [h1]; exact h2
    · dsimp only; rw [h1]; exact h2
theorem St.ptr {α : Type} {ty : TypeId} {R : Rep α} {p : Option Addr} {x : α} (H : St φ (⟨Rep.obj ty R, [.pointer p], x⟩ :: Γ) h) : ∃ b, p = some ⟨b, 0, none⟩ := by
  obtain ⟨b, vs, e, _⟩ := H.open
  exact ⟨b, by simpa using e⟩
end
end Go.Eng

/-
  THE ENGINE, PART Z: a row whose things are put in their places anew, all at once (a sort).
  Conditions: none; it speaks of any program.
-/
namespace Go.Eng
open Go Go.Sort

theorem St.rowPut {α : Type} {φ : Snap} {h h' : Heap} {Γ : List Chk} {ty : TypeId} {r : Ro α} {t : Slc} {l m : List α} {vs' : List Value}
    (H : St φ (⟨Rep.row ty r, [.slice t.1 t.2.1 t.2.2], l⟩ :: Γ) h) (hall : r.All φ vs' m) (hm : m.length = l.length)
    (hb : ∀ b off, t.1 = some ⟨b, off, none⟩ → ∀ arr, h[b]? = some (.cells arr ty (0, 0)) → ∃ arr', h'[b]? = some (.cells arr' ty (0, 0)) ∧ arr'.size = arr.size ∧ ∀ i v, vs'[i]? = some v → arr'[off + i]? = some v)
    (hk : ∀ k, k < h.size → (∀ b off, t.1 = some ⟨b, off, none⟩ → k ≠ b) → h'[k]? = h[k]?) : St φ (⟨Rep.row ty r, [.slice t.1 t.2.1 t.2.2], m⟩ :: Γ) h' := by
  have hs := H.sub
  obtain ⟨F, ⟨p, n, c, vs, e, hn, hc, hfu, ho, hall0, hF⟩, h2, H⟩ := H
  have hn : l.length = n := hn
  simp only [List.cons.injEq, Value.slice.injEq, and_true] at e
  obtain ⟨e1, e2, e3⟩ := e
  have hvs : vs'.length = n * r.sz := by rw [hall.length, hm, hn]
  rcases ho with ⟨hp, hn0, hc0, hv0⟩ | ⟨b, off, arr, hp, hb0, g1, g2, g3, g4⟩
  · have hne : ∀ b off, t.1 ≠ some ⟨b, off, none⟩ := fun b off he => by rw [e1, hp] at he; cases he
    have hkk : ∀ k, k < h.size → h'[k]? = h[k]? := fun k hk' => hk k hk' fun b off he => absurd he (hne b off)
    refine ⟨F, ⟨p, n, c, vs', by rw [e1, e2, e3], by rw [hm]; exact hn, hc, ?_, .inl ⟨hp, hn0, hc0, ?_⟩, hall, hF⟩, h2, StX.heap H (fun k hk' _ => hkk k hk') fun j o ho => ?_⟩
    · intro b' off' s' he
      rw [hp] at he
      cases he
    · exact List.eq_nil_of_length_eq_zero (by rw [hvs, hn0]; omega)
    · have h1 := hs j o ho
      have := lt_of_get h1
      show h'[j]? = some o
      rw [hkk j this]; exact h1
  · have e1' : t.1 = some ⟨b, off, none⟩ := by rw [e1, hp]
    obtain ⟨arr', a1, a2, a3⟩ := hb b off e1' arr hb0
    have hkk : ∀ k, k < h.size → k ≠ b → h'[k]? = h[k]? := fun k hk' hkb => hk k hk' fun b' off' he => by rw [e1'] at he; cases he; exact hkb
    have hbF : F b := (hF b).2 (by rw [hp]; simp [blk])
    refine ⟨F, ⟨p, n, c, vs', by rw [e1, e2, e3], by rw [hm]; exact hn, hc, ?_, .inr ⟨b, off, arr', hp, a1, hvs, g2, by rw [a2]; exact g3, a3⟩, hall, hF⟩, h2,
      StX.heap H (fun k hk' hX => hkk k hk' fun he => hX (.inr (by rw [he]; exact hbF))) fun j o ho => ?_⟩
    · intro b' off' s' he
      rw [hp] at he
      cases he
      obtain ⟨q1, q2⟩ := hfu _ _ _ hp
      exact ⟨q1, fun arr'' ty' f' harr => by rw [a1] at harr; cases harr; rw [a2]; exact q2 _ _ _ hb0⟩
    · have h1 := hs j o ho
      have hlt := lt_of_get h1
      have hjb : j ≠ b := fun he => by
        have := (h2 b hbF).1
        rw [he, this] at ho
        cases ho
      show h'[j]? = some o
      rw [hkk j hlt hjb]; exact h1
/-- A row of one's own, where its cells are what some things are written as. -/
theorem St.rowHolds {α β : Type} [Inhabited β] {φ : Snap} {w : World} {Γ : List Chk} {ty : TypeId} {r : Ro α} {t : Slc} {l : List α} (H : St φ (⟨Rep.row ty r, [.slice t.1 t.2.1 t.2.2], l⟩ :: Γ) w.heap)
    (hsz : r.sz = 1) (enc : β → Value) (hbs : ∀ vs, r.All φ vs l → ∃ bs : List β, vs = bs.map enc) :
    (l = [] ∧ t.2.1 = 0) ∨ ∃ (b off : Nat) (bs : List β), t.1 = some ⟨b, off, none⟩ ∧ r.All φ (bs.map enc) l ∧ t.2.1 = bs.length ∧ l.length = bs.length ∧ b < w.heap.size ∧ (∀ arr, w.heap[b]? = some (.cells arr ty (0, 0)) → off + l.length ≤ arr.size) ∧ Sort.Holds enc w b off bs.toArray := by
  obtain ⟨F, ⟨p, n, c, vs, e, hn, hc, hfu, ho, hall, hF⟩, h2, H⟩ := H
  have hn : l.length = n := hn
  simp only [List.cons.injEq, Value.slice.injEq, and_true] at e
  obtain ⟨e1, e2, e3⟩ := e
  rcases ho with ⟨hp, hn0, hc0, hv0⟩ | ⟨b, off, arr, hp, hb0, g1, g2, g3, g4⟩
  · exact .inl ⟨List.eq_nil_of_length_eq_zero (by omega), by omega⟩
  · right
    obtain ⟨bs, rfl⟩ := hbs vs hall
    have hlen : bs.length = n := by
      rw [List.length_map, hsz] at g1
      omega
    refine ⟨b, off, bs, by rw [e1, hp], hall, by omega, by omega, lt_of_get hb0, fun arr' ha => ?_, fun j hj => ?_⟩
    · rw [hb0] at ha
      cases ha
      rw [hsz] at g3
      omega
    have hj' : j < bs.length := by simpa using hj
    have hc := g4 j (enc bs[j]) (by rw [List.getElem?_map, List.getElem?_eq_getElem hj']; rfl)
    refine ⟨?_, ?_⟩
    · unfold World.cell?
      dsimp only
      rw [hb0]
      dsimp only
      rw [getElem!_pos _ j hj]
      simpa using hc
    · unfold World.frozen?
      dsimp only
      rw [hb0]
      simp
/-- Behind a sort. -/
theorem St.rowSorted {α β : Type} [Inhabited β] {φ : Snap} {w : World} {Γ : List Chk} {ty : TypeId} {r : Ro α} {t : Slc} {l m : List α} (H : St φ (⟨Rep.row ty r, [.slice t.1 t.2.1 t.2.2], l⟩ :: Γ) w.heap)
    {b off : Nat} (ht : t.1 = some ⟨b, off, none⟩) (enc : β → Value) (ms : List β) (hall : r.All φ (ms.map enc) m) (hm : m.length = l.length) (hms : ms.length = l.length) (hfit : ∀ arr, w.heap[b]? = some (.cells arr ty (0, 0)) → off + l.length ≤ arr.size) (k : Nat) (os : Array Obj) :
    St φ (⟨Rep.row ty r, [.slice t.1 t.2.1 t.2.2], m⟩ :: Γ) (grow (putRow enc (Sort.ahead w k) b off ms.toArray) os).heap := by
  have hheap : (grow (putRow enc (Sort.ahead w k) b off ms.toArray) os).heap = w.heap.modify b (onCells (putCells enc off ms.toArray)) ++ os := rfl
  rw [hheap]
  refine H.rowPut hall hm (fun b' off' he arr harr => ?_) fun j hj hne => ?_
  · rw [ht] at he
    cases he
    have hlt := lt_of_get harr
    refine ⟨putCells enc off ms.toArray arr, ?_, by simp [putCells], fun i v hv => ?_⟩
    · rw [Array.getElem?_append_left (by simpa using hlt), Array.getElem?_modify, if_pos rfl, harr]
      rfl
    · rw [List.getElem?_map, Option.map_eq_some_iff] at hv
      obtain ⟨x, hx, rfl⟩ := hv
      have hi : i < ms.length := by
        rcases Nat.lt_or_ge i ms.length with g | g
        · exact g
        · rw [List.getElem?_eq_none g] at hx; cases hx
      have hf := hfit arr harr
      unfold putCells
      rw [Array.getElem?_mapIdx, Array.getElem?_eq_getElem (by omega)]
      have hc : off ≤ off + i ∧ off + i < off + ms.toArray.size := by simp; exact hi
      simp only [Option.map_some]
      rw [if_pos hc, Nat.add_sub_cancel_left, getElem!_pos _ i (by simpa using hi)]
      rw [List.getElem?_eq_getElem hi] at hx
      cases hx
      simp
  · rw [Array.getElem?_append_left (by simpa using hj), Array.getElem?_modify, if_neg fun e => hne b off ht e.symm]
end Go.Eng

/-
  THE ENGINE, PART M: maps whose keys are texts; bytes as a text; strconv.AppendInt as a piece.
  Conditions: none; it speaks of any program.
-/
namespace Go.Eng
open Go

theorem bytes_beq (a b : ByteArray) : (a == b) = decide (a = b) := by
  cases a with | mk a => cases b with | mk b =>
  have e : ((ByteArray.mk a == ByteArray.mk b) : Bool) = (a == b) := rfl
  rw [e]
  by_cases h : a = b
  · subst h; simp
  · rw [decide_eq_false (by intro g; exact h (ByteArray.mk.inj g))]; exact beq_eq_false_iff_ne.2 h
/-- What may be a map's key: plain; found at once, or by asking. -/
structure Ky (κ : Type) [DecidableEq κ] where
  val : κ → Value
  on : Program → TypeId → Prop
  desc : ∀ {P : Program} {kt : TypeId}, on P kt → ∃ d, P.underlying kt = some d ∧ ((∀ k k', Instr.sameNow d (val k) (val k') = some (decide (k = k'))) ∨
    ((∀ k k', Instr.sameNow d (val k) (val k') = none) ∧ ∀ (k k' : κ) (h : Heap) (K : Bool → Heap → Prop) (X : Value → Heap → Prop), K (decide (k = k')) h → semWp P (Op.equal kt (val k) (val k')) K X h))
  bits : ∀ k, Instr.sameBits 10000 (val k) (val k) = true
  ok : ∀ {P : Program} {kt : TypeId} {b : Bool} {k : κ} {h : Heap} {K : Unit → Heap → Prop} {X : Value → Heap → Prop}, on P kt → K () h → semWp P (Instr.checkKey b 10000 kt (val k)) K X h
def kyS : Ky ByteArray where
  val := .string
  on P kt := P.underlying kt = some .string
  desc h := ⟨_, h, .inl fun k k' => by simp only [Instr.sameNow, bytes_beq]⟩
  bits k := by unfold Instr.sameBits; rw [bytes_beq]; simp
  ok hk H := by unfold Instr.checkKey; exact underlying_run hk H
def kyI (j : IntKind) : Ky Int where
  val := .int j
  on P kt := P.underlying kt = some (.int j)
  desc h := ⟨_, h, .inl fun k k' => by
    simp only [Instr.sameNow, if_true]
    by_cases e : k = k'
    · subst e; simp
    · rw [decide_eq_false e]; simp [e]⟩
  bits k := by unfold Instr.sameBits; simp
  ok hk H := by unfold Instr.checkKey; exact underlying_run hk H
/-- A struct of two ints. -/
structure TwoInts (P : Program) (kt : TypeId) : Prop where
  fl : ∃ f g : Field, P.underlying kt = some (.struct #[f, g]) ∧ P.stoodInHeld kt = false ∧ f.name ≠ "_" ∧ g.name ≠ "_" ∧ f.offset = 0 ∧ g.offset = 1 ∧ P.underlying f.type = some (.int .i64) ∧ P.underlying g.type = some (.int .i64)
theorem int_part {P : Program} {t : TypeId} (hu : P.underlying t = some (.int .i64)) {xs : Array Value} {i : Nat} {v : Value} (hv : xs[i]? = some v) {h : Heap} {K : Value → Heap → Prop} {X : Value → Heap → Prop} (H : K v h) : semWp P (part t xs i) K X h := by
  unfold part isAgg
  simp only [bind, Sem.bind, underlying, program, semWp, hu, hv]
  exact H
theorem leaf_int {P : Program} {t : TypeId} (ht : P.underlying t = some (TypeDesc.int .i64)) (a b : Int) : leafEq P t (.int .i64 a) (.int .i64 b) = some (a == b) := by
  unfold leafEq
  rw [ht]
  simp
theorem check_int {P : Program} {t : TypeId} (ht : P.underlying t = some (TypeDesc.int .i64)) {a : Int} {h : Heap} {b : Bool} {K : Unit → Heap → Prop} {X : Value → Heap → Prop} (H : K () h) : semWp P (Instr.checkKey b 9999 t (.int .i64 a)) K X h := by
  unfold Instr.checkKey
  exact underlying_run ht H
def kyII : Ky (Int × Int) where
  val k := .agg #[.int .i64 k.1, .int .i64 k.2]
  on := TwoInts
  desc h := by
    obtain ⟨f, g, hu, hp, hf, hg, of, og, tf, tg⟩ := h.fl
    refine ⟨_, hu, .inr ⟨fun k k' => rfl, fun k k' h K X H => ?_⟩⟩
    refine equal_agg (d := 9999) hu hp (fieldsEq_ok (d := 9998) _ _ _ [f, g] (r := decide (k = k')) ?_ _ H)
    simp only [fieldsEq, hf, hg, of, og, if_false]
    simp only [List.getElem?_toArray, List.getElem?_cons_zero, List.getElem?_cons_succ, leaf_int tf, leaf_int tg]
    obtain ⟨a, b⟩ := k
    obtain ⟨c, d⟩ := k'
    simp only [Prod.mk.injEq, Option.some.injEq]
    by_cases h1 : a = c <;> by_cases h2 : b = d <;> simp [h1, h2]
  bits k := by simp [Instr.sameBits]
  ok h H := by
    obtain ⟨f, g, hu, hp, hf, hg, of, og, tf, tg⟩ := h.fl
    unfold Instr.checkKey
    refine underlying_run hu ?_
    dsimp only
    rw [← Array.forIn_toList]
    simp only [List.forIn_cons, List.forIn_nil, hf, hg, of, og, ne_eq, not_false_eq_true, if_true]
    refine semWp_bind _ _ (semWp_bind _ _ (semWp_bind _ _ (int_part tf rfl (semWp_bind _ _ (check_int tf ?_)))))
    dsimp only [pure, semWp]
    refine semWp_bind _ _ (semWp_bind _ _ (int_part tg rfl (semWp_bind _ _ (check_int tg ?_))))
    exact H
section
variable {κ : Type} [DecidableEq κ]
def mget {β : Type} (k : κ) : List (κ × β) → Option β
  | [] => none
  | (k', v) :: m => if k = k' then some v else mget k m
def mset {β : Type} (k : κ) (v : β) : List (κ × β) → List (κ × β)
  | [] => [(k, v)]
  | (k', v') :: m => if k = k' then (k', v) :: m else (k', v') :: mset k v m
theorem mget_mset {β : Type} (k : κ) (v : β) (k' : κ) : ∀ m : List (κ × β), mget k' (mset k v m) = if k' = k then some v else mget k' m := by
  intro m
  induction m with
  | nil => simp only [mset, mget]
  | cons a m ih =>
    simp only [mset]
    split
    · rename_i h; subst h; simp only [mget]; split <;> simp_all
    · rename_i h
      simp only [mget]
      split
      · rename_i h2; subst h2; rw [if_neg fun e => h e.symm]
      · exact ih
inductive Ents {β : Type} (kk : Ky κ) (vv : Ro β) (φ : Snap) : List MapEntry → List (κ × β) → Prop where
  | nil : Ents kk vv φ [] []
  | cons {e : MapEntry} {es : List MapEntry} {k : κ} {x : β} {m : List (κ × β)} : e.key = kk.val k → vv.is φ [e.val] x → Ents kk vv φ es m → Ents kk vv φ (e :: es) ((k, x) :: m)
variable {kk : Ky κ}
theorem Ents.mono {β : Type} {vv : Ro β} {φ ψ : Snap} (hs : Sub φ ψ) {es : List MapEntry} {m : List (κ × β)} (H : Ents kk vv φ es m) : Ents kk vv ψ es m := by
  induction H with
  | nil => exact .nil
  | cons h1 h2 _ ih => exact .cons h1 (vv.mono hs h2) ih
/-- A map of one's own. -/
def Rep.kmap {β : Type} (kk : Ky κ) (vv : Ro β) : Rep (List (κ × β)) where
  sz := 1
  is φ h F cs m := ∃ r es clock, cs = [.map (some r)] ∧ h[r]? = some (.map es clock) ∧ Ents kk vv φ es.toList m ∧ (∀ i, F i ↔ i = r)
  len h := by obtain ⟨r, es, c, rfl, _⟩ := h; rfl
  mono hs h := by obtain ⟨r, es, c, e, hr, he, hF⟩ := h; exact ⟨r, es, c, e, hr, he.mono hs, hF⟩
  loc hl h := by obtain ⟨r, es, c, e, hr, he, hF⟩ := h; exact ⟨r, es, c, e, by rw [hl r ((hF r).2 rfl)]; exact hr, he, hF⟩
  lt h i hi := by obtain ⟨r, es, c, e, hr, he, hF⟩ := h; rw [(hF i).1 hi]; exact lt_of_get hr
  plain h v hv := by obtain ⟨r, es, c, rfl, _⟩ := h; simp at hv; subst hv; rfl

theorem findNow_none {β : Type} {vv : Ro β} {φ : Snap} {k : κ} {d : TypeDesc} (hn : ∀ k k', Instr.sameNow d (kk.val k) (kk.val k') = some (decide (k = k'))) : ∀ {es : List MapEntry} {m : List (κ × β)} (i : Nat), Ents kk vv φ es m → mget k m = none → Instr.findNow d (kk.val k) es i = some none := by
  intro es m i H
  induction H generalizing i with
  | nil => intro _; rfl
  | @cons e es k' x m h1 h2 _ ih =>
    intro hm
    simp only [mget] at hm
    split at hm
    · cases hm
    · rename_i hk
      unfold Instr.findNow
      rw [h1, hn, decide_eq_false hk]
      exact ih (i + 1) hm
theorem asking_none {P : Program} {kt : TypeId} {β : Type} {vv : Ro β} {φ : Snap} {k : κ} {h : Heap} {X : Value → Heap → Prop} (ha : ∀ (k k' : κ) (h : Heap) (K : Bool → Heap → Prop) (X : Value → Heap → Prop), K (decide (k = k')) h → semWp P (Op.equal kt (kk.val k) (kk.val k')) K X h) :
    ∀ {es : List MapEntry} {m : List (κ × β)} (i : Nat) {K : Option (Nat × Value) → Heap → Prop}, Ents kk vv φ es m → mget k m = none → K none h → semWp P (Instr.findAsking kt (kk.val k) es i) K X h := by
  intro es m i K H
  induction H generalizing i with
  | nil => intro _ H; exact H
  | @cons e es k' x m h1 h2 _ ih =>
    intro hm HK
    simp only [mget] at hm
    split at hm
    · cases hm
    · rename_i hk
      unfold Instr.findAsking
      rw [h1]
      refine semWp_bind _ _ (ha _ _ _ _ _ ?_)
      rw [decide_eq_false hk]
      exact ih (i + 1) hm HK
/-- Where a key is, and what lies there. -/
theorem ents_some {β : Type} {vv : Ro β} {φ : Snap} {k : κ} {x : β} : ∀ {es : List MapEntry} {m : List (κ × β)}, Ents kk vv φ es m → mget k m = some x →
    ∃ j e, es[j]? = some e ∧ e.key = kk.val k ∧ vv.is φ [e.val] x ∧
      (∀ (y : β) (v : Value), vv.is φ [v] y → Ents kk vv φ (es.modify j fun e => { e with key := kk.val k, val := v }) (mset k y m)) ∧
      (∀ d, (∀ k k', Instr.sameNow d (kk.val k) (kk.val k') = some (decide (k = k'))) → ∀ i, Instr.findNow d (kk.val k) es i = some (some (i + j, e.val))) ∧
      (∀ (P : Program) (kt : TypeId), (∀ (k k' : κ) (h : Heap) (K : Bool → Heap → Prop) (X : Value → Heap → Prop), K (decide (k = k')) h → semWp P (Op.equal kt (kk.val k) (kk.val k')) K X h) →
        ∀ (i : Nat) (h : Heap) (K : Option (Nat × Value) → Heap → Prop) (X : Value → Heap → Prop), K (some (i + j, e.val)) h → semWp P (Instr.findAsking kt (kk.val k) es i) K X h) := by
  intro es m H
  induction H with
  | nil => intro hm; cases hm
  | @cons e es k' x' m h1 h2 h3 ih =>
    intro hm
    simp only [mget] at hm
    split at hm
    · rename_i hk
      cases hm
      subst hk
      refine ⟨0, e, rfl, h1, h2, fun y v hy => ?_, fun d hn i => ?_, fun P kt ha i h K X HK => ?_⟩
      · simp only [mset, if_true, List.modify_cons]
        exact .cons rfl hy h3
      · unfold Instr.findNow
        rw [h1, hn, decide_eq_true rfl]
        rfl
      · unfold Instr.findAsking
        rw [h1]
        refine semWp_bind _ _ (ha _ _ _ _ _ ?_)
        rw [decide_eq_true rfl]
        exact HK
    · rename_i hk
      obtain ⟨j, e', g1, g2, g3, g4, g5, g6⟩ := ih hm
      refine ⟨j + 1, e', by simpa using g1, g2, g3, fun y v hy => ?_, fun d hn i => ?_, fun P kt ha i h K X HK => ?_⟩
      · simp only [mset, if_neg hk, List.modify_cons]
        exact .cons h1 h2 (g4 y v hy)
      · unfold Instr.findNow
        rw [h1, hn, decide_eq_false hk]
        dsimp only
        rw [g5 d hn, show i + 1 + j = i + (j + 1) by omega]
      · unfold Instr.findAsking
        rw [h1]
        refine semWp_bind _ _ (ha _ _ _ _ _ ?_)
        rw [decide_eq_false hk]
        refine g6 P kt ha (i + 1) h K X ?_
        rw [show i + 1 + j = i + (j + 1) by omega]
        exact HK
theorem findKey_none {P : Program} {kt : TypeId} {β : Type} {vv : Ro β} {φ : Snap} {k : κ} {es : List MapEntry} {m : List (κ × β)} {h : Heap} {K : Option (Nat × Value) → Heap → Prop} {X : Value → Heap → Prop} (ho : kk.on P kt) (he : Ents kk vv φ es m) (hm : mget k m = none) (H : K none h) :
    semWp P (Instr.findKey kt (kk.val k) es) K X h := by
  obtain ⟨d, hu, hd⟩ := kk.desc ho
  unfold Instr.findKey
  refine underlying_run hu ?_
  rcases hd with hn | ⟨hn, ha⟩
  · rw [findNow_none hn 0 he hm]
    exact H
  · cases he with
    | nil => exact H
    | cons h1 h2 h3 =>
      rename_i e es' k' x' m'
      have : Instr.findNow d (kk.val k) (e :: es') 0 = none := by unfold Instr.findNow; rw [h1, hn]
      rw [this]
      exact asking_none ha 0 (.cons h1 h2 h3) hm H
theorem findKey_some {P : Program} {kt : TypeId} {β : Type} {vv : Ro β} {φ : Snap} {k : κ} {x : β} {es : List MapEntry} {m : List (κ × β)} (ho : kk.on P kt) (he : Ents kk vv φ es m) (hm : mget k m = some x) :
    ∃ j e, es[j]? = some e ∧ e.key = kk.val k ∧ vv.is φ [e.val] x ∧ (∀ (y : β) (v : Value), vv.is φ [v] y → Ents kk vv φ (es.modify j fun e => { e with key := kk.val k, val := v }) (mset k y m)) ∧
      ∀ (h : Heap) (K : Option (Nat × Value) → Heap → Prop) (X : Value → Heap → Prop), K (some (j, e.val)) h → semWp P (Instr.findKey kt (kk.val k) es) K X h := by
  obtain ⟨d, hu, hd⟩ := kk.desc ho
  obtain ⟨j, e, g1, g2, g3, g4, g5, g6⟩ := ents_some he hm
  refine ⟨j, e, g1, g2, g3, g4, fun h K X H => ?_⟩
  unfold Instr.findKey
  refine underlying_run hu ?_
  rcases hd with hn | ⟨hn, ha⟩
  · rw [g5 d hn 0, Nat.zero_add]
    exact H
  · cases he with
    | nil => cases hm
    | cons h1 h2 h3 =>
      rename_i e1 es' k' x' m'
      have : Instr.findNow d (kk.val k) (e1 :: es') 0 = none := by unfold Instr.findNow; rw [h1, hn]
      rw [this]
      refine g6 P kt ha 0 h K X ?_
      rw [Nat.zero_add]
      exact H
theorem Ents.push {β : Type} {vv : Ro β} {φ : Snap} {k : κ} {y : β} {e : MapEntry} : ∀ {es : List MapEntry} {m : List (κ × β)}, Ents kk vv φ es m → mget k m = none → e.key = kk.val k → vv.is φ [e.val] y → Ents kk vv φ (es ++ [e]) (mset k y m) := by
  intro es m H
  induction H with
  | nil => intro _ h1 h2; exact .cons h1 h2 .nil
  | @cons e' es k' x m g1 g2 _ ih =>
    intro hm h1 h2
    simp only [mget] at hm
    split at hm
    · cases hm
    · rename_i hk
      simp only [mset, if_neg hk]
      exact .cons g1 g2 (ih hm h1 h2)

section
variable {P : Program} {Q : Leaf → Heap → Prop} {φ : Snap} {h : Heap} {Γ : List Chk}
theorem s_newmap {β : Type} (kk : Ky κ) (vv : Ro β) {k : Nat → T} (H : St φ Γ h) (hk : ∀ r h', St φ (⟨Rep.kmap kk vv, [.map (some r)], []⟩ :: Γ) h' → (k r).wp P Q h') : (T.new (.map #[] 0) k).wp P Q h := by
  refine t_new (hk _ _ ?_)
  have hs := H.sub
  refine ⟨fun i => i = h.size, ⟨h.size, #[], 0, rfl, by rw [Array.getElem?_push, if_pos rfl], .nil, fun _ => Iff.rfl⟩, fun k hk => ⟨?_, fun g => g⟩, ?_⟩
  · subst hk
    cases hφ : φ h.size with
    | none => rfl
    | some o => have := lt_of_get (hs _ _ hφ); omega
  · refine StX.heap (StX.more H fun k hk => ?_) (fun k hk _ => by rw [Array.getElem?_push]; simp; omega) fun i o ho => ?_
    · rcases hk with hk | hk
      · exact hk.elim
      · left; omega
    · have hlt := lt_of_get (hs i o ho)
      show (h.push _)[i]? = some o
      rw [Array.getElem?_push, if_neg (by omega)]
      exact hs i o ho
theorem zeroValue_run {t : TypeId} {i : TypeInfo} {z : Value} (hi : P.info? t = some i) (hz : i.zero = some z) {K : Value → Heap → Prop} {X : Value → Heap → Prop} (H : K z h) : semWp P (zeroValue t) K X h := by
  have ez : (zeroValue t) = Sem.program fun P' => ((match P'.info? t with | some i => Sem.pure i | none => stuck "no such type").bind fun i => match i.zero with | some v => Sem.pure v | none => unsupported (.resourceLimit "a value of more than 2^22 cells")) := rfl
  rw [ez]
  simp only [Sem.bind, semWp, hi, hz]
  exact H
/-- What a look-up comes to. -/
theorem lookup_run {a : Atom} {mt kt vt : TypeId} {r : Nat} {k : κ} {m : List (κ × a.Ty)} {ok : Bool} {K : Value → Heap → Prop} {X : Value → Heap → Prop} (hm : P.underlying mt = some (.map kt vt)) (hk : kk.on P kt)
    {i : TypeInfo} {z : a.Ty} (hi : P.info? vt = some i) (hz : i.zero = some (a.val z)) (H : St φ (⟨Rep.kmap kk (Ro.atom a), [.map (some r)], m⟩ :: Γ) h) (hK : K (if ok then .tuple #[a.val ((mget k m).getD z), .bool (mget k m).isSome] else a.val ((mget k m).getD z)) h) :
    semWp P (Instr.lookup mt (.map (some r)) (kk.val k) ok) K X h := by
  obtain ⟨F, ⟨r', es, c, e, hr, he, hF⟩, h2, H⟩ := H
  cases e
  unfold Instr.lookup
  refine underlying_run hm ?_
  refine ⟨_, hr, (fun _ _ _ g => by cases g), ?_⟩
  show semWp P (Sem.bind (Instr.checkKey _ 10000 kt (kk.val k)) fun _ => Sem.bind (Instr.findKey kt (kk.val k) es.toList) fun r => _) _ _ h
  refine semWp_bind _ _ (kk.ok hk (semWp_bind _ _ ?_))
  cases hg : mget k m with
  | none =>
    refine findKey_none hk he hg ?_
    show semWp P (Sem.bind (zeroValue vt) fun z => _) _ _ h
    rw [hg] at hK
    exact semWp_bind _ _ (zeroValue_run hi hz hK)
  | some x =>
    obtain ⟨q, e, g1, g2, g3, _, g5⟩ := findKey_some hk he hg
    refine g5 _ _ _ ?_
    have hv : e.val = a.val x := by
      have : [e.val] = [a.val x] := g3
      simpa using this
    dsimp only
    rw [hg] at hK
    rw [hv]
    exact hK
/-- v, ok := m[k], where plain things lie in the map -/
theorem s_lookupI {a : Atom} {mt kt vt : TypeId} {r : Nat} {k : κ} {m : List (κ × a.Ty)} {K : a.Ty × Bool × Unit → T} (z : a.Ty) (hm : P.underlying mt = some (.map kt vt)) (hk : kk.on P kt)
    {i : TypeInfo} (hi : P.info? vt = some i) (hz : i.zero = some (a.val z)) (H : St φ (⟨Rep.kmap kk (Ro.atom a), [.map (some r)], m⟩ :: Γ) h) (hK : ∀ y : a.Ty × Bool × Unit, y = ((mget k m).getD z, (mget k m).isSome, ()) → (K y).wp P Q h) :
    (T.sem (Instr.lookup mt (.map (some r)) (kk.val k) true) (.tuple [.atom a, .atom .bool]) K).wp P Q h :=
  t_sem (lookup_run hm hk hi hz H (ok := true) ⟨((mget k m).getD z, (mget k m).isSome, ()), rfl, hK _ rfl⟩)
/-- m[k] -/
theorem s_lookup1 {a : Atom} {mt kt vt : TypeId} {r : Nat} {k : κ} {m : List (κ × a.Ty)} {K : a.Ty → T} (z : a.Ty) (hm : P.underlying mt = some (.map kt vt)) (hk : kk.on P kt)
    {i : TypeInfo} (hi : P.info? vt = some i) (hz : i.zero = some (a.val z)) (H : St φ (⟨Rep.kmap kk (Ro.atom a), [.map (some r)], m⟩ :: Γ) h) (hK : (K ((mget k m).getD z)).wp P Q h) :
    (T.sem (Instr.lookup mt (.map (some r)) (kk.val k) false) (.one (.atom a)) K).wp P Q h :=
  t_sem (lookup_run hm hk hi hz H (ok := false) ⟨(mget k m).getD z, rfl, hK⟩)
/-- m[k] = v -/
theorem s_mapset {β : Type} {vv : Ro β} {mt kt vt : TypeId} {r : Nat} {k : κ} {m : List (κ × β)} {y : β} {v : Value} {K : Unit → T} (hm : P.underlying mt = some (.map kt vt)) (hk : kk.on P kt)
    (H : St φ (⟨Rep.kmap kk vv, [.map (some r)], m⟩ :: Γ) h) (hv : vv.is φ [v] y) (hK : ∀ h', St φ (⟨Rep.kmap kk vv, [.map (some r)], mset k y m⟩ :: Γ) h' → (K ()).wp P Q h') :
    (T.sem (Sem.bind (Instr.mapUpdate mt (.map (some r)) (kk.val k) v) fun _ => .pure undef) (.tuple []) K).wp P Q h := by
  obtain ⟨F, ⟨r', es, c, e, hr, he, hF⟩, h2, H⟩ := H
  cases e
  have hs := H.sub
  have key : ∀ (es' : Array MapEntry) (c' : Nat), Ents kk vv φ es'.toList (mset k y m) → (K ()).wp P Q (h.setIfInBounds r (.map es' c')) := fun es' c' he' => by
    have hlt := lt_of_get hr
    have hne : ∀ k, ¬ F k → (h.setIfInBounds r (Obj.map es' c'))[k]? = h[k]? := fun k hk => Array.getElem?_setIfInBounds_ne fun e => hk ((hF k).2 e.symm)
    refine hK _ ⟨F, ⟨r, es', c', rfl, ?_, he', hF⟩, h2, StX.heap H (fun k _ hX => hne k fun g => hX (.inr g)) fun i o ho => ?_⟩
    · rw [Array.getElem?_setIfInBounds, if_pos rfl, if_pos hlt]
    · show (h.setIfInBounds r _)[i]? = some o
      rw [hne i fun g => by rw [(h2 i g).1] at ho; cases ho]
      exact hs i o ho
  refine t_sem ?_
  refine semWp_bind _ _ ?_
  unfold Instr.mapUpdate
  refine underlying_run hm ?_
  refine ⟨_, hr, (fun _ _ _ g => by cases g), ?_⟩
  show semWp P (Sem.bind (Instr.checkKey _ 10000 kt (kk.val k)) fun _ => Sem.bind (Instr.findKey kt (kk.val k) es.toList) fun r => _) _ _ h
  refine semWp_bind _ _ (kk.ok hk (semWp_bind _ _ ?_))
  cases hg : mget k m with
  | none =>
    refine findKey_none hk he hg ?_
    dsimp only
    refine ⟨⟨_, hr, (fun _ _ _ g => by cases g)⟩, (), rfl, key _ _ ?_⟩
    rw [Array.toList_push]
    exact he.push hg rfl hv
  | some x =>
    obtain ⟨q, e, g1, g2, g3, g4, g5⟩ := findKey_some hk he hg
    refine g5 _ _ _ ?_
    have hq : es[q]? = some e := by simpa using g1
    have hks : Instr.keyThatStays ((Option.map (fun x => x.key) es[q]?).getD (kk.val k)) (kk.val k) = Sem.pure (kk.val k) := by
      rw [hq]
      dsimp only [Option.map, Option.getD]
      rw [g2]
      unfold Instr.keyThatStays
      rw [kk.bits]
      rfl
    show semWp P (Sem.bind (Instr.keyThatStays ((Option.map (fun x => x.key) es[q]?).getD (kk.val k)) (kk.val k)) fun key => setObj r (Obj.map (es.modify q fun e => { e with key, val := v }) c)) _ _ h
    rw [hks]
    refine ⟨⟨_, hr, (fun _ _ _ g => by cases g)⟩, (), rfl, key _ _ ?_⟩
    rw [Array.toList_modify]
    exact g4 y v hv
end
end

section
variable {P : Program} {Q : Leaf → Heap → Prop} {φ : Snap} {h : Heap} {Γ : List Chk}
/-! ## bytes -/
theorem all_atom {a : Atom} {vs : List Value} {l : List a.Ty} (H : (Ro.atom a).All φ vs l) : vs = l.map a.val := by
  induction H with
  | nil => rfl
  | cons h _ ih => have h' : _ = [_] := h; rw [h', ih]; rfl
def isByte (x : Int) : Bool := decide (0 ≤ x) && decide (x < 256)
def toStr (l : List Int) : Option ByteArray := if l.all isByte then some ⟨(l.map fun x => UInt8.ofNat x.toNat).toArray⟩ else none
theorem St.bytes {ty : TypeId} {t : Slc} {l : List Int} (H : St φ (⟨Rep.row ty (Ro.int .u8), [.slice t.1 t.2.1 t.2.2], l⟩ :: Γ) h) : l.length = t.2.1 ∧ CellsAt h t.1 (l.map (Atom.int .u8).val) := by
  have hl := H.rowLen
  obtain ⟨vs, ha, hc⟩ := H.all
  rw [all_atom ha] at hc
  exact ⟨hl.symm, hc⟩
theorem Ro.SliceIs.bytes {t : Slc} {l : List Int} (H : Ro.SliceIs (Ro.int .u8) φ t l) (hs : Sub φ (snap h)) : l.length = t.2.1 ∧ CellsAt h t.1 (l.map (Atom.int .u8).val) := by
  have hl := H.length
  obtain ⟨vs, ha, hc⟩ := H.heap hs
  rw [all_atom ha] at hc
  exact ⟨hl.symm, hc⟩
theorem s_toString {src dst e : TypeId} {t : Slc} {l : List Int} {x : ByteArray} {K : ByteArray → T} (hs : P.underlying src = some (.slice e)) (he : P.underlying e = some (.int .u8)) (hd : P.underlying dst = some .string)
    (hc : l.length = t.2.1 ∧ CellsAt h t.1 (l.map (Atom.int .u8).val)) (hx : toStr l = some x) (hK : (K x).wp P Q h) : (T.sem (convert src dst (.slice t.1 t.2.1 t.2.2)) (.one (.atom .string)) K).wp P Q h := by
  obtain ⟨hl, hc⟩ := hc
  unfold toStr at hx
  split at hx
  · rename_i hall
    cases hx
    have e1 : l.map (Atom.int .u8).val = (l.map fun x => UInt8.ofNat x.toNat).map fun b => Value.int .u8 (b.toNat : Int) := by
      rw [List.map_map]
      refine List.map_congr_left fun x hx => ?_
      have := List.all_eq_true.1 hall x hx
      simp only [isByte, Bool.and_eq_true, decide_eq_true_eq] at this
      show Value.int .u8 x = Value.int .u8 _
      have e : (UInt8.ofNat x.toNat).toNat = x.toNat := by simp; omega
      rw [show ((UInt8.ofNat x.toNat).toNat : Int) = x by rw [e]; omega]
    rw [e1] at hc
    have hl2 : t.2.1 = (l.map fun x => UInt8.ofNat x.toNat).length := by simp [← hl]
    refine t_sem ?_
    rw [hl2]
    exact convBytes_wp hs he hd hc ⟨_, rfl, hK⟩
  · cases hx
end
end Go.Eng

/-
  THE ENGINE, PART K: make([]T, n) of things of one cell; a slice's copy of one's own.
  Conditions: none; it speaks of any program.
-/
namespace Go.Eng
open Go

theorem all_replicate {α : Type} {r : Ro α} {φ : Snap} {v : Value} {x : α} (h : r.is φ [v] x) : ∀ n, r.All φ (List.replicate n v) (List.replicate n x) := by
  intro n
  induction n with
  | zero => exact .nil
  | succ n ih => exact .cons (a := [v]) h ih
/-- make([]T, n) -/
def mkRow {α : Type} (n : Int) (x : α) : Option (List α) := if 0 ≤ n ∧ n ≤ 1073741824 then some (List.replicate n.toNat x) else none
theorem mkRow_some {α : Type} {n : Int} {x : α} {l : List α} (h : mkRow n x = some l) : 0 ≤ n ∧ n ≤ 1073741824 ∧ l = List.replicate n.toNat x := by
  unfold mkRow at h
  split at h
  · rename_i g; exact ⟨g.1, g.2, (Option.some.inj h).symm⟩
  · cases h
structure MakeT (P : Program) (t elem : TypeId) (z : Value) : Prop where
  st : P.underlying t = some (.slice elem)
  info : ∃ i, P.info? elem = some i ∧ i.size = 1 ∧ (∃ zv, i.zero = some zv ∧ zv.cells = #[z]) ∧ i.bytes ≤ 4096
section
variable {P : Program} {Q : Leaf → Heap → Prop} {φ : Snap} {h : Heap} {Γ : List Chk}
theorem s_make {α : Type} {t elem : TypeId} {z : Value} {r : Ro α} {x : α} {l : List α} {n m : Int} {k : Slc → T} (A : MakeT P t elem z) (H : St φ Γ h) (hr : r.is φ [z] x) (hnm : m = n) (hD : mkRow n x = some l)
    (hk : ∀ (t : Slc) h', St φ (⟨Rep.row elem r, [.slice t.1 t.2.1 t.2.2], l⟩ :: Γ) h' → (k t).wp P Q h') :
    (T.sem (Instr.makeSlice t (.int .i64 m) (.int .i64 m)) (.one (.atom .slice)) k).wp P Q h := by
  subst hnm
  obtain ⟨h0, h1, rfl⟩ := mkRow_some hD
  obtain ⟨i, hi, hsz, ⟨zv, hz, hzc⟩, hb⟩ := A.info
  have hw : IntKind.i64.wrap m = m := by
    unfold IntKind.wrap
    simp only [IntKind.bits, IntKind.signed]
    have e : m % 18446744073709551616 = m := by omega
    simp
    omega
  have hbn : (i.bytes : Int) * m ≤ 4096 * 1073741824 := by
    have h2 : (i.bytes : Int) ≤ 4096 := by omega
    exact Int.mul_le_mul h2 h1 h0 (by decide)
  have hlarge : ¬ (m < 0 ∨ (i.bytes : Int) * m > 2 ^ 48) := by
    intro hh
    rcases hh with hh | hh
    · omega
    · have e : (2 : Int) ^ 48 = 281474976710656 := by decide
      omega
  have fin : (k ((some ⟨h.size, 0, none⟩, m.toNat, m.toNat) : Slc)).wp P Q (h.push (.cells (List.replicate m.toNat z).toArray elem (0, 0))) := by
    have hall : r.All φ (List.replicate m.toNat z) (List.replicate m.toNat x) := all_replicate hr _
    have s1 := H.new (ty := elem) (List.replicate m.toNat z)
    exact hk (some ⟨h.size, 0, none⟩, m.toNat, m.toNat) _ (St.lit (r := r) (l := List.replicate m.toNat x) (n := m.toNat) s1 hall (by simp) (by unfold maxLen; omega))
  have hcells : ∀ q : Nat, (Array.range q).map (fun j => (#[z] : Array Value)[j % (#[z] : Array Value).size]!) = (List.replicate q z).toArray := by
    intro q
    apply Array.ext
    · simp
    · intro j h1 h2
      simp [Nat.mod_one]
  have rest : ∀ zero : Array Value, (zero = #[] ∧ m.toNat = 0) ∨ zero = #[z] → semWp P (do
      let a ← newRow elem ((Array.range m.toNat).map (zero[· % zero.size]!))
      pure (.slice (some a) m.toNat m.toNat) : Sem Value) (fun v h' => ∃ x : Slc, v = ((.one (.atom .slice)) : Sh).val x ∧ (k x).wp P Q h') (fun _ _ => False) h := by
    intro zero hz0
    show semWp P (Sem.new _ _) _ _ h
    rcases hz0 with ⟨rfl, hn⟩ | rfl
    · have e : (Array.range m.toNat).map (fun j => (#[] : Array Value)[j % (#[] : Array Value).size]!) = (List.replicate m.toNat z).toArray := by rw [hn]; simp
      rw [e]
      exact ⟨_, rfl, fin⟩
    · rw [hcells]
      exact ⟨_, rfl, fin⟩
  refine t_sem ?_
  unfold Instr.makeSlice
  refine underlying_run A.st ?_
  show semWp P ((typeInfo elem).bind _) _ _ h
  refine typeInfo_run hi ?_
  simp only [hw]
  rw [if_neg (by simp; omega)]
  show semWp P ((askRoom _).bind _) _ _ h
  unfold askRoom
  have go : semWp P ((sizeOf elem).bind fun s => (if m.toNat * s = 0 then (do
        let zero ← (pure #[] : Sem (Array Value))
        let a ← newRow elem ((Array.range (m.toNat * s)).map (zero[· % zero.size]!))
        pure (.slice (some a) m.toNat m.toNat) : Sem Value) else do
        let zv ← zeroValue elem
        let zero ← (pure zv.cells : Sem (Array Value))
        let a ← newRow elem ((Array.range (m.toNat * s)).map (zero[· % zero.size]!))
        pure (.slice (some a) m.toNat m.toNat))) (fun v h' => ∃ x : Slc, v = ((.one (.atom .slice)) : Sh).val x ∧ (k x).wp P Q h') (fun _ _ => False) h := by
    refine sizeOf_run hi ?_
    rw [hsz, Nat.mul_one]
    by_cases hn : m.toNat = 0
    · rw [if_pos hn]
      exact rest #[] (.inl ⟨rfl, hn⟩)
    · rw [if_neg hn]
      show semWp P ((zeroValue elem).bind _) _ _ h
      refine semWp_bind _ _ (zeroValue_run hi hz ?_)
      have := rest zv.cells (.inr hzc)
      exact this
  split
  · exact go
  · exact go
end
end Go.Eng

/-
  THE ENGINE, PART Y: a row of bytes seen as one of its own type: it stays from then on.
  Conditions: none; it speaks of any program.
-/
namespace Go.Eng
open Go

section
variable {P : Program} {Q : Leaf → Heap → Prop} {φ : Snap} {h : Heap} {Γ : List Chk}
/-- A block of one's own becomes another, and stays. -/
theorem St.become {ty : TypeId} {b : Nat} {vs : List Value} {h' : Heap} {arr : Array Value} {f : Nat × Nat} (H : St φ (⟨Rep.raw ty, [.pointer (some ⟨b, 0, none⟩)], vs⟩ :: Γ) h)
    (hb : h'[b]? = some (.cells arr ty f)) (ho : ∀ k, k < h.size → k ≠ b → h'[k]? = h[k]?) : ∃ ψ, Sub φ ψ ∧ ψ b = some (.cells arr ty f) ∧ St ψ Γ h' := by
  classical
  obtain ⟨F, ⟨b', e, hcell, hF⟩, h2, H⟩ := H
  cases e
  have hφ : φ b = none := (h2 b ((hF b).2 rfl)).1
  have hs := StX.sub H
  have hs' : Sub φ (snap h') := fun i o hi => by
    have hne : i ≠ b := fun e => by rw [e, hφ] at hi; cases hi
    have := hs i o hi
    show h'[i]? = some o
    rw [ho i (lt_of_get this) hne]; exact this
  have H1 : StX φ h' Γ (fun k => False ∨ F k) := StX.heap H (fun k hk hn => ho k hk fun e => hn (.inr ((hF k).2 e))) hs'
  refine ⟨fun i => if i = b then h'[b]? else φ i, fun i o hi => ?_, by simp [hb], ?_⟩
  · show (if i = b then h'[b]? else φ i) = some o
    rw [if_neg]
    · exact hi
    · intro e; rw [e, hφ] at hi; cases hi
  · refine StX.less (StX.grow H1 (fun i o hi => ?_) (fun i o hi => ?_) fun k hk hn => ?_) fun k hk => hk.elim
    · show (if i = b then h'[b]? else φ i) = some o
      rw [if_neg]
      · exact hi
      · intro e; rw [e, hφ] at hi; cases hi
    · split at hi
      · rename_i e; rw [e]; exact hi
      · exact hs' i o hi
    · split at hk
      · rename_i e; exact .inr ((hF k).2 e)
      · exact absurd hn hk
theorem s_view {t e : TypeId} {b n : Nat} {α : Type} {r : Ro α} {vs : List Value} {l : List α} {k : Slc → T} (ht : P.underlying t = some (.slice e)) (he : P.underlying e = some (.int .u8))
    (H : St φ (⟨Rep.raw e, [.pointer (some ⟨b, 0, none⟩)], vs⟩ :: Γ) h) (ha : r.All φ vs l) (hn : l.length = n) (hm : n ≤ maxLen)
    (hk : ∀ ψ h', Sub φ ψ → Ro.SliceIs r ψ (some ⟨b, 0, none⟩, n, n) l → St ψ Γ h' → (k (some ⟨b, 0, none⟩, n, n)).wp P Q h') :
    (T.sem (convert t t (.slice (some ⟨b, 0, none⟩) n n)) (.one (.atom .slice)) k).wp P Q h := by
  refine t_sem ?_
  unfold convert
  refine underlying_run ht ?_
  refine underlying_run ht ?_
  dsimp only
  refine underlying_run he ?_
  rw [beq_self_eq_true]
  have hb : h[b]? = some (.cells vs.toArray e (0, 0)) := by
    obtain ⟨F, ⟨b', e', hcell, hF⟩, h2, H⟩ := H
    cases e'
    exact hcell
  have hsh : shapeH h b = some (e, vs.toArray.size) := by
    show World.shape? (ofHeap h) b = _
    unfold World.shape?
    show (match h[b]? with | some (.cells c e _) => some (e, c.size) | _ => none) = _
    rw [hb]
  show semWp P (Sem.bind (markStringish _) _) _ _ h
  unfold markStringish
  show semWp P (Sem.bind (Sem.bind (shape b) _) _) _ _ h
  show semWp P _ _ _ h
  simp only [shape, Sem.bind, semWp, hsh, freeze, pure]
  have hw : freezeH h ⟨b, vs.toArray.size, none⟩ 1 = h.modify b fun
      | .cells c elem (lo, hi) => .cells c elem (if lo == hi then (vs.toArray.size, vs.toArray.size + 1) else (min lo vs.toArray.size, max hi (vs.toArray.size + 1)))
      | o => o := by
    unfold freezeH World.freeze
    rfl
  obtain ⟨ψ, h1, h2, h3⟩ := H.become (h' := freezeH h ⟨b, vs.toArray.size, none⟩ 1) (arr := vs.toArray) (f := (vs.toArray.size, vs.toArray.size + 1)) (by
    rw [hw, Array.getElem?_modify, if_pos rfl, hb]; rfl) (fun k hk hne => by
    rw [hw, Array.getElem?_modify, if_neg (fun e => hne e.symm)])
  refine ⟨(some ⟨b, 0, none⟩, n, n), rfl, hk ψ _ h1 ⟨hn, Nat.le_refl _, hm, fun e => (by cases e), vs, ha.mono h1, fun i v hv => ⟨_, rfl, ?_⟩⟩ h3⟩
  rw [add_mk, Nat.zero_add]
  unfold cellS
  dsimp only
  rw [h2]
  simpa using hv
end
end Go.Eng

/-
  THE ENGINE, PART N: short rules for printed proofs; a cell of a row's thing is written; pointers to what stays that may be nil.
  Conditions: none; it speaks of any program.
-/
namespace Go.Eng
open Go

theorem bS {α β : Type} {o : Option α} {f : α → Option β} {x : β} (h : o.bind f = some x) : ∃ a, o = some a ∧ f a = some x := Option.bind_eq_some_iff.1 h
theorem iS {α : Type} {a b : α} (h : some a = some b) : a = b := Option.some.inj h
abbrev sv (t : Slc) : Value := .slice t.1 t.2.1 t.2.2
abbrev pv (b : Nat) : Value := .pointer (some ⟨b, 0, none⟩)
abbrev cR {α : Type} (e : TypeId) (r : Ro α) (t : Slc) (l : List α) : Chk := ⟨Rep.row e r, [.slice t.1 t.2.1 t.2.2], l⟩
abbrev cO {α : Type} (e : TypeId) (R : Rep α) (p : Option Addr) (x : α) : Chk := ⟨Rep.obj e R, [.pointer p], x⟩
abbrev cW (e : TypeId) (b : Nat) (vs : List Value) : Chk := ⟨Rep.raw e, [.pointer (some ⟨b, 0, none⟩)], vs⟩
abbrev cM {κ β : Type} [DecidableEq κ] (kk : Ky κ) (vv : Ro β) (r : Nat) (m : List (κ × β)) : Chk := ⟨Rep.kmap kk vv, [.map (some r)], m⟩
abbrev Ro.slc : Ro Slc := Ro.atom .slice
/-- A pointer that is not nil to what stays. -/
def Pt {α : Type} (r : Ro α) (φ : Snap) (p : Option Addr) (x : α) : Prop := ∃ a vs, p = some a ∧ r.is φ vs x ∧ CellsS φ (some a) vs
theorem Pt.mono {α : Type} {r : Ro α} {φ ψ : Snap} {p : Option Addr} {x : α} (H : Pt r φ p x) (hs : Sub φ ψ) : Pt r ψ p x := by
  obtain ⟨a, vs, e, h1, h2⟩ := H
  exact ⟨a, vs, e, r.mono hs h1, h2.mono hs⟩
/-- A pointer to what stays, or nil. -/
def Np {α : Type} (r : Ro α) (φ : Snap) (p : Option Addr) (x : Option α) : Prop := match x with
  | none => p = none
  | some x => Pt r φ p x
theorem Np.mono {α : Type} {r : Ro α} {φ ψ : Snap} {p : Option Addr} {x : Option α} (H : Np r φ p x) (hs : Sub φ ψ) : Np r ψ p x := by
  cases x with
  | none => exact H
  | some x => exact Pt.mono H hs
theorem Np.nil {α : Type} {r : Ro α} {φ : Snap} {p : Option Addr} {x : Option α} (H : Np r φ p x) : p.isNone = x.isNone := by
  cases x with
  | none => rw [show p = none from H]; rfl
  | some x => obtain ⟨a, vs, rfl, _⟩ := H; rfl
theorem Np.get {α : Type} {r : Ro α} {φ : Snap} {p : Option Addr} {x : Option α} {y : α} (H : Np r φ p x) (e : x = some y) : Pt r φ p y := by subst e; exact H
theorem Np.none {α : Type} (r : Ro α) (φ : Snap) : Np r φ Option.none (Option.none : Option α) := rfl
section
variable {P : Program} {Q : Leaf → Heap → Prop} {φ : Snap} {h : Heap} {Γ : List Chk}
theorem n_put {ty : TypeId} {b j : Nat} {vs : List Value} {v : Value} {k : T} (H : St φ (⟨Rep.raw ty, [.pointer (some ⟨b, 0, none⟩)], vs⟩ :: Γ) h) (hp : Value.plain v = true) (hj : Nat.blt j vs.length = true)
    (hk : ∀ h', St φ (cW ty b (vs.set j v) :: Γ) h' → k.wp P Q h') : (T.store ⟨b, j, none⟩ v k).wp P Q h :=
  s_put H hp (Nat.le_of_ble_eq_true hj) hk
/-- A new block; what lay there lies there. -/
theorem n_newK {ty : TypeId} {vs : List Value} {k : Nat → T} (H : St φ Γ h) (hk : ∀ r h', (∀ a v, cellH h a = some v → cellH h' a = some v) → St φ (cW ty r vs :: Γ) h' → (k r).wp P Q h') : (T.new (.cells vs.toArray ty (0, 0)) k).wp P Q h :=
  t_new (hk _ _ (fun a v ha => by
    rw [← cellS_snap] at ha ⊢
    refine cellS_mono (fun i o ho => ?_) ha
    have := lt_of_get ho
    show (h.push _)[i]? = some o
    rw [Array.getElem?_push, if_neg (by omega)]
    exact ho) (H.new vs))
theorem St.shutR {α : Type} {ty : TypeId} {r : Ro α} {cs vs : List Value} {x : α} (H : St φ (⟨Rep.raw ty, cs, vs⟩ :: Γ) h) (hr : r.is φ vs x) : St φ (⟨Rep.obj ty (Rep.ro r), cs, x⟩ :: Γ) h :=
  St.shut (St.at1 (St.unro (r := r) H hr))
theorem St.openR {α : Type} {ty : TypeId} {r : Ro α} {p : Option Addr} {x : α} (H : St φ (⟨Rep.obj ty (Rep.ro r), [.pointer p], x⟩ :: Γ) h) :
    ∃ b vs, p = some ⟨b, 0, none⟩ ∧ r.is φ vs x ∧ St φ (cW ty b vs :: Γ) h := by
  obtain ⟨b, vs, e, _, s⟩ := H.open
  obtain ⟨h1, h2⟩ := St.ro s.at1
  exact ⟨b, vs, by simpa using e, h1, h2⟩
theorem St.at10 {c0 c1 c2 c3 c4 c5 c6 c7 c8 c9 c10 : Chk} (H : St φ (c0 :: c1 :: c2 :: c3 :: c4 :: c5 :: c6 :: c7 :: c8 :: c9 :: c10 :: Γ) h) : St φ (c10 :: c0 :: c1 :: c2 :: c3 :: c4 :: c5 :: c6 :: c7 :: c8 :: c9 :: Γ) h := H.perm (front_perm 10 (c0 :: c1 :: c2 :: c3 :: c4 :: c5 :: c6 :: c7 :: c8 :: c9 :: c10 :: Γ))
theorem St.at11 {c0 c1 c2 c3 c4 c5 c6 c7 c8 c9 c10 c11 : Chk} (H : St φ (c0 :: c1 :: c2 :: c3 :: c4 :: c5 :: c6 :: c7 :: c8 :: c9 :: c10 :: c11 :: Γ) h) : St φ (c11 :: c0 :: c1 :: c2 :: c3 :: c4 :: c5 :: c6 :: c7 :: c8 :: c9 :: c10 :: Γ) h := H.perm (front_perm 11 (c0 :: c1 :: c2 :: c3 :: c4 :: c5 :: c6 :: c7 :: c8 :: c9 :: c10 :: c11 :: Γ))
theorem St.at12 {c0 c1 c2 c3 c4 c5 c6 c7 c8 c9 c10 c11 c12 : Chk} (H : St φ (c0 :: c1 :: c2 :: c3 :: c4 :: c5 :: c6 :: c7 :: c8 :: c9 :: c10 :: c11 :: c12 :: Γ) h) : St φ (c12 :: c0 :: c1 :: c2 :: c3 :: c4 :: c5 :: c6 :: c7 :: c8 :: c9 :: c10 :: c11 :: Γ) h := H.perm (front_perm 12 (c0 :: c1 :: c2 :: c3 :: c4 :: c5 :: c6 :: c7 :: c8 :: c9 :: c10 :: c11 :: c12 :: Γ))
theorem St.at13 {c0 c1 c2 c3 c4 c5 c6 c7 c8 c9 c10 c11 c12 c13 : Chk} (H : St φ (c0 :: c1 :: c2 :: c3 :: c4 :: c5 :: c6 :: c7 :: c8 :: c9 :: c10 :: c11 :: c12 :: c13 :: Γ) h) : St φ (c13 :: c0 :: c1 :: c2 :: c3 :: c4 :: c5 :: c6 :: c7 :: c8 :: c9 :: c10 :: c11 :: c12 :: Γ) h := H.perm (front_perm 13 (c0 :: c1 :: c2 :: c3 :: c4 :: c5 :: c6 :: c7 :: c8 :: c9 :: c10 :: c11 :: c12 :: c13 :: Γ))
theorem St.at14 {c0 c1 c2 c3 c4 c5 c6 c7 c8 c9 c10 c11 c12 c13 c14 : Chk} (H : St φ (c0 :: c1 :: c2 :: c3 :: c4 :: c5 :: c6 :: c7 :: c8 :: c9 :: c10 :: c11 :: c12 :: c13 :: c14 :: Γ) h) : St φ (c14 :: c0 :: c1 :: c2 :: c3 :: c4 :: c5 :: c6 :: c7 :: c8 :: c9 :: c10 :: c11 :: c12 :: c13 :: Γ) h := H.perm (front_perm 14 (c0 :: c1 :: c2 :: c3 :: c4 :: c5 :: c6 :: c7 :: c8 :: c9 :: c10 :: c11 :: c12 :: c13 :: c14 :: Γ))
theorem St.at15 {c0 c1 c2 c3 c4 c5 c6 c7 c8 c9 c10 c11 c12 c13 c14 c15 : Chk} (H : St φ (c0 :: c1 :: c2 :: c3 :: c4 :: c5 :: c6 :: c7 :: c8 :: c9 :: c10 :: c11 :: c12 :: c13 :: c14 :: c15 :: Γ) h) : St φ (c15 :: c0 :: c1 :: c2 :: c3 :: c4 :: c5 :: c6 :: c7 :: c8 :: c9 :: c10 :: c11 :: c12 :: c13 :: c14 :: Γ) h := H.perm (front_perm 15 (c0 :: c1 :: c2 :: c3 :: c4 :: c5 :: c6 :: c7 :: c8 :: c9 :: c10 :: c11 :: c12 :: c13 :: c14 :: c15 :: Γ))
theorem St.at16 {c0 c1 c2 c3 c4 c5 c6 c7 c8 c9 c10 c11 c12 c13 c14 c15 c16 : Chk} (H : St φ (c0 :: c1 :: c2 :: c3 :: c4 :: c5 :: c6 :: c7 :: c8 :: c9 :: c10 :: c11 :: c12 :: c13 :: c14 :: c15 :: c16 :: Γ) h) : St φ (c16 :: c0 :: c1 :: c2 :: c3 :: c4 :: c5 :: c6 :: c7 :: c8 :: c9 :: c10 :: c11 :: c12 :: c13 :: c14 :: c15 :: Γ) h := H.perm (front_perm 16 (c0 :: c1 :: c2 :: c3 :: c4 :: c5 :: c6 :: c7 :: c8 :: c9 :: c10 :: c11 :: c12 :: c13 :: c14 :: c15 :: c16 :: Γ))
theorem St.at17 {c0 c1 c2 c3 c4 c5 c6 c7 c8 c9 c10 c11 c12 c13 c14 c15 c16 c17 : Chk} (H : St φ (c0 :: c1 :: c2 :: c3 :: c4 :: c5 :: c6 :: c7 :: c8 :: c9 :: c10 :: c11 :: c12 :: c13 :: c14 :: c15 :: c16 :: c17 :: Γ) h) : St φ (c17 :: c0 :: c1 :: c2 :: c3 :: c4 :: c5 :: c6 :: c7 :: c8 :: c9 :: c10 :: c11 :: c12 :: c13 :: c14 :: c15 :: c16 :: Γ) h := H.perm (front_perm 17 (c0 :: c1 :: c2 :: c3 :: c4 :: c5 :: c6 :: c7 :: c8 :: c9 :: c10 :: c11 :: c12 :: c13 :: c14 :: c15 :: c16 :: c17 :: Γ))
theorem St.at18 {c0 c1 c2 c3 c4 c5 c6 c7 c8 c9 c10 c11 c12 c13 c14 c15 c16 c17 c18 : Chk} (H : St φ (c0 :: c1 :: c2 :: c3 :: c4 :: c5 :: c6 :: c7 :: c8 :: c9 :: c10 :: c11 :: c12 :: c13 :: c14 :: c15 :: c16 :: c17 :: c18 :: Γ) h) : St φ (c18 :: c0 :: c1 :: c2 :: c3 :: c4 :: c5 :: c6 :: c7 :: c8 :: c9 :: c10 :: c11 :: c12 :: c13 :: c14 :: c15 :: c16 :: c17 :: Γ) h := H.perm (front_perm 18 (c0 :: c1 :: c2 :: c3 :: c4 :: c5 :: c6 :: c7 :: c8 :: c9 :: c10 :: c11 :: c12 :: c13 :: c14 :: c15 :: c16 :: c17 :: c18 :: Γ))
/-- A thing behind a pointer is let go. -/
theorem St.freezeR {α : Type} {ty : TypeId} {R : Rep α} {r : Ro α} {p : Option Addr} {x : α} (hz : Frz R r) (H : St φ (⟨Rep.obj ty R, [.pointer p], x⟩ :: Γ) h) : ∃ ψ, Sub φ ψ ∧ Pt r ψ p x ∧ St ψ Γ h := by
  obtain ⟨ψ, h1, h2, h3⟩ := St.freeze (frz_obj hz) H
  obtain ⟨a, vs, e, g1, g2⟩ := h2
  exact ⟨ψ, h1, ⟨a, vs, by simpa using e, g1, g2⟩, h3⟩
theorem Ro.All.setCell {α : Type} {r : Ro α} {x x' : α} {j : Nat} {v : Value} (hr : ∀ cs, r.is φ cs x → r.is φ (cs.set j v) x') (hj : j < r.sz) {vs : List Value} {l : List α} (hall : r.All φ vs l) : ∀ i : Nat, l[i]? = some x → r.All φ (vs.set (i * r.sz + j) v) (l.set i x') := by
  induction hall with
  | nil => intro i hi; simp at hi
  | @cons a b y l hy hb ih =>
    intro i hi
    have hl := r.len hy
    cases i with
    | zero =>
      simp only [List.getElem?_cons_zero, Option.some.injEq] at hi
      subst hi
      rw [Nat.zero_mul, Nat.zero_add, List.set_append_left _ _ (by omega)]
      exact .cons (hr _ hy) hb
    | succ i =>
      have e : (i + 1) * r.sz + j = a.length + (i * r.sz + j) := by rw [hl, Nat.add_mul]; omega
      rw [e, List.set_append_right _ _ (by omega), Nat.add_sub_cancel_left]
      exact .cons hy (ih i (by simpa using hi))
/-- A cell of a row's thing is written. -/
theorem s_setF {α : Type} {ty : TypeId} {r : Ro α} {t : Slc} {l m : List α} {i : Int} {x x' : α} {v : Value} {k : T} {a A : Addr} {j : Nat} (H : St φ (⟨Rep.row ty r, [.slice t.1 t.2.1 t.2.2], l⟩ :: Γ) h) (hx : idx l i = some x) (hm : setI l i x' = some m)
    (hr : ∀ cs, r.is φ cs x → r.is φ (cs.set j v) x') (hj : Nat.blt j r.sz = true) (hpl : Value.plain v = true) (ha : t.1 = some a) (hA : A = a.add (i.toNat * r.sz + j))
    (hk : ∀ h', St φ (cR ty r t m :: Γ) h' → k.wp P Q h') : (T.store A v k).wp P Q h := by
  have hj : j < r.sz := Nat.le_of_ble_eq_true hj
  obtain ⟨F, ⟨p, n, c, vs, e, hn, hc, hfu, ho, hall, hF⟩, h2, H⟩ := H
  have hn : l.length = n := hn
  simp only [List.cons.injEq, Value.slice.injEq, and_true] at e
  obtain ⟨e1, e2, e3⟩ := e
  obtain ⟨h0, h1, rfl⟩ := setI_some hm
  obtain ⟨_, _, hx'⟩ := idx_some hx
  rw [e1] at ha
  subst ha
  subst hA
  rcases ho with ⟨hp, _⟩ | ⟨b, off, arr, hp, hb, g1, g2, g3, g4⟩
  · cases hp
  · cases hp
    have hin : i.toNat * r.sz + j < n * r.sz := by
      have : i.toNat + 1 ≤ n := by omega
      have := Nat.mul_le_mul_right r.sz this
      rw [Nat.add_mul] at this
      omega
    have hcn : n * r.sz ≤ c * r.sz := Nat.mul_le_mul_right _ g2
    have hlt : off + (i.toNat * r.sz + j) < arr.size := by omega
    rw [add_mk]
    have hb1 := setCellH_at (off := off + (i.toNat * r.sz + j)) (v := v) hb
    refine t_store hpl ?_ ?_ (hk _ ?_)
    · rw [cellH_of (c := arr) (t := ty) (f := (0, 0)) hb rfl]; simp; omega
    · unfold frozenH ofHeap World.frozen?; simp [hb]
    · have hs := H.sub
      have hne : ∀ k, ¬ F k → (setCellH h ⟨b, off + (i.toNat * r.sz + j), none⟩ v)[k]? = h[k]? := fun k hk => setCellH_ne fun e => hk ((hF k).2 (by simp [blk]; exact e))
      refine ⟨F, ⟨some ⟨b, off, none⟩, n, c, vs.set (i.toNat * r.sz + j) v, by dsimp only; rw [e1, e2, e3], by simp; exact hn, hc, (fun b' off' s' e => by cases e; obtain ⟨q1, q2⟩ := hfu _ _ _ rfl; exact ⟨q1, fun arr' ty' f' harr => by rw [hb1] at harr; cases harr; rw [Array.size_setIfInBounds]; exact q2 _ _ _ hb⟩), .inr ⟨b, off, _, rfl, hb1, by rw [List.length_set]; exact g1, g2, by rw [Array.size_setIfInBounds]; exact g3, fun q u hu => ?_⟩, Ro.All.setCell hr hj hall i.toNat hx', hF⟩, h2, StX.heap H (fun k _ hX => hne k fun g => hX (.inr g)) fun q o ho => ?_⟩
      · rw [List.getElem?_set] at hu
        split at hu
        · rename_i hq
          subst hq
          split at hu
          · cases hu; rw [Array.getElem?_setIfInBounds]; simp; omega
          · cases hu
        · rw [Array.getElem?_setIfInBounds_ne (by omega)]; exact g4 q u hu
      · show (setCellH h _ v)[q]? = some o
        rw [hne q fun g => by rw [(h2 q g).1] at ho; cases ho]
        exact hs q o ho
end
end Go.Eng

/-
  THE ENGINE, PART L: pieces packed into one: a thing that is made of many pieces, told as one.
  Conditions: none; it speaks of any program.
-/
namespace Go.Eng
open Go

/-- Pieces that lie apart, and where they lie. -/
def Pieces (φ : Snap) (h : Heap) : List Chk → Foot → Prop
  | [], F => ∀ k, ¬ F k
  | c :: Γ, F => ∃ A B : Foot, c.on φ h A ∧ Pieces φ h Γ B ∧ (∀ k, A k → B k → False) ∧ ∀ k, F k ↔ A k ∨ B k
theorem Pieces.mono {φ ψ : Snap} {h : Heap} (hs : Sub φ ψ) : ∀ {Γ : List Chk} {F : Foot}, Pieces φ h Γ F → Pieces ψ h Γ F := by
  intro Γ
  induction Γ with
  | nil => intro F H; exact H
  | cons c Γ ih => intro F ⟨A, B, h1, h2, h3, h4⟩; exact ⟨A, B, c.R.mono hs h1, ih h2, h3, h4⟩
theorem Pieces.loc {φ : Snap} {h h' : Heap} : ∀ {Γ : List Chk} {F : Foot}, (∀ k, F k → h'[k]? = h[k]?) → Pieces φ h Γ F → Pieces φ h' Γ F := by
  intro Γ
  induction Γ with
  | nil => intro F _ H; exact H
  | cons c Γ ih =>
    intro F hl ⟨A, B, h1, h2, h3, h4⟩
    exact ⟨A, B, c.R.loc (fun k hk => hl k ((h4 k).2 (.inl hk))) h1, ih (fun k hk => hl k ((h4 k).2 (.inr hk))) h2, h3, h4⟩
theorem Pieces.lt {φ : Snap} {h : Heap} : ∀ {Γ : List Chk} {F : Foot}, Pieces φ h Γ F → ∀ k, F k → k < h.size := by
  intro Γ
  induction Γ with
  | nil => intro F H k hk; exact (H k hk).elim
  | cons c Γ ih =>
    intro F ⟨A, B, h1, h2, h3, h4⟩ k hk
    rcases (h4 k).1 hk with g | g
    · exact c.R.lt h1 k g
    · exact ih h2 k g
/-- How a thing is made of pieces. -/
structure Pk (α : Type) where
  sz : Nat
  L : Snap → List Value → α → List Chk → Prop
  len : ∀ {φ cs x Γ}, L φ cs x Γ → cs.length = sz
  mono : ∀ {φ ψ cs x Γ}, Sub φ ψ → L φ cs x Γ → L ψ cs x Γ
  plain : ∀ {φ cs x Γ}, L φ cs x Γ → ∀ v ∈ cs, Value.plain v = true
def Rep.pack {α : Type} (p : Pk α) : Rep α where
  sz := p.sz
  is φ h F cs x := ∃ Γ, p.L φ cs x Γ ∧ Pieces φ h Γ F
  len h := by obtain ⟨Γ, h1, _⟩ := h; exact p.len h1
  mono hs h := by obtain ⟨Γ, h1, h2⟩ := h; exact ⟨Γ, p.mono hs h1, h2.mono hs⟩
  loc hl h := by obtain ⟨Γ, h1, h2⟩ := h; exact ⟨Γ, h1, h2.loc hl⟩
  lt h := by obtain ⟨Γ, h1, h2⟩ := h; exact h2.lt
  plain h := by obtain ⟨Γ, h1, _⟩ := h; exact p.plain h1
theorem StX.pieces {φ : Snap} {h : Heap} {Δ : List Chk} : ∀ {Γ : List Chk} {X : Foot}, StX φ h (Γ ++ Δ) X ↔ ∃ F, Pieces φ h Γ F ∧ (∀ k, F k → φ k = none ∧ ¬ X k) ∧ StX φ h Δ (fun k => X k ∨ F k) := by
  intro Γ
  induction Γ with
  | nil =>
    intro X
    constructor
    · intro H; exact ⟨fun _ => False, fun k hk => hk, fun k hk => hk.elim, StX.less H fun k hk => hk.elim id False.elim⟩
    · rintro ⟨F, _, _, H⟩; exact StX.less H fun k hk => .inl hk
  | cons c Γ ih =>
    intro X
    constructor
    · rintro ⟨A, h1, h2, H⟩
      obtain ⟨B, g1, g2, g3⟩ := ih.1 H
      refine ⟨fun k => A k ∨ B k, ⟨A, B, h1, g1, fun k ha hb => (g2 k hb).2 (.inr ha), fun k => Iff.rfl⟩, fun k hk => ?_, StX.less g3 fun k hk => ?_⟩
      · rcases hk with hk | hk
        · exact h2 k hk
        · exact ⟨(g2 k hk).1, fun hx => (g2 k hk).2 (.inl hx)⟩
      · rcases hk with hk | hk | hk
        · exact .inl (.inl hk)
        · exact .inl (.inr hk)
        · exact .inr hk
    · rintro ⟨F, ⟨A, B, h1, g1, g2, g3⟩, h2, H⟩
      refine ⟨A, h1, fun k hk => h2 k ((g3 k).2 (.inl hk)), ih.2 ⟨B, g1, fun k hk => ⟨(h2 k ((g3 k).2 (.inr hk))).1, fun hx => ?_⟩, StX.less H fun k hk => ?_⟩⟩
      · rcases hx with hx | hx
        · exact (h2 k ((g3 k).2 (.inr hk))).2 hx
        · exact g2 k hx hk
      · rcases hk with (hk | hk) | hk
        · exact .inl hk
        · exact .inr ((g3 k).2 (.inl hk))
        · exact .inr ((g3 k).2 (.inr hk))
theorem St.unpack {α : Type} {p : Pk α} {φ : Snap} {h : Heap} {cs : List Value} {x : α} {Δ : List Chk} (H : St φ (⟨Rep.pack p, cs, x⟩ :: Δ) h) : ∃ Γ, p.L φ cs x Γ ∧ St φ (Γ ++ Δ) h := by
  obtain ⟨F, ⟨Γ, h1, h2⟩, h3, H⟩ := H
  exact ⟨Γ, h1, StX.pieces.2 ⟨F, h2, h3, H⟩⟩
theorem St.pack {α : Type} {p : Pk α} {φ : Snap} {h : Heap} {cs : List Value} {x : α} {Γ Δ : List Chk} (hL : p.L φ cs x Γ) (H : St φ (Γ ++ Δ) h) : St φ (⟨Rep.pack p, cs, x⟩ :: Δ) h := by
  obtain ⟨F, h2, h3, H⟩ := StX.pieces.1 H
  exact ⟨F, ⟨Γ, hL, h2⟩, h3, H⟩
/-- A pointer to what stays, as a leaf. -/
def Ro.at {α : Type} (r : Ro α) : Ro α where
  sz := 1
  is φ cs x := ∃ p, cs = [.pointer p] ∧ Pt r φ p x
  len h := by obtain ⟨p, rfl, _⟩ := h; rfl
  mono hs h := by obtain ⟨p, e, h⟩ := h; exact ⟨p, e, h.mono hs⟩
  plain h v hv := by obtain ⟨p, rfl, _⟩ := h; simp at hv; subst hv; rfl
/-- Any pointer, as a leaf that nobody reads. -/
def Ro.anyP : Ro Unit where
  sz := 1
  is _ cs _ := ∃ p, cs = [.pointer p]
  len h := by obtain ⟨p, rfl⟩ := h; rfl
  mono _ h := h
  plain h v hv := by obtain ⟨p, rfl⟩ := h; simp at hv; subst hv; rfl
abbrev Ro.map : Ro (Option Nat) := Ro.atom .map
/-- Things that lie in a row, each a piece of its own. -/
theorem zip_focus {α β : Type} {f : α → β → Chk} : ∀ {ps : List α} {ss : List β} {i : Nat} {p : α} {s : β}, ps[i]? = some p → ss[i]? = some s →
    ∃ rest, (List.zipWith f ps ss).Perm (f p s :: rest) ∧ ∀ p' s', (List.zipWith f (ps.set i p') (ss.set i s')).Perm (f p' s' :: rest) := by
  intro ps
  induction ps with
  | nil => intro ss i p s h; simp at h
  | cons q ps ih =>
    intro ss i p s hp hs
    cases ss with
    | nil => simp at hs
    | cons t ss =>
      cases i with
      | zero =>
        simp only [List.getElem?_cons_zero, Option.some.injEq] at hp hs
        subst hp hs
        exact ⟨List.zipWith f ps ss, List.Perm.refl _, fun p' s' => List.Perm.refl _⟩
      | succ i =>
        obtain ⟨rest, h1, h2⟩ := ih (by simpa using hp) (by simpa using hs)
        exact ⟨f q t :: rest, (List.Perm.cons _ h1).trans (List.Perm.swap _ _ _), fun p' s' => (List.Perm.cons _ (h2 p' s')).trans (List.Perm.swap _ _ _)⟩
/-- Rows of one's own in a row. -/
abbrev rowsC {α : Type} (e : TypeId) (r : Ro α) (ts : List Slc) (ls : List (List α)) : List Chk := List.zipWith (cR e r) ts ls
theorem St.freezeRows {α : Type} {e : TypeId} {r : Ro α} : ∀ {ts : List Slc} {ls : List (List α)} {φ : Snap} {h : Heap} {F : List Chk}, ts.length = ls.length → St φ (rowsC e r ts ls ++ F) h →
    ∃ ψ, Sub φ ψ ∧ (∀ (i : Nat) t l, ts[i]? = some t → ls[i]? = some l → Ro.SliceIs r ψ t l) ∧ St ψ F h := by
  intro ts
  induction ts with
  | nil =>
    intro ls φ h F hl H
    cases ls with
    | nil => exact ⟨φ, Sub.refl _, fun i t l h => by simp at h, H⟩
    | cons _ _ => cases hl
  | cons t ts ih =>
    intro ls φ h F hl H
    cases ls with
    | nil => cases hl
    | cons l ls =>
      obtain ⟨ψ1, le1, k1, s1⟩ := St.freezeRow (t := t) H
      obtain ⟨ψ2, le2, k2, s2⟩ := ih (by simpa using hl) s1
      refine ⟨ψ2, le1.trans le2, fun i t' l' h1 h2 => ?_, s2⟩
      cases i with
      | zero =>
        simp only [List.getElem?_cons_zero, Option.some.injEq] at h1 h2
        subst h1 h2
        exact k1.mono le2
      | succ i => exact k2 i t' l' (by simpa using h1) (by simpa using h2)
section
variable {P : Program} {Q : Leaf → Heap → Prop} {h : Heap} {φ ψ : Snap} {Γ : List Chk}
/-- One thing of a row that stays. -/
theorem g_get {a : Atom} {t : Slc} {l : List a.Ty} {i : Int} {x : a.Ty} {K : a.Ty → T} (k : Ro.SliceIs (Ro.atom a) φ t l) (hx : idx l i = some x) (hs : Sub φ (snap h)) (hK : (K x).wp P Q h) :
    (deref t.1 fun A => chk (0 ≤ i ∧ i < (t.2.1 : Nat)) <| T.load a (A.add (Int.toNat i * 1)) K).wp P Q h := by
  obtain ⟨A1, cs, ea, hi, r1, cl⟩ := k.get hx
  refine t_deref _ ea (t_chk hi ?_)
  obtain rfl : cs = [a.val x] := r1
  exact s_load (x := x) (cellS_heap hs (cl 0 _ rfl)) rfl hK
/-- One row of rows that stay. -/
theorem g_getS {α : Type} {r : Ro α} {t : Slc} {l : List (List α)} {i : Int} {x : List α} {K : Slc → T} (k : Ro.SliceIs (Ro.list r) φ t l) (hx : idx l i = some x) (hs : Sub φ (snap h)) (hK : ∀ u, Ro.SliceIs r φ u x → (K u).wp P Q h) :
    (deref t.1 fun A => chk (0 ≤ i ∧ i < (t.2.1 : Nat)) <| T.load .slice (A.add (Int.toNat i * 1)) K).wp P Q h := by
  obtain ⟨A1, cs, ea, hi, r1, cl⟩ := k.get hx
  refine t_deref _ ea (t_chk hi ?_)
  obtain ⟨u, rfl, ku⟩ := r1
  exact s_load (x := u) (cellS_heap hs (cl 0 _ rfl)) rfl (hK u ku)
/-- One thing of a row of one's own. -/
theorem g_getO {a : Atom} {ty : TypeId} {t : Slc} {l : List a.Ty} {i : Int} {x : a.Ty} {K : a.Ty → T} (H : St φ (cR ty (Ro.atom a) t l :: Γ) h) (hx : idx l i = some x) (hK : (K x).wp P Q h) :
    (deref t.1 fun A => chk (0 ≤ i ∧ i < (t.2.1 : Nat)) <| T.load a (A.add (Int.toNat i * 1)) K).wp P Q h := by
  obtain ⟨A1, cs, ea, hi, r1, cl⟩ := St.get H hx
  refine t_deref _ ea (t_chk hi ?_)
  obtain rfl : cs = [a.val x] := r1
  exact s_load (x := x) (cl 0 _ rfl) rfl hK
end
/-! ## readers: a cell of a thing that stays, told by its place in the thing -/
theorem sb {φ ψ : Snap} (le : Sub φ ψ := by repeat first | exact Sub.refl _ | assumption | refine Sub.trans ?_ (by assumption)) : Sub φ ψ := le
theorem Ro.SliceIs.up {α : Type} {r : Ro α} {φ ψ : Snap} {t : Slc} {l : List α} (k : Ro.SliceIs r φ t l) (le : Sub φ ψ := by repeat first | exact Sub.refl _ | assumption | refine Sub.trans ?_ (by assumption)) : Ro.SliceIs r ψ t l := k.mono le
theorem Pt.up {α : Type} {r : Ro α} {φ ψ : Snap} {p : Option Addr} {x : α} (k : Pt r φ p x) (le : Sub φ ψ := by repeat first | exact Sub.refl _ | assumption | refine Sub.trans ?_ (by assumption)) : Pt r ψ p x := k.mono le
theorem Np.up {α : Type} {r : Ro α} {φ ψ : Snap} {p : Option Addr} {x : Option α} (k : Np r φ p x) (le : Sub φ ψ := by repeat first | exact Sub.refl _ | assumption | refine Sub.trans ?_ (by assumption)) : Np r ψ p x := k.mono le
/-- Cell j of such a thing is of kind a, and what it holds is as R tells. -/
def Lf {α : Type} (ro : Ro α) (j : Nat) (a : Atom) (R : Snap → a.Ty → α → Prop) : Prop := ∀ φ cs x, ro.is φ cs x → ∃ v : a.Ty, cs[j]? = some (a.val v) ∧ R φ v x
theorem Lf.tl {α β : Type} {r0 : Ro β} {ro : Ro α} {j : Nat} {a : Atom} {R : Snap → a.Ty → α → Prop} (L : Lf ro j a R) (hs : r0.sz = 1 := by rfl) : Lf (Ro.prod r0 ro) (j + 1) a (fun φ v x => R φ v x.2) := fun φ cs x h => by
  obtain ⟨c0, c1, rfl, h0, h1⟩ := h
  obtain ⟨v, hv, hR⟩ := L φ c1 x.2 h1
  have hl := r0.len h0
  exact ⟨v, by rw [List.getElem?_append_right (by omega), hl, hs]; exact hv, hR⟩
theorem Lf.hd {α β : Type} {r0 : Ro β} {ro : Ro α} {a : Atom} {R : Snap → a.Ty → β → Prop} (L : Lf r0 0 a R) : Lf (Ro.prod r0 ro) 0 a (fun φ v x => R φ v x.1) := fun φ cs x h => by
  obtain ⟨c0, c1, rfl, h0, h1⟩ := h
  obtain ⟨v, hv, hR⟩ := L φ c0 x.1 h0
  exact ⟨v, by rw [List.getElem?_append_left (List.getElem?_eq_some_iff.1 hv).1]; exact hv, hR⟩
theorem Lf.a (a : Atom) : Lf (Ro.atom a) 0 a (fun _ v x => v = x) := fun φ cs x h => ⟨x, by obtain rfl : cs = _ := h; rfl, rfl⟩
theorem Lf.l {α : Type} (r : Ro α) : Lf (Ro.list r) 0 .slice (fun φ v x => Ro.SliceIs r φ v x) := fun φ cs x h => by
  obtain ⟨t, rfl, k⟩ := h
  exact ⟨t, rfl, k⟩
theorem Lf.p {α : Type} (r : Ro α) : Lf (Ro.at r) 0 .pointer (fun φ v x => Pt r φ v x) := fun φ cs x h => by
  obtain ⟨t, rfl, k⟩ := h
  exact ⟨t, rfl, k⟩
section
variable {P : Program} {Q : Leaf → Heap → Prop} {h : Heap} {φ ψ : Snap} {Γ : List Chk} {α β : Type} {ro : Ro α} {j : Nat} {a : Atom}
theorem ixR {R : Snap → a.Ty → α → Prop} (L : Lf ro j a R) {t : Slc} {l : List α} {i : Int} {f : α → Option β} {r : β} {K : a.Ty → T} (k : Ro.SliceIs ro φ t l) (hd : (idx l i).bind f = some r) (s : St ψ Γ h) (hk : ∀ x v, R φ v x → f x = some r → (K v).wp P Q h) (le : Sub φ ψ := by repeat first | exact Sub.refl _ | assumption | refine Sub.trans ?_ (by assumption)) :
    (deref t.1 fun A => chk (0 ≤ i ∧ i < (t.2.1 : Nat)) <| T.load a ((A.add (Int.toNat i * ro.sz)).add j) K).wp P Q h := by
  obtain ⟨x, hx, hd⟩ := bS hd
  obtain ⟨A, cs, ea, hi, q, cl⟩ := k.get hx
  obtain ⟨v, hv, hR⟩ := L φ cs x q
  exact t_deref _ ea (t_chk hi (s_load (x := v) (by rw [add_add]; exact cellS_heap (le.trans s.sub) (cl j _ hv)) rfl (hk x v hR hd)))
theorem ixR0 {R : Snap → a.Ty → α → Prop} (L : Lf ro 0 a R) {t : Slc} {l : List α} {i : Int} {f : α → Option β} {r : β} {K : a.Ty → T} (k : Ro.SliceIs ro φ t l) (hd : (idx l i).bind f = some r) (s : St ψ Γ h) (hk : ∀ x v, R φ v x → f x = some r → (K v).wp P Q h) (le : Sub φ ψ := by repeat first | exact Sub.refl _ | assumption | refine Sub.trans ?_ (by assumption)) :
    (deref t.1 fun A => chk (0 ≤ i ∧ i < (t.2.1 : Nat)) <| T.load a (A.add (Int.toNat i * ro.sz)) K).wp P Q h := ixR L k hd s hk le
theorem ixS {g : α → a.Ty} (L : Lf ro j a (fun _ v x => v = g x)) {t : Slc} {l : List α} {i : Int} {f : α → Option β} {r : β} {K : a.Ty → T} (k : Ro.SliceIs ro φ t l) (hd : (idx l i).bind f = some r) (s : St ψ Γ h) (hk : ∀ x, f x = some r → (K (g x)).wp P Q h) (le : Sub φ ψ := by repeat first | exact Sub.refl _ | assumption | refine Sub.trans ?_ (by assumption)) :
    (deref t.1 fun A => chk (0 ≤ i ∧ i < (t.2.1 : Nat)) <| T.load a ((A.add (Int.toNat i * ro.sz)).add j) K).wp P Q h := ixR L k hd s (fun x v e hd => by rw [e]; exact hk x hd) le
theorem ixS0 {g : α → a.Ty} (L : Lf ro 0 a (fun _ v x => v = g x)) {t : Slc} {l : List α} {i : Int} {f : α → Option β} {r : β} {K : a.Ty → T} (k : Ro.SliceIs ro φ t l) (hd : (idx l i).bind f = some r) (s : St ψ Γ h) (hk : ∀ x, f x = some r → (K (g x)).wp P Q h) (le : Sub φ ψ := by repeat first | exact Sub.refl _ | assumption | refine Sub.trans ?_ (by assumption)) :
    (deref t.1 fun A => chk (0 ≤ i ∧ i < (t.2.1 : Nat)) <| T.load a (A.add (Int.toNat i * ro.sz)) K).wp P Q h := ixS L k hd s hk le
theorem ioR {ty : TypeId} {R : Snap → a.Ty → α → Prop} (L : Lf ro j a R) {t : Slc} {l : List α} {i : Int} {f : α → Option β} {r : β} {K : a.Ty → T} (s : St φ (cR ty ro t l :: Γ) h) (hd : (idx l i).bind f = some r) (hk : ∀ x v, R φ v x → f x = some r → (K v).wp P Q h) :
    (deref t.1 fun A => chk (0 ≤ i ∧ i < (t.2.1 : Nat)) <| T.load a ((A.add (Int.toNat i * ro.sz)).add j) K).wp P Q h := by
  obtain ⟨x, hx, hd⟩ := bS hd
  obtain ⟨A, cs, ea, hi, q, cl⟩ := s.get hx
  obtain ⟨v, hv, hR⟩ := L φ cs x q
  exact t_deref _ ea (t_chk hi (s_load (x := v) (by rw [add_add]; exact cl j _ hv) rfl (hk x v hR hd)))
theorem ioR0 {ty : TypeId} {R : Snap → a.Ty → α → Prop} (L : Lf ro 0 a R) {t : Slc} {l : List α} {i : Int} {f : α → Option β} {r : β} {K : a.Ty → T} (s : St φ (cR ty ro t l :: Γ) h) (hd : (idx l i).bind f = some r) (hk : ∀ x v, R φ v x → f x = some r → (K v).wp P Q h) :
    (deref t.1 fun A => chk (0 ≤ i ∧ i < (t.2.1 : Nat)) <| T.load a (A.add (Int.toNat i * ro.sz)) K).wp P Q h := ioR L s hd hk
theorem ioS {ty : TypeId} {g : α → a.Ty} (L : Lf ro j a (fun _ v x => v = g x)) {t : Slc} {l : List α} {i : Int} {f : α → Option β} {r : β} {K : a.Ty → T} (s : St φ (cR ty ro t l :: Γ) h) (hd : (idx l i).bind f = some r) (hk : ∀ x, f x = some r → (K (g x)).wp P Q h) :
    (deref t.1 fun A => chk (0 ≤ i ∧ i < (t.2.1 : Nat)) <| T.load a ((A.add (Int.toNat i * ro.sz)).add j) K).wp P Q h := ioR L s hd fun x v e hd => by rw [e]; exact hk x hd
theorem ioS0 {ty : TypeId} {g : α → a.Ty} (L : Lf ro 0 a (fun _ v x => v = g x)) {t : Slc} {l : List α} {i : Int} {f : α → Option β} {r : β} {K : a.Ty → T} (s : St φ (cR ty ro t l :: Γ) h) (hd : (idx l i).bind f = some r) (hk : ∀ x, f x = some r → (K (g x)).wp P Q h) :
    (deref t.1 fun A => chk (0 ≤ i ∧ i < (t.2.1 : Nat)) <| T.load a (A.add (Int.toNat i * ro.sz)) K).wp P Q h := ioS L s hd hk
/-- Things of two, or of three, plain cells. -/
theorem ixA2 {a b : Atom} {t : Slc} {l : List (a.Ty × b.Ty)} {i : Int} {f : a.Ty × b.Ty → Option β} {r : β} {K : a.Ty → b.Ty → T} (k : Ro.SliceIs (Ro.prod (Ro.atom a) (Ro.atom b)) φ t l) (hd : (idx l i).bind f = some r) (s : St ψ Γ h) (hk : ∀ x, f x = some r → (K x.1 x.2).wp P Q h) (le : Sub φ ψ := by repeat first | exact Sub.refl _ | assumption | refine Sub.trans ?_ (by assumption)) :
    (deref t.1 fun A => chk (0 ≤ i ∧ i < (t.2.1 : Nat)) <| T.load a (A.add (Int.toNat i * 2)) fun u => T.load b ((A.add (Int.toNat i * 2)).add 1) fun v => K u v).wp P Q h := by
  obtain ⟨x, hx, hd⟩ := bS hd
  obtain ⟨A, _, ea, hi, ⟨_, _, rfl, rfl, rfl⟩, cl⟩ := k.get hx
  exact t_deref _ ea (t_chk hi (s_load (x := x.1) (cellS_heap (le.trans s.sub) (cl 0 _ rfl)) rfl (s_load (x := x.2) (by rw [add_add]; exact cellS_heap (le.trans s.sub) (cl 1 _ rfl)) rfl (hk x hd))))
theorem ixA3 {a b c : Atom} {t : Slc} {l : List (a.Ty × b.Ty × c.Ty)} {i : Int} {f : a.Ty × b.Ty × c.Ty → Option β} {r : β} {K : a.Ty → b.Ty → c.Ty → T} (k : Ro.SliceIs (Ro.prod (Ro.atom a) (Ro.prod (Ro.atom b) (Ro.atom c))) φ t l) (hd : (idx l i).bind f = some r) (s : St ψ Γ h) (hk : ∀ x, f x = some r → (K x.1 x.2.1 x.2.2).wp P Q h) (le : Sub φ ψ := by repeat first | exact Sub.refl _ | assumption | refine Sub.trans ?_ (by assumption)) :
    (deref t.1 fun A => chk (0 ≤ i ∧ i < (t.2.1 : Nat)) <| T.load a (A.add (Int.toNat i * 3)) fun u => T.load b ((A.add (Int.toNat i * 3)).add 1) fun v => T.load c ((A.add (Int.toNat i * 3)).add 2) fun w => K u v w).wp P Q h := by
  obtain ⟨x, hx, hd⟩ := bS hd
  obtain ⟨A, _, ea, hi, ⟨_, _, rfl, rfl, ⟨_, _, rfl, rfl, rfl⟩⟩, cl⟩ := k.get hx
  have q := fun j v hv => cellS_heap (le.trans s.sub) (cl j v hv)
  exact t_deref _ ea (t_chk hi (s_load (x := x.1) (q 0 _ rfl) rfl (s_load (x := x.2.1) (by rw [add_add]; exact q 1 _ rfl) rfl (s_load (x := x.2.2) (by rw [add_add]; exact q 2 _ rfl) rfl (hk x hd)))))
theorem ioA2 {ty : TypeId} {a b : Atom} {t : Slc} {l : List (a.Ty × b.Ty)} {i : Int} {f : a.Ty × b.Ty → Option β} {r : β} {K : a.Ty → b.Ty → T} (s : St φ (cR ty (Ro.prod (Ro.atom a) (Ro.atom b)) t l :: Γ) h) (hd : (idx l i).bind f = some r) (hk : ∀ x, f x = some r → (K x.1 x.2).wp P Q h) :
    (deref t.1 fun A => chk (0 ≤ i ∧ i < (t.2.1 : Nat)) <| T.load a (A.add (Int.toNat i * 2)) fun u => T.load b ((A.add (Int.toNat i * 2)).add 1) fun v => K u v).wp P Q h := by
  obtain ⟨x, hx, hd⟩ := bS hd
  obtain ⟨A, _, ea, hi, ⟨_, _, rfl, rfl, rfl⟩, cl⟩ := s.get hx
  exact t_deref _ ea (t_chk hi (s_load (x := x.1) (cl 0 _ rfl) rfl (s_load (x := x.2) (by rw [add_add]; exact cl 1 _ rfl) rfl (hk x hd))))
theorem ioA3 {ty : TypeId} {a b c : Atom} {t : Slc} {l : List (a.Ty × b.Ty × c.Ty)} {i : Int} {f : a.Ty × b.Ty × c.Ty → Option β} {r : β} {K : a.Ty → b.Ty → c.Ty → T} (s : St φ (cR ty (Ro.prod (Ro.atom a) (Ro.prod (Ro.atom b) (Ro.atom c))) t l :: Γ) h) (hd : (idx l i).bind f = some r) (hk : ∀ x, f x = some r → (K x.1 x.2.1 x.2.2).wp P Q h) :
    (deref t.1 fun A => chk (0 ≤ i ∧ i < (t.2.1 : Nat)) <| T.load a (A.add (Int.toNat i * 3)) fun u => T.load b ((A.add (Int.toNat i * 3)).add 1) fun v => T.load c ((A.add (Int.toNat i * 3)).add 2) fun w => K u v w).wp P Q h := by
  obtain ⟨x, hx, hd⟩ := bS hd
  obtain ⟨A, _, ea, hi, ⟨_, _, rfl, rfl, ⟨_, _, rfl, rfl, rfl⟩⟩, cl⟩ := s.get hx
  exact t_deref _ ea (t_chk hi (s_load (x := x.1) (cl 0 _ rfl) rfl (s_load (x := x.2.1) (by rw [add_add]; exact cl 1 _ rfl) rfl (s_load (x := x.2.2) (by rw [add_add]; exact cl 2 _ rfl) rfl (hk x hd)))))
/-- Things of one cell. -/
theorem gx {t : Slc} {l : List a.Ty} {i : Int} {f : a.Ty → Option β} {r : β} {K : a.Ty → T} (k : Ro.SliceIs (Ro.atom a) φ t l) (hd : (idx l i).bind f = some r) (s : St ψ Γ h) (hk : ∀ x, f x = some r → (K x).wp P Q h) (le : Sub φ ψ := by repeat first | exact Sub.refl _ | assumption | refine Sub.trans ?_ (by assumption)) :
    (deref t.1 fun A => chk (0 ≤ i ∧ i < (t.2.1 : Nat)) <| T.load a (A.add (Int.toNat i * 1)) K).wp P Q h := by
  obtain ⟨x, hx, hd⟩ := bS hd
  exact g_get k hx (le.trans s.sub) (hk x hd)
theorem gxS {rr : Ro α} {t : Slc} {l : List (List α)} {i : Int} {f : List α → Option β} {r : β} {K : Slc → T} (k : Ro.SliceIs (Ro.list rr) φ t l) (hd : (idx l i).bind f = some r) (s : St ψ Γ h) (hk : ∀ x u, Ro.SliceIs rr φ u x → f x = some r → (K u).wp P Q h) (le : Sub φ ψ := by repeat first | exact Sub.refl _ | assumption | refine Sub.trans ?_ (by assumption)) :
    (deref t.1 fun A => chk (0 ≤ i ∧ i < (t.2.1 : Nat)) <| T.load .slice (A.add (Int.toNat i * 1)) K).wp P Q h := by
  obtain ⟨x, hx, hd⟩ := bS hd
  exact g_getS k hx (le.trans s.sub) fun u ku => hk x u ku hd
theorem gxO {ty : TypeId} {t : Slc} {l : List a.Ty} {i : Int} {f : a.Ty → Option β} {r : β} {K : a.Ty → T} (s : St φ (cR ty (Ro.atom a) t l :: Γ) h) (hd : (idx l i).bind f = some r) (hk : ∀ x, f x = some r → (K x).wp P Q h) :
    (deref t.1 fun A => chk (0 ≤ i ∧ i < (t.2.1 : Nat)) <| T.load a (A.add (Int.toNat i * 1)) K).wp P Q h := by
  obtain ⟨x, hx, hd⟩ := bS hd
  exact g_getO s hx (hk x hd)
/-- A field behind a pointer to what stays. -/
theorem pfR {R : Snap → a.Ty → α → Prop} (L : Lf ro j a R) {p : Option Addr} {x : α} {K : a.Ty → T} (k : Pt ro φ p x) (s : St ψ Γ h) (hk : ∀ v, R φ v x → (K v).wp P Q h) (le : Sub φ ψ := by repeat first | exact Sub.refl _ | assumption | refine Sub.trans ?_ (by assumption)) : (deref p fun A => T.load a (A.add j) K).wp P Q h := by
  obtain ⟨A, vs, e, q, hc⟩ := k
  obtain ⟨v, hv, hR⟩ := L φ vs x q
  exact t_deref _ e (s_load (x := v) (cellS_heap (le.trans s.sub) (hc.at j hv)) rfl (hk v hR))
theorem pfR0 {R : Snap → a.Ty → α → Prop} (L : Lf ro 0 a R) {p : Option Addr} {x : α} {K : a.Ty → T} (k : Pt ro φ p x) (s : St ψ Γ h) (hk : ∀ v, R φ v x → (K v).wp P Q h) (le : Sub φ ψ := by repeat first | exact Sub.refl _ | assumption | refine Sub.trans ?_ (by assumption)) : (deref p fun A => T.load a A K).wp P Q h := pfR L k s hk le
theorem pfS {g : α → a.Ty} (L : Lf ro j a (fun _ v x => v = g x)) {p : Option Addr} {x : α} {K : a.Ty → T} (k : Pt ro φ p x) (s : St ψ Γ h) (hk : (K (g x)).wp P Q h) (le : Sub φ ψ := by repeat first | exact Sub.refl _ | assumption | refine Sub.trans ?_ (by assumption)) : (deref p fun A => T.load a (A.add j) K).wp P Q h := pfR L k s (fun v e => by rw [e]; exact hk) le
theorem pfS0 {g : α → a.Ty} (L : Lf ro 0 a (fun _ v x => v = g x)) {p : Option Addr} {x : α} {K : a.Ty → T} (k : Pt ro φ p x) (s : St ψ Γ h) (hk : (K (g x)).wp P Q h) (le : Sub φ ψ := by repeat first | exact Sub.refl _ | assumption | refine Sub.trans ?_ (by assumption)) : (deref p fun A => T.load a A K).wp P Q h := pfS L k s hk le
theorem calls_den {f : FuncId} {fn : Func} {args : List Value} {R : Fin → Heap → Prop} {t : T} (hm : P.follows .mixedOrders = true) (hf : P.funcs[f]? = some fn) (hd : denFun P fn args = t) (H : t.wp P (finOf R) h) : CallsH P f args h R := calls_of hm hf (by rw [hd]; exact H)
/-- A plan's six slices. -/
theorem s_new6 {t : Slc × Slc × Slc × Slc × Slc × Slc × Unit} {ty : TypeId} {k : Nat → T} (H : St φ Γ h) (hk : ∀ r h', St φ (cW ty r [sv t.1, sv t.2.1, sv t.2.2.1, sv t.2.2.2.1, sv t.2.2.2.2.1, sv t.2.2.2.2.2.1] :: Γ) h' → (k r).wp P Q h') : (T.new (.cells #[.slice t.1.1 t.1.2.1 t.1.2.2, .slice t.2.1.1 t.2.1.2.1 t.2.1.2.2, .slice t.2.2.1.1 t.2.2.1.2.1 t.2.2.1.2.2, .slice t.2.2.2.1.1 t.2.2.2.1.2.1 t.2.2.2.1.2.2, .slice t.2.2.2.2.1.1 t.2.2.2.2.1.2.1 t.2.2.2.2.1.2.2, .slice t.2.2.2.2.2.1.1 t.2.2.2.2.2.1.2.1 t.2.2.2.2.2.1.2.2] ty (0, 0)) k).wp P Q h :=
  s_new (vs := [sv t.1, sv t.2.1, sv t.2.2.1, sv t.2.2.2.1, sv t.2.2.2.2.1, sv t.2.2.2.2.2.1]) H hk
theorem s_load6 {t : Slc × Slc × Slc × Slc × Slc × Slc × Unit} {ty : TypeId} {b : Nat} {K : Slc → Slc → Slc → Slc → Slc → Slc → T} (H : St φ (⟨Rep.raw ty, [.pointer (some ⟨b, 0, none⟩)], [sv t.1, sv t.2.1, sv t.2.2.1, sv t.2.2.2.1, sv t.2.2.2.2.1, sv t.2.2.2.2.2.1]⟩ :: Γ) h) (hk : (K t.1 t.2.1 t.2.2.1 t.2.2.2.1 t.2.2.2.2.1 t.2.2.2.2.2.1).wp P Q h) :
    (T.load .slice ⟨b, 0, none⟩ fun t0 => T.load .slice ⟨b, 1, none⟩ fun t1 => T.load .slice ⟨b, 2, none⟩ fun t2 => T.load .slice ⟨b, 3, none⟩ fun t3 => T.load .slice ⟨b, 4, none⟩ fun t4 => T.load .slice ⟨b, 5, none⟩ fun t5 => K t0 t1 t2 t3 t4 t5).wp P Q h :=
  s_loadR (x := t.1) H rfl (s_loadR (x := t.2.1) H rfl (s_loadR (x := t.2.2.1) H rfl (s_loadR (x := t.2.2.2.1) H rfl (s_loadR (x := t.2.2.2.2.1) H rfl (s_loadR (x := t.2.2.2.2.2.1) H rfl hk)))))
end
/-- A function value that is known is called. -/
theorem s_callV {P : Program} {Q : Leaf → Heap → Prop} {h : Heap} {f : FuncId} {fn : Func} {first cap args : Array Value} {sh : Sh} {k : Value → T} (hf : P.funcs[f]? = some fn) (hn : (fn.name == "runtime.NumGoroutine") = false) (hb : fn.body.isNone = false) (hsh : resSh P fn = sh)
    (H : (T.call f ((first ++ args) ++ cap).toList sh fun x => k (sh.val x)).wp P Q h) : (callV false P (.func (.func f) first cap) args k).wp P Q h := by
  subst hsh
  unfold callV
  simp only [hf, hn, hb]
  exact H
/-- A row is cut: what lies behind is capacity. -/
theorem St.rowTake {α : Type} {φ : Snap} {h : Heap} {Γ : List Chk} {ty : TypeId} {r : Ro α} {t : Slc} {l : List α} (H : St φ (⟨Rep.row ty r, [.slice t.1 t.2.1 t.2.2], l⟩ :: Γ) h) {k : Nat} (hk : k ≤ l.length) :
    St φ (⟨Rep.row ty r, [.slice t.1 k t.2.2], l.take k⟩ :: Γ) h := by
  obtain ⟨F, ⟨p, n, c, vs, e, hn, hc, hfu, ho, hall, hF⟩, h2, H⟩ := H
  have hn : l.length = n := hn
  simp only [List.cons.injEq, Value.slice.injEq, and_true] at e
  obtain ⟨e1, e2, e3⟩ := e
  refine ⟨F, ⟨p, k, c, vs.take (k * r.sz), by rw [e1, e3], by rw [List.length_take]; omega, hc, hfu, ?_, hall.take k, hF⟩, h2, H⟩
  rcases ho with ⟨hp, hn0, hc0, hv0⟩ | ⟨b, off, arr, hp, hb0, g1, g2, g3, g4⟩
  · exact .inl ⟨hp, by omega, hc0, by rw [hv0]; exact List.take_nil⟩
  · refine .inr ⟨b, off, arr, hp, hb0, ?_, by omega, g3, fun i v hv => ?_⟩
    · rw [List.length_take, g1]
      exact Nat.min_eq_left (Nat.mul_le_mul_right _ (by omega))
    · rw [List.getElem?_take] at hv
      split at hv
      · exact g4 i v hv
      · cases hv
/-- A piece is put away: it stays as it is. -/
theorem St.hide {φ : Snap} {h : Heap} {c : Chk} {Γ : List Chk} (H : St φ (c :: Γ) h) : ∃ (ψ : Snap) (F : Foot), Sub φ ψ ∧ c.on φ h F ∧ (∀ k, F k → ψ k = h[k]?) ∧ St ψ Γ h := by
  classical
  obtain ⟨F, h1, h2, H⟩ := H
  have hs := H.sub
  have le : Sub φ (fun i => if F i then h[i]? else φ i) := fun i o ho => by
    show (if F i then h[i]? else φ i) = some o
    rw [if_neg]
    · exact ho
    · intro hF; have e := (h2 i hF).1; rw [e] at ho; cases ho
  refine ⟨fun i => if F i then h[i]? else φ i, F, le, h1, fun i hi => if_pos hi, ?_⟩
  refine StX.less (StX.grow H le (fun i o ho => ?_) fun k hk hn => ?_) fun k hk => hk.elim
  · split at ho
    · exact ho
    · exact hs i o ho
  · split at hk
    · exact .inr (by assumption)
    · exact absurd hn hk
/-- A block that is never written again. -/
theorem St.blk {φ : Snap} {h : Heap} {F : List Chk} {ty : TypeId} {b : Nat} {vs : List Value} (H : St φ (⟨Rep.raw ty, [.pointer (some ⟨b, 0, none⟩)], vs⟩ :: F) h) : ∃ ψ, Sub φ ψ ∧ CellsS ψ (some ⟨b, 0, none⟩) vs ∧ St ψ F h := by
  obtain ⟨ψ, G, le, ⟨b', e, hb, hF⟩, hk, s⟩ := St.hide H
  cases e
  refine ⟨ψ, le, fun i v hv => ⟨_, rfl, ?_⟩, s⟩
  have := hk b ((hF b).2 rfl)
  rw [add_mk]
  unfold cellS
  dsimp only
  rw [this, hb]
  dsimp only
  rw [Nat.zero_add]
  simp [hv]
end Go.Eng
