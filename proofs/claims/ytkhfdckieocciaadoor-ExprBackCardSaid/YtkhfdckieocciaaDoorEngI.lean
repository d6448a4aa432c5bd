/-
  THE ENGINE, PART I: the tree of a piece of code, and of a function; what it promises the function does.
  Conditions: the program follows 'mixedOrders' (each loaded program of the kit does).
-/
import Derived.Test.YtkhfdckieocciaaDoorEngH
import Derived.Scope
namespace Go.Eng
open Go

def writes : Code → List Nat
  | .region _ ops _ => ops.toList.filterMap (·.dst)
  | .seq x y => writes x ++ writes y
  | .cond _ x y => writes x ++ writes y
  | .block _ x => writes x
  | .loop x => writes x
  | .scope x => writes x
  | _ => []
/-- May a piece of code come to its own end? (That a piece is asked here changes how its tree is laid out, not what it promises.) -/
def exits (id : Nat) : Code → Bool
  | .seq x y => exits id x || exits id y
  | .cond _ x y => exits id x || exits id y
  | .block _ x => exits id x
  | .loop x => exits id x
  | .scope x => exits id x
  | .exit j => Nat.beq j id
  | _ => false
def falls : Code → Bool
  | .seq x y => falls x && falls y
  | .cond _ x y => falls x || falls y
  | .block id x => falls x || exits id x
  | .scope x => falls x
  | .loop _ => false
  | .exit _ => false
  | .ret => false
  | _ => true
/-- Does a piece of code hold nothing? -/
def empty : Code → Bool
  | .skip => true
  | _ => false

def Env.kill (e : Env) (W : List Nat) : Env := e.filter fun p => !W.contains p.1
def Env.puts (e : Env) (S : List Nat) (vs : List Value) : Env := S.zip vs ++ e
def Env.outs (e : Env) (S : List Nat) : List Value := S.map fun t => (e.get? t).getD undef
/-- The slots that are known and may be written: those that a join hands on. -/
def Env.slots (e : Env) (W : List Nat) : List Nat := ((e.map (·.1)).filter W.contains).eraseDups
def Env.shapes (e : Env) (S : List Nat) : List Sh1 := (e.outs S).map sh1Of

/-- What a region with guards hands on: what it assigns, and what its last operation yields. -/
def regionOuts (P : Program) (ops : Array Oper) : List (Nat × Sh1) :=
  ops.toList.zipIdx.filterMap fun (o, i) => match o.dst with
    | some d => match o.op, Nat.beq (i + 1) ops.size with
      | .assign _, _ => some (d, sh1Of (zeroOf P o.type))
      | _, true => some (d, sh1Of (zeroOf P o.type))
      | _, _ => none
    | none => none

def denCode (P : Program) (rt : Env → T) : Code → List (Nat × List Nat) → Env → (Env → T) → T
  | .skip, _, e, k => k e
  | .region _ ops draw, _, e, k => match guardsOf ops with
    | [] => denRegion P ops draw e k
    | _ => .join ((regionOuts P ops).map (·.2)) (denRegion P ops draw e fun e' => .out (e'.outs ((regionOuts P ops).map (·.1)))) fun y =>
        k ((e.kill (ops.toList.filterMap (·.dst))).puts ((regionOuts P ops).map (·.1)) (Shs.vals _ y))
  | .seq x y, c, e, k => denCode P rt x c e fun e' => denCode P rt y c e' k
  | .cond b x y, c, e, k => bif e.has b then (match e.ev b with
      | .bool t => match falls x && falls y && !(empty x && empty y) with
        | true =>
          .join (e.shapes (e.slots (writes x ++ writes y)))
            (cond t (denCode P rt x c e fun e' => .out (e'.outs (e.slots (writes x ++ writes y)))) (denCode P rt y c e fun e' => .out (e'.outs (e.slots (writes x ++ writes y))))) fun z =>
            k ((e.kill (writes x ++ writes y)).puts (e.slots (writes x ++ writes y)) (Shs.vals _ z))
        | false => cond t (denCode P rt x c e k) (denCode P rt y c e k)
      | _ => .stuck) else .stuck
  | .block id x, c, e, k => match exits id x with
    | false => denCode P rt x (c.filter fun p => !Nat.beq p.1 id) e k
    | true => .block id (e.shapes (e.slots (writes x)))
        (denCode P rt x ((id, e.slots (writes x)) :: c) e fun e' => .out (e'.outs (e.slots (writes x)))) fun z =>
        k ((e.kill (writes x)).puts (e.slots (writes x)) (Shs.vals _ z))
  | .loop x, c, e, _ => .loop (e.shapes (e.slots (writes x))) (e.outs (e.slots (writes x))) fun z =>
      denCode P rt x c ((e.kill (writes x)).puts (e.slots (writes x)) (Shs.vals _ z)) fun e' => .out (e'.outs (e.slots (writes x)))
  | .exit id, c, e, _ => match c.find? fun p => Nat.beq p.1 id with
    | some p => .brk id (e.outs p.2)
    | none => .stuck
  | .ret, _, e, _ => rt e
  | .scope x, c, e, k => denCode P rt x c e k
  | .label _, _, e, k => k e
  | _, _, _, _ => .stuck

section
variable {P : Program}

theorem sh1_undef (s : Sh1) : s.of undef = none := by
  cases s with
  | atom a => cases a <;> rfl
  | agg l => rfl

/-- What a leaf hands on is there. -/
theorem outs_spec {e : Env} {tm : Array Value} (hag : Agrees e tm) : ∀ (S : List Nat) (ss : List Sh1) (y : Shs.Ty ss), Shs.of ss (e.outs S) = some y →
    S.map (fun t => tm[t]?) = (Shs.vals ss y).map some := by
  intro S
  induction S with
  | nil =>
    intro ss y h
    cases ss with
    | nil => rfl
    | cons s r => simp [Env.outs, Shs.of] at h
  | cons t r ih =>
    intro ss y h
    cases ss with
    | nil => simp [Env.outs, Shs.of] at h
    | cons s ss =>
      simp only [Env.outs, List.map_cons, Shs.of] at h
      split at h
      · rename_i x1 y1 h1 h2
        cases h
        cases hg : e.get? t with
        | none => rw [hg] at h1; simp only [Option.getD_none] at h1; rw [sh1_undef] at h1; cases h1
        | some v =>
          rw [hg] at h1
          simp only [Option.getD_some] at h1
          have := hag t v hg
          simp only [List.map_cons, Shs.vals, this, Sh1.of_val s v x1 h1]
          rw [ih ss y1 h2]
      · cases h

theorem kill_get? {e : Env} {W : List Nat} : ∀ {t : Nat} {v : Value}, (e.kill W).get? t = some v → t ∉ W ∧ e.get? t = some v := by
  induction e with
  | nil => intro t v h; simp [Env.kill, Env.get?] at h
  | cons p r ih =>
    obtain ⟨i, u⟩ := p
    intro t v h
    unfold Env.kill at h
    by_cases hi : W.contains i = true
    · rw [List.filter_cons_of_neg (by simpa using hi)] at h
      obtain ⟨h1, h2⟩ := ih h
      refine ⟨h1, ?_⟩
      rw [Env.get?_cons]
      have : i ≠ t := fun e => h1 (e ▸ List.contains_iff_mem.1 hi)
      simp [this, h2]
    · rw [List.filter_cons_of_pos (by simpa using hi)] at h
      rw [Env.get?_cons] at h ⊢
      by_cases hit : i = t
      · subst hit
        simp only [if_true] at h ⊢
        exact ⟨fun hm => hi (List.contains_iff_mem.2 hm), h⟩
      · simp only [hit, if_false] at h ⊢
        exact ih h

theorem agrees_kill {e : Env} {a a' : Act} {W : List Nat} (hag : Agrees e a.tmps) (hf : Fr W a a') : Agrees (e.kill W) a'.tmps := by
  intro t v h
  obtain ⟨h1, h2⟩ := kill_get? h
  rw [hf.2.2 t h1]
  exact hag t v h2

theorem agrees_puts {e : Env} {tm : Array Value} (hag : Agrees e tm) : ∀ (S : List Nat) (vs : List Value), S.map (fun t => tm[t]?) = vs.map some → Agrees (e.puts S vs) tm := by
  intro S
  induction S with
  | nil => intro vs h; simpa [Env.puts] using hag
  | cons t r ih =>
    intro vs h
    cases vs with
    | nil => simp at h
    | cons v vs =>
      simp only [List.map_cons, List.cons.injEq] at h
      intro t' v' hg
      simp only [Env.puts, List.zip_cons_cons, List.cons_append, Env.get?_cons] at hg
      by_cases ht : t = t'
      · subst ht
        simp only [if_true, Option.some.injEq] at hg
        subst hg
        exact h.1
      · simp only [ht, if_false] at hg
        exact ih vs h.2 t' v' hg

/-- Behind a join: what is known. -/
theorem agrees_join {e e' : Env} {a a' : Act} {W S : List Nat} {ss : List Sh1} {y : Shs.Ty ss} (hag : Agrees e a.tmps) (hf : Fr W a a') (hag' : Agrees e' a'.tmps) (hy : Shs.of ss (e'.outs S) = some y) :
    Agrees ((e.kill W).puts S (Shs.vals ss y)) a'.tmps := agrees_puts (agrees_kill hag hf) S _ (outs_spec hag' S ss y hy)

theorem map_getD {tm : Array Value} : ∀ (S : List Nat) (vs : List Value), S.map (fun t => tm[t]?) = vs.map some → S.map (fun t => tm.getD t undef) = vs := by
  intro S
  induction S with
  | nil => intro vs h; cases vs <;> simp_all
  | cons t r ih =>
    intro vs h
    cases vs with
    | nil => simp at h
    | cons v vs =>
      simp only [List.map_cons, List.cons.injEq] at h ⊢
      refine ⟨?_, ih vs h.2⟩
      rw [Array.getD_eq_getD_getElem?, h.1]
      rfl

structure Ends (P : Program) (rt : Env → T) (c : List (Nat × List Nat)) (QT : Leaf → Heap → Prop) (W : List Nat) (a : Act) (w : World) (QC : Exit → Act → World → Prop) : Prop where
  brk : ∀ id p, c.find? (fun p => Nat.beq p.1 id) = some p → ∀ e' a' w', Agrees e' a'.tmps → Fr W a a' → Same w w' → QT (.brk id (e'.outs p.2)) w'.heap → QC (.exit id) a' w'
  ret : ∀ e' a' w', Agrees e' a'.tmps → Fr W a a' → Same w w' → (rt e').wp P QT w'.heap → QC .ret a' w'
  pan : ∀ ch a' w', Fr W a a' → Same w w' → QT (.pan ch) w'.heap → QC (.panic ch) a' w'

theorem Ends.step {rt : Env → T} {c : List (Nat × List Nat)} {QT : Leaf → Heap → Prop} {W W' : List Nat} {a a' : Act} {w w' : World} {QC : Exit → Act → World → Prop} (E : Ends P rt c QT W a w QC)
    (hf : Fr W a a') (hs : Same w w') (hW : ∀ t, t ∈ W' → t ∈ W) : Ends P rt c QT W' a' w' QC :=
  ⟨fun id p hp e2 a2 w2 h1 h2 h3 h4 => E.brk id p hp e2 a2 w2 h1 (hf.trans (h2.mono hW)) (hs.trans h3) h4,
   fun e2 a2 w2 h1 h2 h3 h4 => E.ret e2 a2 w2 h1 (hf.trans (h2.mono hW)) (hs.trans h3) h4,
   fun ch a2 w2 h2 h3 h4 => E.pan ch a2 w2 (hf.trans (h2.mono hW)) (hs.trans h3) h4⟩

/-- A tree that only comes back. -/
def Rets (P : Program) (rt : Env → T) : Prop := ∀ (e : Env) (Q Q' : Leaf → Heap → Prop) (h : Heap), (∀ v h, Q (.ret v) h → Q' (.ret v) h) → (rt e).wp P Q h → (rt e).wp P Q' h

theorem Ends.inner {rt : Env → T} {c : List (Nat × List Nat)} {QT QT' : Leaf → Heap → Prop} {W : List Nat} {a : Act} {w : World} {QC : Exit → Act → World → Prop} (E : Ends P rt c QT W a w QC) (hrt : Rets P rt)
    (hb : ∀ id vs h, QT' (.brk id vs) h → QT (.brk id vs) h) (hr : ∀ v h, QT' (.ret v) h → QT (.ret v) h) (hp : ∀ v h, QT' (.pan v) h → QT (.pan v) h) : Ends P rt c QT' W a w QC :=
  ⟨fun id p hf e2 a2 w2 h1 h2 h3 h4 => E.brk id p hf e2 a2 w2 h1 h2 h3 (hb _ _ _ h4),
   fun e2 a2 w2 h1 h2 h3 h4 => E.ret e2 a2 w2 h1 h2 h3 (hrt e2 _ _ _ hr h4),
   fun ch a2 w2 h2 h3 h4 => E.pan ch a2 w2 h2 h3 (hp _ _ h4)⟩

theorem find_filter {c : List (Nat × List Nat)} {id id' : Nat} {p : Nat × List Nat} (h : (c.filter fun p => !Nat.beq p.1 id).find? (fun p => Nat.beq p.1 id') = some p) :
    id' ≠ id ∧ c.find? (fun p => Nat.beq p.1 id') = some p := by
  have hm := List.mem_of_find?_eq_some h
  have hp := List.find?_some h
  rw [List.mem_filter] at hm
  have e1 : p.1 = id' := Nat.eq_of_beq_eq_true hp
  have e2 : p.1 ≠ id := fun e => by have := hm.2; rw [e] at this; simp at this
  have hne : id' ≠ id := e1 ▸ e2
  refine ⟨hne, ?_⟩
  clear hm hp
  induction c with
  | nil => simp at h
  | cons x r ih =>
    by_cases hx : x.1 = id
    · have : (!Nat.beq x.1 id) = false := by rw [hx]; simp
      rw [List.filter_cons_of_neg (by simp [this])] at h
      rw [List.find?_cons]
      have hx' : Nat.beq x.1 id' = false := by
        cases hb : Nat.beq x.1 id' with
        | false => rfl
        | true => exact absurd ((Nat.eq_of_beq_eq_true hb).symm.trans hx) hne
      rw [hx']
      exact ih h
    · have : (!Nat.beq x.1 id) = true := by
        cases hb : Nat.beq x.1 id with
        | false => rfl
        | true => exact absurd (Nat.eq_of_beq_eq_true hb) hx
      rw [List.filter_cons_of_pos (by simp [this])] at h
      rw [List.find?_cons] at h ⊢
      split
      · rename_i hb; rw [hb] at h; exact h
      · rename_i hb; rw [hb] at h; exact ih h

theorem denCode_ok {rt : Env → T} (hm : P.follows .mixedOrders = true) (hrt : Rets P rt) (code : Code) :
    ∀ (c : List (Nat × List Nat)) (e : Env) (k : Env → T) (QT : Leaf → Heap → Prop) (a : Act) (w : World) (QC : Exit → Act → World → Prop),
      Agrees e a.tmps → Bound (writes code) a → (denCode P rt code c e k).wp P QT w.heap →
      (∀ e' a' w', Agrees e' a'.tmps → Fr (writes code) a a' → Same w w' → (k e').wp P QT w'.heap → QC .normal a' w') →
      Ends P rt c QT (writes code) a w QC → code.wp P QC a w := by
  induction code with
  | skip => intro c e k QT a w QC hag hb H hn E; exact wp_skip (hn e a w hag (.refl _ a) (.refl w) H)
  | region id ops draw =>
    intro c e k QT a w QC hag hb H hn E
    have hW : ∀ o ∈ ops, ∀ d, o.dst = some d → d ∈ ops.toList.filterMap (·.dst) := fun o ho d hd => List.mem_filterMap.2 ⟨o, Array.mem_toList_iff.2 ho, hd⟩
    simp only [denCode] at H
    split at H
    · exact denRegion_ok hm hW hag hb H hn (fun ch a' w' => E.pan ch a' w')
    · simp only [T.wp] at H
      refine denRegion_ok hm hW hag hb H (fun e' a' w' h1 h2 h3 h4 => ?_) (fun ch a' w' h1 h2 h3 => E.pan ch a' w' h1 h2 h3)
      simp only [T.wp] at h4
      split at h4
      · rename_i y hy
        exact hn _ a' w' (agrees_join hag h2 h1 hy) h2 h3 h4
      · exact h4.elim
  | seq x y ihx ihy =>
    intro c e k QT a w QC hag hb H hn E
    refine wp_seq (ihx c e _ QT a w _ hag (fun d hd => hb d (List.mem_append_left _ hd)) H (fun e' a' w' h1 h2 h3 h4 => ?_) ?_)
    · have hf : Fr (writes x ++ writes y) a a' := h2.mono fun t ht => List.mem_append_left _ ht
      exact ihy c e' k QT a' w' QC h1 ((show Bound (writes y) a from fun d hd => hb d (List.mem_append_right _ hd)).fr hf) h4
        (fun e2 a2 w2 g1 g2 g3 g4 => hn e2 a2 w2 g1 (hf.trans (g2.mono fun t ht => List.mem_append_right _ ht)) (h3.trans g3) g4)
        (E.step hf h3 fun t ht => List.mem_append_right _ ht)
    · exact ⟨fun id p hp e2 a2 w2 h1 h2 h3 h4 => E.brk id p hp e2 a2 w2 h1 (h2.mono fun t ht => List.mem_append_left _ ht) h3 h4, fun e2 a2 w2 h1 h2 => E.ret e2 a2 w2 h1 (h2.mono fun t ht => List.mem_append_left _ ht), fun ch a2 w2 h2 => E.pan ch a2 w2 (h2.mono fun t ht => List.mem_append_left _ ht)⟩
  | cond b x y ihx ihy =>
    intro c e k QT a w QC hag hb H hn E
    simp only [denCode] at H
    cases hhas : e.has b with
    | false => rw [hhas] at H; exact H.elim
    | true =>
      rw [hhas] at H
      simp only [cond_true] at H
      have hev := hag.ev hhas
      split at H
      · rename_i t ht
        have hc : a.eval b = .bool t := hev.trans ht
        have hbx : Bound (writes x) a := fun d hd => hb d (List.mem_append_left _ hd)
        have hby : Bound (writes y) a := fun d hd => hb d (List.mem_append_right _ hd)
        have hl : ∀ t, t ∈ writes x → t ∈ writes x ++ writes y := fun t ht => List.mem_append_left _ ht
        have hr : ∀ t, t ∈ writes y → t ∈ writes x ++ writes y := fun t ht => List.mem_append_right _ ht
        split at H
        · simp only [T.wp] at H
          refine wp_cond hc ?_
          cases t with
          | true =>
            simp only [cond_true] at H
            simp only [if_true]
            refine ihx c e _ _ a w QC hag hbx H (fun e' a' w' h1 h2 h3 h4 => ?_) ((E.step (.refl _ a) (.refl w) hl).inner hrt (fun _ _ _ h => h) (fun _ _ h => h) (fun _ _ h => h))
            simp only [T.wp] at h4
            split at h4
            · rename_i z hz
              exact hn _ a' w' (agrees_join hag (h2.mono hl) h1 hz) (h2.mono hl) h3 h4
            · exact h4.elim
          | false =>
            simp only [cond_false] at H
            simp only [Bool.false_eq_true, if_false]
            refine ihy c e _ _ a w QC hag hby H (fun e' a' w' h1 h2 h3 h4 => ?_) ((E.step (.refl _ a) (.refl w) hr).inner hrt (fun _ _ _ h => h) (fun _ _ h => h) (fun _ _ h => h))
            simp only [T.wp] at h4
            split at h4
            · rename_i z hz
              exact hn _ a' w' (agrees_join hag (h2.mono hr) h1 hz) (h2.mono hr) h3 h4
            · exact h4.elim
        · refine wp_cond hc ?_
          cases t with
          | true => exact ihx c e k QT a w QC hag hbx H (fun e' a' w' h1 h2 => hn e' a' w' h1 (h2.mono hl)) (E.step (.refl _ a) (.refl w) hl)
          | false => exact ihy c e k QT a w QC hag hby H (fun e' a' w' h1 h2 => hn e' a' w' h1 (h2.mono hr)) (E.step (.refl _ a) (.refl w) hr)
      · exact H.elim
  | block id x ih =>
    intro c e k QT a w QC hag hb H hn E
    simp only [denCode] at H
    refine wp_block ?_
    split at H
    · refine ih _ e k QT a w _ hag hb H hn ⟨fun id' p hp e2 a2 w2 h1 h2 h3 h4 => ?_, E.ret, E.pan⟩
      obtain ⟨hne, hp'⟩ := find_filter hp
      simp only [Exit.inBlock, if_neg hne]
      exact E.brk id' p hp' e2 a2 w2 h1 h2 h3 h4
    · simp only [T.wp] at H
      refine ih _ e _ _ a w _ hag hb H (fun e' a' w' h1 h2 h3 h4 => ?_) ⟨fun id' p hp e2 a2 w2 h1 h2 h3 h4 => ?_, fun e2 a2 w2 h1 h2 h3 h4 => ?_, fun ch a2 w2 h2 h3 h4 => E.pan ch a2 w2 h2 h3 h4⟩
      · simp only [T.wp] at h4
        split at h4
        · rename_i z hz
          exact hn _ a' w' (agrees_join hag h2 h1 hz) h2 h3 h4
        · exact h4.elim
      · rw [List.find?_cons] at hp
        by_cases hid : id' = id
        · subst hid
          have e1 : Nat.beq id' id' = true := by simp
          simp only [e1, Option.some.injEq] at hp
          subst hp
          simp only [e1, cond_true] at h4
          simp only [Exit.inBlock, if_true]
          split at h4
          · rename_i z hz
            exact hn _ a2 w2 (agrees_join hag h2 h1 hz) h2 h3 h4
          · exact h4.elim
        · have e1 : Nat.beq id id' = false := by
            cases hbq : Nat.beq id id' with
            | false => rfl
            | true => exact absurd (Nat.eq_of_beq_eq_true hbq).symm hid
          have e2' : Nat.beq id' id = false := by
            cases hbq : Nat.beq id' id with
            | false => rfl
            | true => exact absurd (Nat.eq_of_beq_eq_true hbq) hid
          simp only [e1] at hp
          simp only [e2', cond_false] at h4
          simp only [Exit.inBlock, if_neg hid]
          exact E.brk id' p hp e2 a2 w2 h1 h2 h3 h4
      · refine E.ret e2 a2 w2 h1 h2 h3 (hrt e2 _ QT w2.heap ?_ h4)
        exact fun _ _ h => h
  | loop x ih =>
    intro c e k QT a w QC hag hb H hn E
    simp only [denCode, T.wp] at H
    obtain ⟨I, μ, ⟨y0, hy0, hI0⟩, hround⟩ := H
    refine wp_loop (fun a' w' => Fr (writes x) a a' ∧ Same w w' ∧ ∃ y, (e.slots (writes x)).map (fun t => a'.tmps[t]?) = (Shs.vals _ y).map some ∧
        Shs.of (e.shapes (e.slots (writes x))) (Shs.vals _ y) = some y ∧ I y w'.heap)
      (fun a' w' => match Shs.of (e.shapes (e.slots (writes x))) ((e.slots (writes x)).map fun t => a'.tmps.getD t undef) with
        | some y => μ y w'.heap
        | none => 0) ?_ ?_
    · exact ⟨.refl _ a, .refl w, y0, outs_spec hag _ _ y0 hy0, by rw [← Shs.of_vals _ _ _ hy0]; exact hy0, hI0⟩
    · rintro a' w' ⟨hf, hs, y, hv, hof, hI⟩
      have hag' : Agrees ((e.kill (writes x)).puts (e.slots (writes x)) (Shs.vals _ y)) a'.tmps := agrees_puts (agrees_kill hag hf) _ _ hv
      refine ih c _ _ _ a' w' _ hag' (Bound.fr hb hf) (hround y w'.heap hI) (fun e2 a2 w2 h1 h2 h3 h4 => ?_) ?_
      · simp only [T.wp] at h4
        split at h4
        · rename_i y2 hy2
          refine ⟨⟨hf.trans h2, hs.trans h3, y2, outs_spec h1 _ _ y2 hy2, by rw [← Shs.of_vals _ _ _ hy2]; exact hy2, h4.1⟩, ?_⟩
          have g1 := map_getD _ _ (outs_spec h1 _ _ y2 hy2)
          have g2 := map_getD _ _ hv
          have g3 : Shs.of (e.shapes (e.slots (writes x))) (Shs.vals _ y2) = some y2 := by rw [← Shs.of_vals _ _ _ hy2]; exact hy2
          simp only [g1, g2, g3, hof]
          exact h4.2
        · exact h4.elim
      · have E' : Ends P rt c QT (writes x) a' w' QC := E.step hf hs fun t ht => ht
        refine ⟨fun id p hp e2 a2 w2 h1 h2 h3 h4 => E'.brk id p hp e2 a2 w2 h1 h2 h3 h4, fun e2 a2 w2 h1 h2 h3 h4 => E'.ret e2 a2 w2 h1 h2 h3 (hrt e2 _ QT w2.heap ?_ h4), fun ch a2 w2 h2 h3 h4 => E'.pan ch a2 w2 h2 h3 h4⟩
        exact fun _ _ h => h
  | exit id =>
    intro c e k QT a w QC hag hb H hn E
    simp only [denCode] at H
    split at H
    · rename_i p hp
      exact wp_exit (E.brk id p hp e a w hag (.refl _ a) (.refl w) H)
    · exact H.elim
  | ret => intro c e k QT a w QC hag hb H hn E; exact wp_ret (E.ret e a w hag (.refl _ a) (.refl w) H)
  | rangeFunc f ps x y ihx ihy => intro c e k QT a w QC hag hb H hn E; exact H.elim
  | scope x ih =>
    intro c e k QT a w QC hag hb H hn E
    exact wp_scope_straight (ih c e k QT a w (Exit.noGoto QC) hag hb H hn ⟨E.brk, E.ret, E.pan⟩)
  | label l => intro c e k QT a w QC hag hb H hn E; exact wp_label (hn e a w hag (.refl _ a) (.refl w) H)
  | goto l => intro c e k QT a w QC hag hb H hn E; exact H.elim
  | refuse s => intro c e k QT a w QC hag hb H hn E; exact H.elim

/-! ## a function -/
def retVals (P : Program) : List ResultVar → Env → List Value → (List Value → T) → T
  | [], _, acc, k => k acc.reverse
  | .tmp t :: r, e, acc, k => match e.get? t with
    | some v => retVals P r e (v :: acc) k
    | none => .stuck
  | .cell a t :: r, e, acc, k => match e.get? a with
    | some (.pointer (some ad)) => denLoad P t ad fun v => retVals P r e (v :: acc) k
    | _ => .stuck
def oneOf : List Value → Value
  | [v] => v
  | vs => .tuple vs.toArray
def retT (P : Program) (fn : Func) (e : Env) : T := retVals P fn.results.toList e [] fun vs => .ret (oneOf vs)

def envOf : Nat → List Value → Env
  | _, [] => []
  | i, v :: r => (i, v) :: envOf (i + 1) r
def denFun (P : Program) (fn : Func) (args : List Value) : T := match fn.body with
  | some c => bif (writes c).all fun d => Nat.blt d fn.ntmps then denCode P (retT P fn) c [] (envOf 0 args) (retT P fn) else .stuck
  | none => .stuck

theorem loadsT_rets (l : List Atom) (a : Addr) {f : Array Value → T} {Q Q' : Leaf → Heap → Prop} (hf : ∀ cs h, (f cs).wp P Q h → (f cs).wp P Q' h) : ∀ (i : Nat) (acc : Array Value) (h : Heap),
    (loadsT l a i acc f).wp P Q h → (loadsT l a i acc f).wp P Q' h := by
  induction l with
  | nil => intro i acc h H; exact hf _ _ H
  | cons s r ih => intro i acc h H; obtain ⟨x, hx, H⟩ := H; exact ⟨x, hx, ih _ _ _ H⟩
theorem denLoad_rets {t : TypeId} {a : Addr} {k : Value → T} {Q Q' : Leaf → Heap → Prop} {h : Heap} (hk : ∀ v h, (k v).wp P Q h → (k v).wp P Q' h) (H : (denLoad P t a k).wp P Q h) : (denLoad P t a k).wp P Q' h := by
  unfold denLoad at H ⊢
  split at H
  · split at H
    · split at H
      · rename_i hlen; simp only [if_pos hlen]; exact loadsT_rets _ _ (fun cs h => hk _ h) _ _ _ H
      · exact H.elim
    · obtain ⟨x, hx, H⟩ := H; exact ⟨x, hx, hk _ _ H⟩
    · exact H.elim
  · exact H.elim

theorem retT_rets (fn : Func) : Rets P (retT P fn) := by
  intro e Q Q' h hq H
  have key : ∀ (l : List ResultVar) (acc : List Value) (h : Heap), (retVals P l e acc fun vs => .ret (oneOf vs)).wp P Q h → (retVals P l e acc fun vs => .ret (oneOf vs)).wp P Q' h := by
    intro l
    induction l with
    | nil => intro acc h H; exact hq _ _ H
    | cons x r ih =>
      intro acc h H
      cases x with
      | tmp t =>
        simp only [retVals] at H ⊢
        split at H
        · exact ih _ _ H
        · exact H.elim
      | cell a t =>
        simp only [retVals] at H ⊢
        split at H
        · exact denLoad_rets (fun v h => ih _ _) H
        · exact H.elim
  exact key _ _ _ H

theorem loads_run (l : List Atom) (a : Addr) {f : Array Value → T} {Q : Leaf → Heap → Prop} (w : World) : ∀ (i : Nat) (acc : Array Value), (loadsT l a i acc f).wp P Q w.heap →
    ∃ cs, (loadCellsFrom a i l.length acc).run P w = .ok cs w ∧ (f cs).wp P Q w.heap := by
  induction l with
  | nil => intro i acc H; exact ⟨acc, rfl, H⟩
  | cons s r ih =>
    intro i acc H
    obtain ⟨x, hx, H⟩ := H
    obtain ⟨cs, h1, h2⟩ := ih (i + 1) _ H
    refine ⟨cs, ?_, h2⟩
    have hx' : w.cell? (a.add i) = some (s.val x) := hx
    simp only [List.length_cons, loadCellsFrom, load, bind, Sem.bind, Sem.run, hx']
    exact h1
theorem run_bind {α β : Type} (s : Sem α) (f : α → Sem β) {w w' : World} {a : α} (h : s.run P w = .ok a w') : (s.bind f).run P w = (f a).run P w' := by
  induction s generalizing w with
  | pure b => cases h; rfl
  | load m ad k ih =>
    simp only [Sem.bind, Sem.run] at h ⊢
    split
    · rename_i v hv; rw [hv] at h; exact ih _ h
    · rename_i hv
      rw [hv] at h
      simp only at h
      split
      · rename_i v t he; rw [he] at h; exact ih _ h
      · rename_i x he; rw [he] at h; cases h
  | store m ad v k ih =>
    cases v <;> simp only [Sem.bind, Sem.run] at h ⊢ <;> first
      | cases h
      | (split <;> rename_i hv <;> rw [hv] at h <;> simp only at h
         · split <;> rename_i hf <;> simp only [hf] at h <;> first
             | (simp only [if_true] at h; cases h)
             | (simp only [Bool.false_eq_true, if_false] at h; exact ih h)
             | exact ih (by simpa using h)
             | simp at h
         · split <;> rename_i he <;> rw [he] at h <;> first | exact ih h | cases h)
  | new o k ih => simp only [Sem.bind, Sem.run] at h ⊢; exact ih _ h
  | shape r k ih => simp only [Sem.bind, Sem.run] at h ⊢; exact ih _ h
  | freeze a n k ih => simp only [Sem.bind, Sem.run] at h ⊢; exact ih h
  | frozen a k ih => simp only [Sem.bind, Sem.run] at h ⊢; exact ih _ h
  | getObj r k ih =>
    simp only [Sem.bind, Sem.run] at h ⊢
    split <;> rename_i hv <;> rw [hv] at h <;> simp only at h <;> first | cases h | exact ih _ h
  | setObj r o k ih =>
    simp only [Sem.bind, Sem.run] at h ⊢
    split <;> rename_i hv <;> rw [hv] at h <;> simp only at h <;> first | cases h | exact ih h
  | choose q k ih =>
    simp only [Sem.bind, Sem.run] at h ⊢
    split <;> rename_i hv <;> simp only [hv] at h
    · exact ih _ (by simpa using h)
    · exact ih _ (by simpa using h)
  | sys c k ih => simp only [Sem.bind, Sem.run] at h ⊢; exact ih _ h
  | program k ih => simp only [Sem.bind, Sem.run] at h ⊢; exact ih _ h
  | mark m k ih => simp only [Sem.bind, Sem.run] at h ⊢; exact ih h
  | halt x => simp only [Sem.run] at h; cases h

theorem loadVar_run {t : TypeId} {a : Addr} {k : Value → T} {Q : Leaf → Heap → Prop} (w : World) (H : (denLoad P t a k).wp P Q w.heap) :
    ∃ v, (loadVar t a).run P w = .ok v w ∧ (k v).wp P Q w.heap := by
  unfold denLoad at H
  split at H
  · rename_i d i hd hi
    have e1 : (isAgg t).run P w = .ok (isAggD d) w := by
      simp only [isAgg, underlying, program, bind, Sem.bind, hd, pure, Sem.run]
      cases d <;> rfl
    have e2 : (Go.sizeOf t).run P w = .ok i.size w := by simp only [Go.sizeOf, typeInfo, program, bind, Sem.bind, hi, pure, Sem.run]
    split at H
    · rename_i l hag hsh
      split at H
      · rename_i hlen
        obtain ⟨cs, h1, h2⟩ := loads_run l a w 0 #[] H
        refine ⟨.agg cs, ?_, h2⟩
        unfold loadVar
        refine (run_bind _ _ e1).trans ?_
        rw [hag]
        simp only [if_true]
        refine (run_bind _ _ e2).trans ?_
        rw [← hlen]
        exact (run_bind _ _ h1).trans rfl
      · exact H.elim
    · rename_i s hag hsh
      obtain ⟨x, hx, H⟩ := H
      refine ⟨s.val x, ?_, H⟩
      unfold loadVar
      refine (run_bind _ _ e1).trans ?_
      rw [hag]
      have hx' : w.cell? a = some (s.val x) := hx
      simp only [Bool.false_eq_true, if_false, load, Sem.run, hx']
    · exact H.elim
  · exact H.elim

/-- How one result variable is read. -/
def readVar (tmps : Array Value) : ResultVar → Sem Value
  | .tmp t => pure (tmps.getD t undef)
  | .cell a t => do loadVar t (← asAddr (tmps.getD a undef))
theorem results_eq (fn : Func) (tmps : Array Value) : results fn tmps = (fn.results.mapM (readVar tmps)).bind fun vs => .pure (if h : vs.size = 1 then vs[0] else .tuple vs) := rfl

theorem retT_ok {fn : Func} {e : Env} {a : Act} {w : World} {QT : Leaf → Heap → Prop} (hag : Agrees e a.tmps) (H : (retT P fn e).wp P QT w.heap) :
    ∃ v, (results fn a.tmps).run P w = .ok v w ∧ QT (.ret v) w.heap := by
  have key : ∀ (l : List ResultVar) (acc : List Value), (retVals P l e acc fun vs => .ret (oneOf vs)).wp P QT w.heap →
      ∃ vs, (l.mapM (readVar a.tmps)).run P w = .ok vs w ∧ QT (.ret (oneOf (acc.reverse ++ vs))) w.heap := by
    intro l
    induction l with
    | nil => intro acc H; exact ⟨[], rfl, by simpa [retVals, T.wp] using H⟩
    | cons x r ih =>
      intro acc H
      rw [List.mapM_cons]
      cases x with
      | tmp t =>
        simp only [retVals] at H
        split at H
        · rename_i v hv
          obtain ⟨vs, h1, h2⟩ := ih _ H
          refine ⟨v :: vs, ?_, by simpa using h2⟩
          have e1 : (readVar a.tmps (.tmp t)).run P w = .ok v w := by
            have := hag t v hv
            simp [readVar, pure, Array.getD_eq_getD_getElem?, this]
          refine (run_bind _ _ e1).trans ((run_bind _ _ h1).trans rfl)
        · exact H.elim
      | cell ad t =>
        simp only [retVals] at H
        split at H
        · rename_i b hb
          obtain ⟨v, h0, H⟩ := loadVar_run w H
          obtain ⟨vs, h1, h2⟩ := ih _ H
          refine ⟨v :: vs, ?_, by simpa using h2⟩
          have e1 : (readVar a.tmps (.cell ad t)).run P w = .ok v w := by
            have := hag ad _ hb
            have e2 : a.tmps.getD ad undef = .pointer (some b) := by rw [Array.getD_eq_getD_getElem?, this]; rfl
            simp only [readVar, e2]
            exact h0
          refine (run_bind _ _ e1).trans ((run_bind _ _ h1).trans rfl)
        · exact H.elim
  obtain ⟨vs, h1, h2⟩ := key fn.results.toList [] H
  refine ⟨oneOf vs, ?_, by simpa using h2⟩
  rw [results_eq]
  have e1 : (fn.results.mapM (readVar a.tmps)).run P w = .ok vs.toArray w := by
    rw [Array.mapM_eq_mapM_toList]
    show (Sem.bind (fn.results.toList.mapM (readVar a.tmps)) fun l => .pure l.toArray).run P w = _
    exact (run_bind _ _ h1).trans rfl
  refine (run_bind _ _ e1).trans ?_
  show Result.ok _ w = _
  congr 1
  cases vs with
  | nil => rfl
  | cons v r =>
    cases r with
    | nil => rfl
    | cons v2 r => simp [oneOf]

theorem envOf_agrees (args : List Value) : ∀ (i : Nat) (pre rest : List Value), pre.length = i → Agrees (envOf i args) (pre ++ args ++ rest).toArray := by
  induction args with
  | nil => intro i pre rest _ t v h; simp [envOf, Env.get?] at h
  | cons x r ih =>
    intro i pre rest hi t v h
    simp only [envOf, Env.get?_cons] at h
    by_cases hit : i = t
    · subst hit
      simp only [if_true, Option.some.injEq] at h
      subst h
      simp [← hi]
    · simp only [hit, if_false] at h
      have := ih (i + 1) (pre ++ [x]) rest (by simp [hi]) t v h
      simpa using this

/-- How a tree's end reads as a call's end. -/
def finOf (R : Fin → Heap → Prop) : Leaf → Heap → Prop
  | .ret v, h => R (.ret v) h
  | .pan c, h => R (.pan c) h
  | _, _ => False

theorem calls_of {f : FuncId} {fn : Func} {args : List Value} {h : Heap} {R : Fin → Heap → Prop} (hm : P.follows .mixedOrders = true) (hf : P.funcs[f]? = some fn)
    (H : (denFun P fn args).wp P (finOf R) h) : CallsH P f args h R := by
  intro w hw
  subst hw
  unfold denFun at H
  split at H
  · rename_i c hc
    cases hall : (writes c).all fun d => Nat.blt d fn.ntmps with
    | false => rw [hall] at H; exact H.elim
    | true =>
      rw [hall] at H
      simp only [cond_true] at H
      refine calls_of_wp hf hc ?_
      have hag : Agrees (envOf 0 args) (args.toArray ++ Array.replicate (fn.ntmps - args.toArray.size) undef) := by
        have := envOf_agrees args 0 [] (List.replicate (fn.ntmps - args.toArray.size) undef) rfl
        have e : ([] ++ args ++ List.replicate (fn.ntmps - args.toArray.size) undef).toArray = args.toArray ++ Array.replicate (fn.ntmps - args.toArray.size) undef := by
          apply Array.ext'
          simp
        rw [← e]; exact this
      have hb : Bound (writes c) { tmps := args.toArray ++ Array.replicate (fn.ntmps - args.toArray.size) undef, defers := [] } := by
        intro d hd
        have := List.all_eq_true.1 hall d hd
        have hlt : d < fn.ntmps := by simpa [Nat.blt_eq] using this
        simp
        omega
      refine denCode_ok hm (retT_rets fn) c [] _ _ (finOf R) _ w _ hag hb H (fun e' a' w' h1 h2 h3 h4 => ?_) ⟨fun id p hp => (by cases hp), fun e' a' w' h1 h2 h3 h4 => ?_, fun ch a' w' h1 h2 h3 => ⟨h1.2.1, h2, h3⟩⟩
      · obtain ⟨v, g1, g2⟩ := retT_ok h1 h4
        exact ⟨h2.2.1, v, g1, h3, g2⟩
      · obtain ⟨v, g1, g2⟩ := retT_ok h1 h4
        exact ⟨h2.2.1, v, g1, h3, g2⟩
  · exact H.elim
end
end Go.Eng
