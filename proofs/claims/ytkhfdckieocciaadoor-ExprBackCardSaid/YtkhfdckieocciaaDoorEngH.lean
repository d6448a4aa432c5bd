/-
  THE ENGINE, PART H: the tree of a region whose order is open holds in whatever order.
  Conditions: the program follows 'mixedOrders' (each loaded program of the kit does).
-/
import Derived.Test.YtkhfdckieocciaaDoorEngG
namespace Go.Eng
open Go

def isQuiet (P : Program) (o : Oper) : Bool := match o.op with
  | .move _ | .assign _ | .pick _ _ _ | .load _ _ | .nilCheck _ | .binOp _ _ _ _ _ | .unOp _ _ _ | .slice _ _ _ _ _ | .index _ _ _ | .indexAddr _ _ _
  | .makeInterface _ _ | .makeFunc _ _ _ | .fieldAddr _ _ _ | .field _ _ _ | .extract _ _ | .build _ _ => true
  | .convert src dst _ => match P.underlying src, P.underlying dst with
    | some (.int _), some (.int _) => true
    | some .string, some .string => true
    | _, _ => false
  | .call c => match c.callee with
    | .builtin .min | .builtin .max => true
    | .builtin .len | .builtin .cap => match c.argTypes[0]? with
      | some t => match P.underlying t with
        | some .string | some (.slice _) | some (.array _ _) => true
        | _ => false
      | none => false
    | _ => false
  | _ => false
def quietAt (P : Program) (ops : Array Oper) (i : Nat) : Bool := match ops[i]? with
  | some o => isQuiet P o
  | none => false
def stills : List (Addr × Value) → T → T
  | [], t => t
  | (a, v) :: r, t => .still a v (stills r t)
def bothAll : List T → T
  | [] => .stuck
  | [t] => t
  | t :: r => .both t (bothAll r)
def guardsOf (ops : Array Oper) : List Nat := ops.toList.filterMap fun o => o.guard.map (·.1)

def denDraw (P : Program) (ops : Array Oper) (gs ms : List Nat) : Nat → Array Bool → List (Nat × List (Addr × Value)) → Env → (Env → T) → T
  | 0, listed, _, e, k => match Region.ready .any ops listed with
    | [] => k e
    | _ => .stuck
  | n + 1, listed, pend, e, k => match Region.ready .any ops listed with
    | [] => k e
    | r => match r.find? fun i => quietAt P ops i && Region.free .any ops listed i with
      | some i => match ops[i]? with
        | none => .stuck
        | some o => match gval ops e o with
          | none => .stuck
          | some false => denDraw P ops gs ms n (listed.setIfInBounds i true) ((i, []) :: pend) (e.put o.dst undef) k
          | some true => bif o.op.operands.toList.all e.has then
              denOp true P e.ev o fun v => splitG (gs.contains i) v fun v => denDraw P ops gs ms n (listed.setIfInBounds i true) ((i, pinOf e.ev o v) :: pend) (e.put o.dst v) k
            else .stuck
      | none => bothAll (r.map fun j => denStep false P ops gs e j fun e' =>
          stills ((pend.filter fun p => !forced ms j p.1).flatMap (·.2)) (denDraw P ops gs ms n (listed.setIfInBounds j true) (pend.filter fun p => !forced ms j p.1) e' k))

section
variable {P : Program} {ops : Array Oper}

theorem stills_ok {l : List (Addr × Value)} {t : T} {Q : Leaf → Heap → Prop} {h : Heap} (H : (stills l t).wp P Q h) : Holds l h ∧ t.wp P Q h := by
  induction l with
  | nil => exact ⟨fun c hc => (by cases hc), H⟩
  | cons x r ih =>
    obtain ⟨a, v⟩ := x
    obtain ⟨h1, h2⟩ := H
    obtain ⟨h3, h4⟩ := ih h2
    refine ⟨fun c hc => ?_, h4⟩
    rcases List.mem_cons.1 hc with rfl | hc
    · exact h1
    · exact h3 c hc
theorem bothAll_ok {l : List T} {Q : Leaf → Heap → Prop} {h : Heap} (H : (bothAll l).wp P Q h) : ∀ t ∈ l, t.wp P Q h := by
  induction l with
  | nil => exact H.elim
  | cons t r ih =>
    cases r with
    | nil => intro t' ht; simp at ht; subst ht; exact H
    | cons t2 r =>
      obtain ⟨h1, h2⟩ := H
      intro t' ht
      rcases List.mem_cons.1 ht with rfl | ht
      · exact h1
      · exact ih h2 t' ht

theorem denDraw_gh {gs : List Nat} {k : Env → T} {QT : Leaf → Heap → Prop} {W : List Nat} {a0 : Act} (hsel : Region.noSelect ops = true) (hW : ∀ o ∈ ops, ∀ d, o.dst = some d → d ∈ W) :
    ∀ (n : Nat) (listed : Array Bool) (pend : List (Nat × List (Addr × Value))) (e : Env) (a : Act) (h : Heap), Agrees e a.tmps → Bound W a → Fr W a0 a → Closed ops listed → (∀ p ∈ pend, Holds p.2 h) →
      (denDraw P ops gs (befs ops.toList) n listed pend e k).wp P QT h →
      GH P ops (fun a' h' => ∃ e', Agrees e' a'.tmps ∧ Fr W a0 a' ∧ (k e').wp P QT h') (fun c h' => QT (.pan c) h') n listed (pend.map fun p => (p.1, Holds p.2)) a h := by
  intro n
  induction n with
  | zero =>
    intro listed pend e a h hag hb hfr hcl hp H
    unfold denDraw at H
    split at H
    · rename_i hr; exact ⟨hr, e, hag, hfr, H⟩
    · exact H.elim
  | succ n ih =>
    intro listed pend e a h hag hb hfr hcl hp H
    unfold denDraw at H
    split at H
    · rename_i hr
      refine ⟨fun _ => ⟨e, hag, hfr, H⟩, fun j hj => ?_⟩
      rw [hr] at hj
      cases hj
    · rename_i hne
      split at H
      · rename_i i hf
        have hmem := List.mem_of_find?_eq_some hf
        have hq := List.find?_some hf
        rw [Bool.and_eq_true] at hq
        split at H
        · exact H.elim
        · rename_i o ho
          have hdW : ∀ d, o.dst = some d → d ∈ W := hW o (Array.mem_of_getElem? ho)
          have hput : ∀ v, Agrees (e.put o.dst v) (a.put o.dst v).tmps := fun v => hag.put o.dst v fun d hd => hb d (hdW d hd)
          have hfree := fun j oj hoj hne hun hno => Region.free_spec ho hq.2 j oj hoj hne hun hno
          split at H
          · exact H.elim
          · rename_i hg
            have hf1 : Fr W a (a.put o.dst undef) := Fr.put W a _ _ hdW
            refine gh_first (b := false) (v := undef) (s := execOp a.eval o) (R := Holds []) ho (Region.noSelect_spec hsel) (fun _ _ hh => by cases hh) (fun _ => rfl) n listed _ a h hcl hfree hmem rfl (gval_ok hag hg)
              (fun c hc => by cases hc) (fun p hpm => ?_) (ih _ ((i, []) :: pend) _ _ h (hput undef) (hb.fr hf1) (hfr.trans hf1) (closed_set hcl hmem) (fun p hpm => ?_) H)
            · obtain ⟨p', hp', rfl⟩ := List.mem_map.1 hpm; exact hp p' hp'
            · rcases List.mem_cons.1 hpm with rfl | hpm
              · exact fun c hc => by cases hc
              · exact hp p hpm
          · rename_i hg
            cases hall : o.op.operands.toList.all e.has with
            | false => rw [hall] at H; exact H.elim
            | true =>
              rw [hall] at H
              simp only [cond_true] at H
              have hcong : execOp a.eval o = execOp e.ev o := execOp_congr o (notSelect H) fun x hx => hag.ev (List.all_eq_true.1 hall x (Array.mem_toList_iff.2 hx))
              obtain ⟨v, h1, h2, h3⟩ := quiet_spec H
              have h1 := splitG_ok h1
              have hf1 : Fr W a (a.put o.dst v) := Fr.put W a _ _ hdW
              refine gh_first (b := true) (v := v) (s := execOp e.ev o) (R := Holds (pinOf e.ev o v)) ho (Region.noSelect_spec hsel) (fun h' hh _ => quiet_run (h3 h' hh)) (fun hh => by cases hh) n listed _ a h hcl hfree hmem hcong (gval_ok hag hg)
                h2 (fun p hpm => ?_) (ih _ ((i, pinOf e.ev o v) :: pend) _ _ h (hput v) (hb.fr hf1) (hfr.trans hf1) (closed_set hcl hmem) (fun p hpm => ?_) h1)
              · obtain ⟨p', hp', rfl⟩ := List.mem_map.1 hpm; exact hp p' hp'
              · rcases List.mem_cons.1 hpm with rfl | hpm
                · exact h2
                · exact hp p hpm
      · refine ⟨fun h0 => absurd h0 (by simpa using hne), fun j hj => ?_⟩
        have Hj := bothAll_ok H _ (List.mem_map.2 ⟨j, hj, rfl⟩)
        refine stepH_mono (fun a' h' hx => ?_) (fun _ _ x => x) (denStep_ok hag hW hb Hj)
        obtain ⟨e', g1, g2, g3⟩ := hx
        obtain ⟨g4, g5⟩ := stills_ok g3
        have hpp : ∀ p ∈ pend.filter (fun p => !forced (befs ops.toList) j p.1), Holds p.2 h' := fun p hpm c hc => g4 c (List.mem_flatMap.2 ⟨p, hpm, hc⟩)
        refine ⟨fun p hpm hf => ?_, ?_⟩
        · obtain ⟨p', hp', rfl⟩ := List.mem_map.1 hpm
          exact hpp p' (List.mem_filter.2 ⟨hp', by simpa using hf⟩)
        · have := ih _ _ e' a' h' g1 (hb.fr g2) (hfr.trans g2) (closed_set hcl hj) hpp g5
          have e2 : (pend.filter fun p => !forced (befs ops.toList) j p.1).map (fun p => (p.1, Holds p.2)) = (pend.map fun p => (p.1, Holds p.2)).filter fun p => !forced (befs ops.toList) j p.1 := by
            rw [List.filter_map]; rfl
          rw [← e2]; exact this

/-- A region, whether its order is the text's or open. -/
def denRegion (P : Program) (ops : Array Oper) (draw : Bool) (e : Env) (k : Env → T) : T := match draw with
  | false => denOps P ops (guardsOf ops) (List.range ops.size) e k
  | true => bif Region.noSelect ops then denDraw P ops (guardsOf ops) (befs ops.toList) ops.size (Array.replicate ops.size false) [] e k else .stuck

theorem denRegion_ok {id : Nat} {draw : Bool} {k : Env → T} {QT : Leaf → Heap → Prop} {W : List Nat} {QC : Exit → Act → World → Prop} {e : Env} {a : Act} {w : World} (hm : P.follows .mixedOrders = true)
    (hW : ∀ o ∈ ops, ∀ d, o.dst = some d → d ∈ W) (hag : Agrees e a.tmps) (hb : Bound W a) (H : (denRegion P ops draw e k).wp P QT w.heap)
    (hn : ∀ e' a' w', Agrees e' a'.tmps → Fr W a a' → Same w w' → (k e').wp P QT w'.heap → QC .normal a' w')
    (hp : ∀ c a' w', Fr W a a' → Same w w' → QT (.pan c) w'.heap → QC (.panic c) a' w') : (Code.region id ops draw).wp P QC a w := by
  cases draw with
  | false =>
    intro b k' cs
    obtain ⟨ex, a', w', hq, harr⟩ := denOps_ir (QC := QC) hW (List.range ops.size) e a w hag hb H hn hp b k' cs
    exact ⟨ex, a', w', hq, .of_steps (.one step_region) harr⟩
  | true =>
    unfold denRegion at H
    cases hs : Region.noSelect ops with
    | false => rw [hs] at H; exact H.elim
    | true =>
      rw [hs] at H
      simp only [cond_true] at H
      have h0 : ∀ j, (Array.replicate ops.size false).getD j false = false := fun j => by
        rw [Array.getD_eq_getD_getElem?, Array.getElem?_replicate]
        split <;> rfl
      have g := denDraw_gh (a0 := a) hs hW ops.size (Array.replicate ops.size false) [] e a w.heap hag hb (.refl W a) (fun j o ho hj => by rw [h0] at hj; cases hj) (fun p hpm => by cases hpm) H
      have hs0 : Same w { w with drawn := w.drawn + 1 } := ⟨rfl, rfl, rfl⟩
      refine wp_region_any hm (gh_wpAny (Q := QC) (w0 := w) (a0 := a) hW (fun a' w' hsm hq => ?_) (fun c a' w' hd hsm hq => hp c a' w' hd hsm hq) _ _ _ _ _ (.refl W a) hs0 g)
      obtain ⟨e', g1, g2, g3⟩ := hq
      exact hn e' a' w' g1 g2 hsm g3
end
end Go.Eng
