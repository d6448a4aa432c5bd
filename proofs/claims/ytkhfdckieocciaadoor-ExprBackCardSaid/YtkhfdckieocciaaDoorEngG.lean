/-
  THE ENGINE, PART G: the tree of a region whose order is open, and that it holds in whatever order.
  Conditions: none; it speaks of any program.
-/
import Derived.Test.YtkhfdckieocciaaDoorEngF
namespace Go.Eng
open Go

section
variable {P : Program} {ops : Array Oper}

/-! ## quiet operations -/
def outT (u : Value) : T := .out [u]
def QV (v : Value) (h' : Heap) (l : Leaf) (hh : Heap) : Prop := l = .out [v] ∧ hh = h'
def PureD (P : Program) (D : (Value → T) → T) : Prop := ∀ (k : Value → T) (Q : Leaf → Heap → Prop) (h : Heap), (D k).wp P Q h → ∃ v, (k v).wp P Q h ∧ ∀ h', (D outT).wp P (QV v h') h'

theorem pure_k (v : Value) : PureD P (fun k => k v) := fun _ _ _ H => ⟨v, H, fun _ => ⟨rfl, rfl⟩⟩
theorem pure_stuck : PureD P (fun _ => .stuck) := fun _ _ _ H => H.elim
theorem pure_deref {p : Option Addr} {D : Addr → (Value → T) → T} (hD : ∀ a, PureD P (D a)) : PureD P (fun k => deref p fun a => D a k) := by
  cases p with
  | none => exact pure_stuck
  | some a => exact hD a
theorem pure_chk {c : Prop} [Decidable c] {D : (Value → T) → T} (hD : PureD P D) : PureD P (fun k => chk c (D k)) := by
  intro k Q h H
  obtain ⟨v, h1, h2⟩ := hD k Q h H.2
  exact ⟨v, h1, fun h' => ⟨H.1, h2 h'⟩⟩
theorem pure_ite {c : Prop} [Decidable c] {D D' : (Value → T) → T} (hD : PureD P D) (hD' : PureD P D') : PureD P (fun k => if c then D k else D' k) := by
  by_cases hc : c
  · simp only [if_pos hc]; exact hD
  · simp only [if_neg hc]; exact hD'
theorem pure_cond {b : Bool} {D D' : (Value → T) → T} (hD : PureD P D) (hD' : PureD P D') : PureD P (fun k => cond b (D k) (D' k)) := by
  cases b
  · exact hD'
  · exact hD
theorem pure_sem {α : Type} (s : Sem α) {f : α → (Value → T) → T} (hf : ∀ a, PureD P (f a)) : PureD P (fun k => denSem true P s fun a => f a k) := by
  induction s with
  | pure a => exact hf a
  | program g ih => exact ih _
  | mark m g ih => exact ih
  | halt x => cases x <;> exact pure_stuck
  | load m a g ih => exact pure_stuck
  | store m a v g ih => exact pure_stuck
  | new o g ih => exact pure_stuck
  | shape r g ih => exact pure_stuck
  | freeze a n g ih => exact pure_stuck
  | frozen a g ih => exact pure_stuck
  | getObj r g ih => exact pure_stuck
  | setObj r o g ih => exact pure_stuck
  | choose q g ih => exact pure_stuck
  | sys c g ih => exact pure_stuck
theorem pure_sem' (s : Sem Value) : PureD P (fun k => denSem true P s k) := pure_sem s (f := fun a k => k a) fun a => pure_k a

theorem pure_bin (op : BinOp) (t : TypeId) (x y : Operand) (a b : Value) : PureD P (fun k => denBin true P op t x y a b k) := by
  unfold denBin
  split
  case h_1 => exact pure_ite (pure_k _) pure_stuck
  case h_2 => exact pure_ite (pure_k _) pure_stuck
  case h_3 => exact pure_ite (pure_k _) pure_stuck
  case h_4 => exact pure_ite (pure_chk (pure_k _)) pure_stuck
  case h_5 => exact pure_ite (pure_chk (pure_k _)) pure_stuck
  case h_6 => exact pure_chk (pure_k _)
  case h_7 => exact pure_chk (pure_k _)
  case h_8 => exact pure_ite (pure_k _) pure_stuck
  case h_9 => exact pure_ite (pure_k _) pure_stuck
  case h_10 => exact pure_ite (pure_k _) pure_stuck
  case h_11 => exact pure_ite (pure_k _) pure_stuck
  case h_12 => exact pure_ite (pure_k _) pure_stuck
  case h_13 => exact pure_ite (pure_k _) pure_stuck
  case h_14 => exact pure_chk (pure_k _)
  case h_15 => exact pure_k _
  case h_16 => exact pure_k _
  case h_17 p => exact pure_sem _ (f := fun (d : TypeDesc) (k : Value → T) => match d with | .pointer _ => k (.bool p.isNone) | _ => .stuck) fun d => by cases d <;> first | exact pure_k _ | exact pure_stuck
  case h_18 p => exact pure_sem _ (f := fun (d : TypeDesc) (k : Value → T) => match d with | .pointer _ => k (.bool !p.isNone) | _ => .stuck) fun d => by cases d <;> first | exact pure_k _ | exact pure_stuck
  case h_19 p _ _ _ _ => exact pure_sem _ (f := fun (d : TypeDesc) (k : Value → T) => match d with | .slice _ => k (.bool p.isNone) | _ => .stuck) fun d => by cases d <;> first | exact pure_k _ | exact pure_stuck
  case h_20 p _ _ _ _ => exact pure_sem _ (f := fun (d : TypeDesc) (k : Value → T) => match d with | .slice _ => k (.bool !p.isNone) | _ => .stuck) fun d => by cases d <;> first | exact pure_k _ | exact pure_stuck
  case h_21 m n => exact pure_sem _ (f := fun (d : TypeDesc) (k : Value → T) => match d with | .bool => k (.bool (m == n)) | _ => .stuck) fun d => by cases d <;> first | exact pure_k _ | exact pure_stuck
  case h_22 m n => exact pure_sem _ (f := fun (d : TypeDesc) (k : Value → T) => match d with | .bool => k (.bool !(m == n)) | _ => .stuck) fun d => by cases d <;> first | exact pure_k _ | exact pure_stuck
  case h_23 => exact pure_stuck
  case h_24 => exact pure_stuck
  case h_25 => exact pure_sem' _

theorem pure_slice (t : TypeId) (x : Value) (lo hi mx : Option Value) : PureD P (fun k => denSlice true P t x lo hi mx k) := by
  unfold denSlice
  split
  · split
    · exact pure_chk (pure_k _)
    · exact pure_stuck
  · split
    · exact pure_chk (pure_k _)
    · exact pure_stuck
  · exact pure_stuck

theorem pure_call (ρ : Operand → Value) (c : Call) (t : TypeId) : PureD P (fun k => denCall true P ρ c t k) := by
  unfold denCall
  split
  · rename_i b hc
    cases b <;> first | exact pure_stuck | exact pure_sem' _ | skip
    case len =>
      dsimp only
      split
      · split <;> first | exact pure_k _ | exact pure_stuck
      · exact pure_stuck
    case cap =>
      dsimp only
      split
      · split <;> first | exact pure_k _ | exact pure_stuck
      · exact pure_stuck
  · split
    · split
      · split <;> exact pure_stuck
      · exact pure_stuck
    · exact pure_stuck
  · exact pure_stuck

/-- What a load has read: the cells, and what they held. -/
def cellsAt (a : Addr) (v : Value) : List (Addr × Value) := match v with
  | .agg cs => cs.toList.zipIdx.map fun c => (a.add c.2, c.1)
  | v => [(a, v)]
def pinOf (ρ : Operand → Value) (o : Oper) (v : Value) : List (Addr × Value) := match o.op with
  | .load _ x => match ρ x with
    | .pointer (some a) => cellsAt a v
    | _ => []
  | _ => []
def Holds (l : List (Addr × Value)) (h : Heap) : Prop := ∀ c ∈ l, cellH h c.1 = some c.2

theorem loads_pure (l : List Atom) (a : Addr) {f : Array Value → (Value → T) → T} (hf : ∀ cs k, f cs k = k (.agg cs)) : ∀ (i : Nat) (acc : Array Value) (k : Value → T) (Q : Leaf → Heap → Prop) (h : Heap),
    (loadsT l a i acc fun cs => f cs k).wp P Q h → ∃ r : List Value, r.length = l.length ∧ (k (.agg (acc ++ r.toArray))).wp P Q h ∧ (∀ j v, r[j]? = some v → cellH h (a.add (i + j)) = some v) ∧
      ∀ h', (∀ j v, r[j]? = some v → cellH h' (a.add (i + j)) = some v) → (loadsT l a i acc fun cs => f cs outT).wp P (QV (.agg (acc ++ r.toArray)) h') h' := by
  induction l with
  | nil =>
    intro i acc k Q h H
    refine ⟨[], rfl, ?_, ?_, ?_⟩
    · simpa [loadsT, hf] using H
    · intro j v hj; simp at hj
    · intro h' _; simp [loadsT, hf, outT, T.wp, QV]
  | cons s r ih =>
    intro i acc k Q h H
    obtain ⟨x, hx, H⟩ := H
    obtain ⟨rr, h1, h2, h3, h4⟩ := ih (i + 1) (acc.push (s.val x)) k Q h H
    refine ⟨s.val x :: rr, by simp [h1], ?_, ?_, ?_⟩
    · have e : acc ++ (s.val x :: rr).toArray = acc.push (s.val x) ++ rr.toArray := by
        apply Array.ext'
        simp
      rw [e]; exact h2
    · intro j v hj
      cases j with
      | zero => simp at hj; subst hj; exact hx
      | succ j =>
        simp at hj
        have := h3 j v hj
        rw [show i + (j + 1) = i + 1 + j by omega]; exact this
    · intro h' hh
      refine ⟨x, by simpa using hh 0 (s.val x) (by simp), ?_⟩
      have e : acc ++ (s.val x :: rr).toArray = acc.push (s.val x) ++ rr.toArray := by
        apply Array.ext'
        simp
      rw [e]
      refine h4 h' fun j v hj => ?_
      have := hh (j + 1) v (by simpa using hj)
      rw [show i + 1 + j = i + (j + 1) by omega]; exact this

theorem load_pure {t : TypeId} {a : Addr} {k : Value → T} {Q : Leaf → Heap → Prop} {h : Heap} (H : (denLoad P t a k).wp P Q h) :
    ∃ v, (k v).wp P Q h ∧ Holds (cellsAt a v) h ∧ ∀ h', Holds (cellsAt a v) h' → (denLoad P t a outT).wp P (QV v h') h' := by
  unfold denLoad at H ⊢
  split at H
  · rename_i d i hd hi
    split at H
    · rename_i l hag hsh
      split at H
      · rename_i hlen
        obtain ⟨r, h1, h2, h3, h4⟩ := loads_pure (P := P) l a (f := fun cs k => k (.agg cs)) (fun _ _ => rfl) 0 #[] k Q h H
        refine ⟨.agg (#[] ++ r.toArray), h2, ?_, fun h' hh => ?_⟩
        · intro c hc
          simp only [cellsAt, List.mem_map] at hc
          obtain ⟨⟨v, j⟩, hm, rfl⟩ := hc
          have := List.mem_zipIdx_iff_getElem?.1 hm
          simpa using h3 j v (by simpa using this)
        · simp only [if_pos hlen]
          refine h4 h' fun j v hj => ?_
          have := hh (a.add j, v) (by
            simp only [cellsAt, List.mem_map]
            exact ⟨(v, j), List.mem_zipIdx_iff_getElem?.2 (by simpa using hj), rfl⟩)
          simpa using this
      · exact H.elim
    · rename_i s hag hsh
      obtain ⟨x, hx, H⟩ := H
      have hc : cellsAt a (s.val x) = [(a, s.val x)] := by
        have := Atom.val_plain s x
        cases hv : s.val x <;> simp_all [cellsAt, Value.plain]
      refine ⟨s.val x, H, ?_, fun h' hh => ?_⟩
      · rw [hc]; intro c hcm; simp at hcm; subst hcm; exact hx
      · exact ⟨x, hh (a, s.val x) (by rw [hc]; simp), rfl, rfl⟩
    · exact H.elim
  · exact H.elim

theorem quiet_spec {ρ : Operand → Value} {o : Oper} {k : Value → T} {Q : Leaf → Heap → Prop} {h : Heap} (H : (denOp true P ρ o k).wp P Q h) :
    ∃ v, (k v).wp P Q h ∧ Holds (pinOf ρ o v) h ∧ ∀ h', Holds (pinOf ρ o v) h' → (denOp true P ρ o outT).wp P (QV v h') h' := by
  obtain ⟨dst, op, type, pos, after, guard⟩ := o
  have fin : ∀ {D : (Value → T) → T}, PureD P D → (∀ k, denOp true P ρ ⟨dst, op, type, pos, after, guard⟩ k = D k) → (∀ v, pinOf ρ ⟨dst, op, type, pos, after, guard⟩ v = []) →
      ∃ v, (k v).wp P Q h ∧ Holds (pinOf ρ ⟨dst, op, type, pos, after, guard⟩ v) h ∧ ∀ h', Holds (pinOf ρ ⟨dst, op, type, pos, after, guard⟩ v) h' → (denOp true P ρ ⟨dst, op, type, pos, after, guard⟩ outT).wp P (QV v h') h' := by
    intro D hD hk hp
    rw [hk] at H
    obtain ⟨v, h1, h2⟩ := hD k Q h H
    refine ⟨v, h1, ?_, fun h' _ => ?_⟩
    · rw [hp]; intro c hc; cases hc
    · rw [hk]; exact h2 h'
  cases op <;> first | exact H.elim | skip
  case move x => exact fin (pure_k (ρ x)) (fun _ => rfl) (fun _ => rfl)
  case assign x => exact fin (pure_k (ρ x)) (fun _ => rfl) (fun _ => rfl)
  case pick c a b =>
    cases hc : ρ c with
    | bool t => exact fin (pure_cond (b := t) (pure_k (ρ a)) (pure_k (ρ b))) (fun k => by simp only [denOp, hc]) (fun _ => rfl)
    | _ => simp only [denOp, hc] at H; exact H.elim
  case alloc e => exact fin (pure_sem' _) (fun _ => rfl) (fun _ => rfl)
  case build t ps => exact fin (pure_sem' _) (fun _ => rfl) (fun _ => rfl)
  case buildSlice t n ps => exact fin (pure_sem' _) (fun _ => rfl) (fun _ => rfl)
  case load t x =>
    simp only [denOp] at H
    cases hx : ρ x with
    | pointer p =>
      cases p with
      | none => rw [hx] at H; exact H.elim
      | some a =>
        rw [hx] at H
        obtain ⟨v, h1, h2, h3⟩ := load_pure H
        refine ⟨v, h1, by simpa [pinOf, hx] using h2, fun h' hh => ?_⟩
        simp only [denOp, hx]
        exact h3 h' (by simpa [pinOf, hx] using hh)
    | _ => rw [hx] at H; exact H.elim
  case store t a x => exact fin (pure_sem (Instr.storeAt t (ρ a) (ρ x)) (f := fun _ k => k undef) fun _ => pure_k undef) (fun _ => rfl) (fun _ => rfl)
  case nilCheck x =>
    cases hx : ρ x with
    | pointer p => exact fin (pure_deref (p := p) (D := fun a k => k (.pointer (some a))) fun a => pure_k _) (fun k => by simp only [denOp, hx]) (fun _ => rfl)
    | func f a b =>
      cases f with
      | func g => exact fin (pure_k (.func (.func g) a b)) (fun k => by simp only [denOp, hx]) (fun _ => rfl)
      | _ => simp only [denOp, hx] at H; exact H.elim
    | iface t v => exact fin (pure_k (.iface t v)) (fun k => by simp only [denOp, hx]) (fun _ => rfl)
    | _ => simp only [denOp, hx] at H; exact H.elim
  case binOp op xt x y yt => exact fin (pure_bin op xt x y (ρ x) (ρ y)) (fun _ => rfl) (fun _ => rfl)
  case unOp op xt x => exact fin (pure_sem' _) (fun _ => rfl) (fun _ => rfl)
  case convert src dst x =>
    refine fin (D := fun k => denOp true P ρ ⟨_, .convert src dst x, type, pos, after, guard⟩ k) ?_ (fun _ => rfl) (fun _ => rfl)
    simp only [denOp]
    split
    · exact pure_sem' _
    · exact pure_sem' _
    · exact pure_stuck
  case makeInterface t x => exact fin (pure_sem' _) (fun _ => rfl) (fun _ => rfl)
  case makeFunc fn first captured => exact fin (pure_k _) (fun _ => rfl) (fun _ => rfl)
  case makeMap t r => exact fin (pure_sem' _) (fun _ => rfl) (fun _ => rfl)
  case slice t x lo hi mx => exact fin (pure_slice t (ρ x) _ _ _) (fun _ => rfl) (fun _ => rfl)
  case fieldAddr s x f => exact fin (pure_sem' _) (fun _ => rfl) (fun _ => rfl)
  case field t x f => exact fin (pure_sem' _) (fun _ => rfl) (fun _ => rfl)
  case indexAddr t x ix =>
    refine fin (D := fun k => denOp true P ρ ⟨_, .indexAddr t x ix, type, pos, after, guard⟩ k) ?_ (fun _ => rfl) (fun _ => rfl)
    simp only [denOp]
    split
    · split
      · exact pure_deref (D := fun a k => chk _ (k (.pointer (some (a.add _))))) fun a => pure_chk (pure_k _)
      · exact pure_stuck
    · split
      · exact pure_chk (pure_k _)
      · exact pure_stuck
    · exact pure_stuck
  case index t x ix =>
    refine fin (D := fun k => denOp true P ρ ⟨_, .index t x ix, type, pos, after, guard⟩ k) ?_ (fun _ => rfl) (fun _ => rfl)
    simp only [denOp]
    split
    · exact pure_chk (pure_k _)
    · exact pure_sem' _
  case extract t ix => exact fin (pure_sem' _) (fun _ => rfl) (fun _ => rfl)
  case call c => exact fin (pure_call ρ c type) (fun _ => rfl) (fun _ => rfl)
  case panic x => exact fin (pure_sem' _) (fun _ => rfl) (fun _ => rfl)

theorem quiet_run {ρ : Operand → Value} {o : Oper} {v : Value} {h : Heap} (H : (denOp true P ρ o outT).wp P (QV v h) h) : QRun P (execOp ρ o) v h := by
  intro w hw
  subst hw
  rcases semWp_run _ w (denOp_ok H) with ⟨nx, w', h1, h2, h3⟩ | ⟨u, w', h1, h2, h3⟩
  · cases nx <;> first | exact h3.elim | skip
    case value u =>
      obtain ⟨h4, h5⟩ := h3
      simp only [Leaf.out.injEq, List.cons.injEq, and_true] at h4
      subst h4
      exact ⟨w', .inl h1, h2, h5⟩
    case skip =>
      obtain ⟨h4, h5⟩ := h3
      simp only [Leaf.out.injEq, List.cons.injEq, and_true] at h4
      exact ⟨w', .inr ⟨h1, h4.symm⟩, h2, h5⟩
    case enter f args => cases h3.1
  · cases h3.1
end
end Go.Eng
