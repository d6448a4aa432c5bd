/-
  THE ENGINE, PART M: maps whose keys are texts; bytes as a text; strconv.AppendInt as a piece.
  Conditions: none; it speaks of any program.
-/
import Derived.Test.YtkhfdckieocciaaDoorEngX
namespace Go.Eng
open Go

theorem bytes_beq (a b : ByteArray) : (a == b) = decide (a = b) := by
  cases a with | mk a => cases b with | mk b =>
  have e : ((ByteArray.mk a == ByteArray.mk b) : Bool) = (a == b) := rfl
  rw [e]
  by_cases h : a = b
  · subst h; simp
  · rw [decide_eq_false (by intro g; exact h (ByteArray.mk.inj g))]; exact beq_eq_false_iff_ne.2 h
def mget {β : Type} (k : ByteArray) : List (ByteArray × β) → Option β
  | [] => none
  | (k', v) :: m => if k = k' then some v else mget k m
def mset {β : Type} (k : ByteArray) (v : β) : List (ByteArray × β) → List (ByteArray × β)
  | [] => [(k, v)]
  | (k', v') :: m => if k = k' then (k', v) :: m else (k', v') :: mset k v m

inductive Ents {β : Type} (vv : Ro β) (φ : Snap) : List MapEntry → List (ByteArray × β) → Prop where
  | nil : Ents vv φ [] []
  | cons {e : MapEntry} {es : List MapEntry} {k : ByteArray} {x : β} {m : List (ByteArray × β)} : e.key = .string k → vv.is φ [e.val] x → Ents vv φ es m → Ents vv φ (e :: es) ((k, x) :: m)
theorem Ents.mono {β : Type} {vv : Ro β} {φ ψ : Snap} (hs : Sub φ ψ) {es : List MapEntry} {m : List (ByteArray × β)} (H : Ents vv φ es m) : Ents vv ψ es m := by
  induction H with
  | nil => exact .nil
  | cons h1 h2 _ ih => exact .cons h1 (vv.mono hs h2) ih
/-- A map of one's own, from texts. -/
def Rep.smap {β : Type} (vv : Ro β) : Rep (List (ByteArray × β)) where
  sz := 1
  is φ h F cs m := ∃ r es clock, cs = [.map (some r)] ∧ h[r]? = some (.map es clock) ∧ Ents vv φ es.toList m ∧ (∀ i, F i ↔ i = r)
  len h := by obtain ⟨r, es, c, rfl, _⟩ := h; rfl
  mono hs h := by obtain ⟨r, es, c, e, hr, he, hF⟩ := h; exact ⟨r, es, c, e, hr, he.mono hs, hF⟩
  loc hl h := by obtain ⟨r, es, c, e, hr, he, hF⟩ := h; exact ⟨r, es, c, e, by rw [hl r ((hF r).2 rfl)]; exact hr, he, hF⟩
  lt h i hi := by obtain ⟨r, es, c, e, hr, he, hF⟩ := h; rw [(hF i).1 hi]; exact lt_of_get hr
  plain h v hv := by obtain ⟨r, es, c, rfl, _⟩ := h; simp at hv; subst hv; rfl

theorem findNow_none {β : Type} {vv : Ro β} {φ : Snap} {k : ByteArray} : ∀ {es : List MapEntry} {m : List (ByteArray × β)} (i : Nat), Ents vv φ es m → mget k m = none → Instr.findNow .string (.string k) es i = some none := by
  intro es m i H
  induction H generalizing i with
  | nil => intro _; rfl
  | @cons e es k' x m h1 h2 _ ih =>
    intro hm
    simp only [mget] at hm
    split at hm
    · cases hm
    · rename_i hk
      unfold Instr.findNow
      rw [h1]
      simp only [Instr.sameNow, bytes_beq, decide_eq_false hk]
      exact ih (i + 1) hm
theorem findNow_some {β : Type} {vv : Ro β} {φ : Snap} {k : ByteArray} {x : β} : ∀ {es : List MapEntry} {m : List (ByteArray × β)} (i : Nat), Ents vv φ es m → mget k m = some x →
    ∃ j e, es[j]? = some e ∧ Instr.findNow .string (.string k) es i = some (some (i + j, e.val)) ∧ e.key = .string k ∧ vv.is φ [e.val] x ∧
      ∀ (y : β) (v : Value), vv.is φ [v] y → Ents vv φ (es.modify j fun e => { e with key := .string k, val := v }) (mset k y m) := by
  intro es m i H
  induction H generalizing i with
  | nil => intro hm; cases hm
  | @cons e es k' x' m h1 h2 h3 ih =>
    intro hm
    simp only [mget] at hm
    split at hm
    · rename_i hk
      cases hm
      subst hk
      refine ⟨0, e, rfl, ?_, h1, h2, fun y v hy => ?_⟩
      · unfold Instr.findNow
        rw [h1]
        simp only [Instr.sameNow, bytes_beq]
        rfl
      · simp only [mset, if_true, List.modify_cons, if_true]
        exact .cons rfl hy h3
    · rename_i hk
      obtain ⟨j, e', g1, g2, g3, g4, g5⟩ := ih (i + 1) hm
      refine ⟨j + 1, e', by simpa using g1, ?_, g3, g4, fun y v hy => ?_⟩
      · unfold Instr.findNow
        rw [h1]
        simp only [Instr.sameNow, bytes_beq, decide_eq_false hk]
        rw [g2, show i + 1 + j = i + (j + 1) by omega]
      · simp only [mset, if_neg hk, List.modify_cons]
        exact .cons h1 h2 (g5 y v hy)
theorem Ents.push {β : Type} {vv : Ro β} {φ : Snap} {k : ByteArray} {y : β} {e : MapEntry} : ∀ {es : List MapEntry} {m : List (ByteArray × β)}, Ents vv φ es m → mget k m = none → e.key = .string k → vv.is φ [e.val] y → Ents vv φ (es ++ [e]) (mset k y m) := by
  intro es m H
  induction H with
  | nil => intro _ h1 h2; exact .cons h1 h2 .nil
  | @cons e' es k' x m g1 g2 _ ih =>
    intro hm h1 h2
    simp only [mget] at hm
    split at hm
    · cases hm
    · rename_i hk
      simp only [mset, if_neg hk]
      exact .cons g1 g2 (ih hm h1 h2)

section
variable {P : Program} {Q : Leaf → Heap → Prop} {φ : Snap} {h : Heap} {Γ : List Chk}
theorem s_newmap {β : Type} {vv : Ro β} {k : Nat → T} (H : St φ Γ h) (hk : ∀ r h', St φ (⟨Rep.smap vv, [.map (some r)], []⟩ :: Γ) h' → (k r).wp P Q h') : (T.new (.map #[] 0) k).wp P Q h := by
  refine t_new (hk _ _ ?_)
  have hs := H.sub
  refine ⟨fun i => i = h.size, ⟨h.size, #[], 0, rfl, by rw [Array.getElem?_push, if_pos rfl], .nil, fun _ => Iff.rfl⟩, fun k hk => ⟨?_, fun g => g⟩, ?_⟩
  · subst hk
    cases hφ : φ h.size with
    | none => rfl
    | some o => have := lt_of_get (hs _ _ hφ); omega
  · refine StX.heap (StX.more H fun k hk => ?_) (fun k hk _ => by rw [Array.getElem?_push]; simp; omega) fun i o ho => ?_
    · rcases hk with hk | hk
      · exact hk.elim
      · left; omega
    · have hlt := lt_of_get (hs i o ho)
      show (h.push _)[i]? = some o
      rw [Array.getElem?_push, if_neg (by omega)]
      exact hs i o ho
theorem checkKey_str {kt : TypeId} {b : Bool} {k : ByteArray} (hk : P.underlying kt = some .string) {K : Unit → Heap → Prop} {X : Value → Heap → Prop} (H : K () h) : semWp P (Instr.checkKey b 10000 kt (.string k)) K X h := by
  unfold Instr.checkKey
  exact underlying_run hk H
theorem zeroValue_run {t : TypeId} {i : TypeInfo} {z : Value} (hi : P.info? t = some i) (hz : i.zero = some z) {K : Value → Heap → Prop} {X : Value → Heap → Prop} (H : K z h) : semWp P (zeroValue t) K X h := by
  have ez : (zeroValue t) = Sem.program fun P' => ((match P'.info? t with | some i => Sem.pure i | none => stuck "no such type").bind fun i => match i.zero with | some v => Sem.pure v | none => unsupported (.resourceLimit "a value of more than 2^22 cells")) := rfl
  rw [ez]
  simp only [Sem.bind, semWp, hi, hz]
  exact H
/-- v, ok := m[k], where numbers lie in the map -/
theorem s_lookupI {mt kt vt : TypeId} {j : IntKind} {r : Nat} {k : ByteArray} {m : List (ByteArray × Int)} {K : Int × Bool × Unit → T} (hm : P.underlying mt = some (.map kt vt)) (hk : P.underlying kt = some .string)
    {i : TypeInfo} (hi : P.info? vt = some i) (hz : i.zero = some (.int j 0)) (H : St φ (⟨Rep.smap (Ro.int j), [.map (some r)], m⟩ :: Γ) h) (hK : ∀ y : Int × Bool × Unit, y = ((mget k m).getD 0, (mget k m).isSome, ()) → (K y).wp P Q h) :
    (T.sem (Instr.lookup mt (.map (some r)) (.string k) true) (.tuple [.atom (.int j), .atom .bool]) K).wp P Q h := by
  obtain ⟨F, ⟨r', es, c, e, hr, he, hF⟩, h2, H⟩ := H
  cases e
  refine t_sem ?_
  unfold Instr.lookup
  refine underlying_run hm ?_
  refine ⟨_, hr, (fun _ _ _ g => by cases g), ?_⟩
  show semWp P (Sem.bind (Instr.checkKey _ 10000 kt (.string k)) fun _ => Sem.bind (Instr.findKey kt (.string k) es.toList) fun r => _) _ _ h
  refine semWp_bind _ _ (checkKey_str hk (semWp_bind _ _ ?_))
  unfold Instr.findKey
  refine underlying_run hk ?_
  cases hg : mget k m with
  | none =>
    rw [findNow_none 0 he hg]
    show semWp P (Sem.bind (zeroValue vt) fun z => _) _ _ h
    exact semWp_bind _ _ (zeroValue_run hi hz ⟨(0, false, ()), rfl, hK _ (by rw [hg]; rfl)⟩)
  | some x =>
    obtain ⟨q, e, g1, g2, g3, g4, _⟩ := findNow_some 0 he hg
    rw [g2]
    have hv : e.val = .int j x := by
      have : [e.val] = [Value.int j x] := g4
      simpa using this
    dsimp only
    show ∃ y, _
    refine ⟨(x, true, ()), ?_, hK _ (by rw [hg]; rfl)⟩
    rw [hv]
    rfl
/-- m[k] = v -/
theorem s_mapset {β : Type} {vv : Ro β} {mt kt vt : TypeId} {r : Nat} {k : ByteArray} {m : List (ByteArray × β)} {y : β} {v : Value} {K : Unit → T} (hm : P.underlying mt = some (.map kt vt)) (hk : P.underlying kt = some .string)
    (H : St φ (⟨Rep.smap vv, [.map (some r)], m⟩ :: Γ) h) (hv : vv.is φ [v] y) (hK : ∀ h', St φ (⟨Rep.smap vv, [.map (some r)], mset k y m⟩ :: Γ) h' → (K ()).wp P Q h') :
    (T.sem (Sem.bind (Instr.mapUpdate mt (.map (some r)) (.string k) v) fun _ => .pure undef) (.tuple []) K).wp P Q h := by
  obtain ⟨F, ⟨r', es, c, e, hr, he, hF⟩, h2, H⟩ := H
  cases e
  have hs := H.sub
  have key : ∀ (es' : Array MapEntry) (c' : Nat), Ents vv φ es'.toList (mset k y m) → (K ()).wp P Q (h.setIfInBounds r (.map es' c')) := fun es' c' he' => by
    have hlt := lt_of_get hr
    have hne : ∀ k, ¬ F k → (h.setIfInBounds r (Obj.map es' c'))[k]? = h[k]? := fun k hk => Array.getElem?_setIfInBounds_ne fun e => hk ((hF k).2 e.symm)
    refine hK _ ⟨F, ⟨r, es', c', rfl, ?_, he', hF⟩, h2, StX.heap H (fun k _ hX => hne k fun g => hX (.inr g)) fun i o ho => ?_⟩
    · rw [Array.getElem?_setIfInBounds, if_pos rfl, if_pos hlt]
    · show (h.setIfInBounds r _)[i]? = some o
      rw [hne i fun g => by rw [(h2 i g).1] at ho; cases ho]
      exact hs i o ho
  refine t_sem ?_
  refine semWp_bind _ _ ?_
  unfold Instr.mapUpdate
  refine underlying_run hm ?_
  refine ⟨_, hr, (fun _ _ _ g => by cases g), ?_⟩
  show semWp P (Sem.bind (Instr.checkKey _ 10000 kt (.string k)) fun _ => Sem.bind (Instr.findKey kt (.string k) es.toList) fun r => _) _ _ h
  refine semWp_bind _ _ (checkKey_str hk (semWp_bind _ _ ?_))
  unfold Instr.findKey
  refine underlying_run hk ?_
  cases hg : mget k m with
  | none =>
    rw [findNow_none 0 he hg]
    dsimp only
    refine ⟨⟨_, hr, (fun _ _ _ g => by cases g)⟩, (), rfl, key _ _ ?_⟩
    rw [Array.toList_push]
    exact he.push hg rfl hv
  | some x =>
    obtain ⟨q, e, g1, g2, g3, g4, g5⟩ := findNow_some 0 he hg
    rw [g2]
    have hq : es[0 + q]? = some e := by rw [Nat.zero_add]; simpa using g1
    have hks : Instr.keyThatStays ((Option.map (fun x => x.key) es[0 + q]?).getD (Value.string k)) (Value.string k) = Sem.pure (Value.string k) := by
      rw [hq]
      dsimp only [Option.map, Option.getD]
      rw [g3]
      unfold Instr.keyThatStays
      have hb : Instr.sameBits 10000 (.string k) (.string k) = true := by
        unfold Instr.sameBits
        rw [bytes_beq]; simp
      rw [hb]
      rfl
    show semWp P (Sem.bind (Instr.keyThatStays ((Option.map (fun x => x.key) es[0 + q]?).getD (Value.string k)) (Value.string k)) fun key => setObj r (Obj.map (es.modify (0 + q) fun e => { e with key, val := v }) c)) _ _ h
    rw [hks]
    refine ⟨⟨_, hr, (fun _ _ _ g => by cases g)⟩, (), rfl, key _ _ ?_⟩
    rw [Array.toList_modify, Nat.zero_add]
    exact g5 y v hv

/-! ## bytes -/
theorem all_atom {a : Atom} {vs : List Value} {l : List a.Ty} (H : (Ro.atom a).All φ vs l) : vs = l.map a.val := by
  induction H with
  | nil => rfl
  | cons h _ ih => have h' : _ = [_] := h; rw [h', ih]; rfl
def isByte (x : Int) : Bool := decide (0 ≤ x) && decide (x < 256)
def toStr (l : List Int) : Option ByteArray := if l.all isByte then some ⟨(l.map fun x => UInt8.ofNat x.toNat).toArray⟩ else none
theorem St.bytes {ty : TypeId} {t : Slc} {l : List Int} (H : St φ (⟨Rep.row ty (Ro.int .u8), [.slice t.1 t.2.1 t.2.2], l⟩ :: Γ) h) : l.length = t.2.1 ∧ CellsAt h t.1 (l.map (Atom.int .u8).val) := by
  have hl := H.rowLen
  obtain ⟨vs, ha, hc⟩ := H.all
  rw [all_atom ha] at hc
  exact ⟨hl.symm, hc⟩
theorem Ro.SliceIs.bytes {t : Slc} {l : List Int} (H : Ro.SliceIs (Ro.int .u8) φ t l) (hs : Sub φ (snap h)) : l.length = t.2.1 ∧ CellsAt h t.1 (l.map (Atom.int .u8).val) := by
  have hl := H.length
  obtain ⟨vs, ha, hc⟩ := H.heap hs
  rw [all_atom ha] at hc
  exact ⟨hl.symm, hc⟩
theorem s_toString {src dst e : TypeId} {t : Slc} {l : List Int} {x : ByteArray} {K : ByteArray → T} (hs : P.underlying src = some (.slice e)) (he : P.underlying e = some (.int .u8)) (hd : P.underlying dst = some .string)
    (hc : l.length = t.2.1 ∧ CellsAt h t.1 (l.map (Atom.int .u8).val)) (hx : toStr l = some x) (hK : (K x).wp P Q h) : (T.sem (convert src dst (.slice t.1 t.2.1 t.2.2)) (.one (.atom .string)) K).wp P Q h := by
  obtain ⟨hl, hc⟩ := hc
  unfold toStr at hx
  split at hx
  · rename_i hall
    cases hx
    have e1 : l.map (Atom.int .u8).val = (l.map fun x => UInt8.ofNat x.toNat).map fun b => Value.int .u8 (b.toNat : Int) := by
      rw [List.map_map]
      refine List.map_congr_left fun x hx => ?_
      have := List.all_eq_true.1 hall x hx
      simp only [isByte, Bool.and_eq_true, decide_eq_true_eq] at this
      show Value.int .u8 x = Value.int .u8 _
      have e : (UInt8.ofNat x.toNat).toNat = x.toNat := by simp; omega
      rw [show ((UInt8.ofNat x.toNat).toNat : Int) = x by rw [e]; omega]
    rw [e1] at hc
    have hl2 : t.2.1 = (l.map fun x => UInt8.ofNat x.toNat).length := by simp [← hl]
    refine t_sem ?_
    rw [hl2]
    exact convBytes_wp hs he hd hc ⟨_, rfl, hK⟩
  · cases hx
end
end Go.Eng
