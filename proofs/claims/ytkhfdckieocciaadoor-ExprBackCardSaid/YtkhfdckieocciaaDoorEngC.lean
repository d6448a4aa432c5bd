/-
  THE ENGINE, PART C: the tree of one operation promises what the model's own operation does.
  Conditions: none; it speaks of any program.
-/
import Derived.Test.YtkhfdckieocciaaDoorEngB
namespace Go.Eng
open Go

section
variable {q : Bool} {P : Program} {ρ : Operand → Value} {k : Value → T} {Q : Leaf → Heap → Prop} {h : Heap}

def BinOk (P : Program) (op : BinOp) (t : TypeId) (x y : Operand) (a b : Value) (k : Value → T) (Q : Leaf → Heap → Prop) (h : Heap) : Prop :=
  semWp P (do eqGuard op t x y a b; binOp op t a b) (fun v h' => (k v).wp P Q h') (fun v h' => Q (.pan [{ v, recovered := false }]) h') h

theorem int_bin {op : BinOp} {t : TypeId} {x y : Operand} {j : IntKind} {m n : Int} {s : Sem Value} (he : op ≠ .shl) (he' : op ≠ .shr) (hs : (match op with
    | .add | .sub | .mul => Op.intArith op j m n
    | .quo | .rem => Op.intDiv op j m n
    | .and | .or | .xor | .andNot => Op.intBits op j m n
    | _ => Op.intCmp op m n) = s)
    (H : semWp P s (fun v h' => (k v).wp P Q h') (fun v h' => Q (.pan [{ v, recovered := false }]) h') h) : BinOk P op t x y (.int j m) (.int j n) k Q h := by
  subst hs
  unfold BinOk
  cases op <;> first | exact absurd rfl he | exact absurd rfl he' | (simpa [eqGuard, binOp, bind, Sem.bind, semWp, pure] using H)

theorem ite_ok {p : Prop} [Decidable p] {t : T} (H : (if p then t else T.stuck).wp P Q h) : p ∧ t.wp P Q h := by
  by_cases hp : p
  · rw [if_pos hp] at H; exact ⟨hp, H⟩
  · rw [if_neg hp] at H; exact H.elim
theorem under_ok {t : TypeId} {f : TypeDesc → T} (H : (denSem q P (underlying t) f).wp P Q h) : ∃ d, P.underlying t = some d ∧ (f d).wp P Q h := by
  simp only [underlying, program, bind, Sem.bind, denSem] at H
  cases hd : P.underlying t with
  | none => rw [hd] at H; exact H.elim
  | some d => rw [hd] at H; exact ⟨d, rfl, H⟩

theorem shl_ok {t : TypeId} {x y : Operand} {j j' : IntKind} {m n : Int} (hn : 0 ≤ n) (H : (k (.int j (j.wrap (m * 2 ^ (min n.toNat j.bits))))).wp P Q h) :
    BinOk P .shl t x y (.int j m) (.int j' n) k Q h := by
  show semWp P (Op.shift .shl j m j' n) _ _ h
  unfold Op.shift
  rw [if_neg (show ¬ n < 0 by omega)]
  exact H
theorem shr_ok {t : TypeId} {x y : Operand} {j j' : IntKind} {m n : Int} (hn : 0 ≤ n) (H : (k (.int j (m.fdiv (2 ^ (min n.toNat j.bits))))).wp P Q h) :
    BinOk P .shr t x y (.int j m) (.int j' n) k Q h := by
  show semWp P (Op.shift .shr j m j' n) _ _ h
  unfold Op.shift
  rw [if_neg (show ¬ n < 0 by omega)]
  exact H
theorem sadd_ok {t : TypeId} {x y : Operand} {m n : ByteArray} (hn : ((m.size + n.size : Nat) : Int) ≤ IntKind.i64.max) (H : (k (.string (m ++ n))).wp P Q h) :
    BinOk P .add t x y (.string m) (.string n) k Q h := by
  show semWp P (Op.stringOp .add m n) _ _ h
  simp only [Op.stringOp]
  rw [if_neg (show ¬ ((m.size + n.size : Nat) : Int) > IntKind.i64.max by omega)]
  exact H
theorem eql_of {t : TypeId} {x y : Operand} {a b : Value} {r : Bool} (hg : eqGuard .eql t x y a b = pure ()) (hb : binOp .eql t a b = (do pure (.bool (← Op.equal t a b))))
    (he : ∀ K X, K r h → semWp P (Op.equal t a b) K X h) (H : (k (.bool r)).wp P Q h) : BinOk P .eql t x y a b k Q h := by
  unfold BinOk
  rw [hg, hb]
  exact semWp_bind (Op.equal t a b) _ (he _ _ H)
theorem neq_of {t : TypeId} {x y : Operand} {a b : Value} {r : Bool} (hg : eqGuard .neq t x y a b = pure ()) (hb : binOp .neq t a b = (do pure (.bool (!(← Op.equal t a b)))))
    (he : ∀ K X, K r h → semWp P (Op.equal t a b) K X h) (H : (k (.bool !r)).wp P Q h) : BinOk P .neq t x y a b k Q h := by
  unfold BinOk
  rw [hg, hb]
  exact semWp_bind (Op.equal t a b) _ (he _ _ H)
theorem equal_ptr {t e : TypeId} (hd : P.underlying t = some (.pointer e)) (p : Option Addr) (K : Bool → Heap → Prop) (X : Value → Heap → Prop) (H : K p.isNone h) :
    semWp P (Op.equal t (.pointer p) (.pointer none)) K X h := by
  show semWp P (Op.equalIn (9999 + 1) t _ _) K X h
  rw [Op.equalIn]
  refine underlying_run hd ?_
  cases p <;> exact H
theorem equal_slice {t e : TypeId} (hd : P.underlying t = some (.slice e)) (p : Option Addr) (n c : Nat) (n' c' : Nat) (K : Bool → Heap → Prop) (X : Value → Heap → Prop) (H : K p.isNone h) :
    semWp P (Op.equal t (.slice p n c) (.slice none n' c')) K X h := by
  show semWp P (Op.equalIn (9999 + 1) t _ _) K X h
  rw [Op.equalIn]
  refine underlying_run hd ?_
  cases p <;> exact H
theorem equal_bool {t : TypeId} (hd : P.underlying t = some .bool) (a b : Bool) (K : Bool → Heap → Prop) (X : Value → Heap → Prop) (H : K (a == b) h) :
    semWp P (Op.equal t (.bool a) (.bool b)) K X h := by
  show semWp P (Op.equalIn (9999 + 1) t _ _) K X h
  rw [Op.equalIn]
  refine underlying_run hd ?_
  exact H

theorem denBin_ok {op : BinOp} {t : TypeId} {x y : Operand} {a b : Value} (H : (denBin q P op t x y a b k).wp P Q h) : BinOk P op t x y a b k Q h := by
  unfold denBin at H
  split at H
  case h_1 => obtain ⟨hj, H2⟩ := ite_ok H; subst hj; exact int_bin (by simp) (by simp) rfl H2
  case h_2 => obtain ⟨hj, H2⟩ := ite_ok H; subst hj; exact int_bin (by simp) (by simp) rfl H2
  case h_3 => obtain ⟨hj, H2⟩ := ite_ok H; subst hj; exact int_bin (by simp) (by simp) rfl H2
  case h_4 =>
    obtain ⟨hj, H2⟩ := ite_ok H
    subst hj
    obtain ⟨hn, H3⟩ := chk_ok H2
    refine int_bin (by simp) (by simp) rfl ?_
    simp only [Op.intDiv, if_neg hn]
    exact H3
  case h_5 =>
    obtain ⟨hj, H2⟩ := ite_ok H
    subst hj
    obtain ⟨hn, H3⟩ := chk_ok H2
    refine int_bin (by simp) (by simp) rfl ?_
    simp only [Op.intDiv, if_neg hn]
    exact H3
  case h_6 =>
    obtain ⟨hn, H2⟩ := chk_ok H
    exact shl_ok hn H2
  case h_7 =>
    obtain ⟨hn, H2⟩ := chk_ok H
    exact shr_ok hn H2
  case h_8 => obtain ⟨hj, H2⟩ := ite_ok H; subst hj; exact int_bin (by simp) (by simp) rfl H2
  case h_9 => obtain ⟨hj, H2⟩ := ite_ok H; subst hj; exact int_bin (by simp) (by simp) rfl H2
  case h_10 => obtain ⟨hj, H2⟩ := ite_ok H; subst hj; exact int_bin (by simp) (by simp) rfl H2
  case h_11 => obtain ⟨hj, H2⟩ := ite_ok H; subst hj; exact int_bin (by simp) (by simp) rfl H2
  case h_12 => obtain ⟨hj, H2⟩ := ite_ok H; subst hj; exact int_bin (by simp) (by simp) rfl H2
  case h_13 => obtain ⟨hj, H2⟩ := ite_ok H; subst hj; exact int_bin (by simp) (by simp) rfl H2
  case h_14 =>
    obtain ⟨hn, H2⟩ := chk_ok H
    exact sadd_ok hn H2
  case h_15 => exact H
  case h_16 => exact H
  case h_17 =>
    obtain ⟨d, hd, H2⟩ := under_ok H
    cases d <;> first | exact H2.elim | exact eql_of rfl rfl (equal_ptr hd _) H2
  case h_18 =>
    obtain ⟨d, hd, H2⟩ := under_ok H
    cases d <;> first | exact H2.elim | exact neq_of rfl rfl (equal_ptr hd _) H2
  case h_19 =>
    obtain ⟨d, hd, H2⟩ := under_ok H
    cases d <;> first | exact H2.elim | exact eql_of rfl rfl (equal_slice hd _ _ _ _ _) H2
  case h_20 =>
    obtain ⟨d, hd, H2⟩ := under_ok H
    cases d <;> first | exact H2.elim | exact neq_of rfl rfl (equal_slice hd _ _ _ _ _) H2
  case h_21 =>
    obtain ⟨d, hd, H2⟩ := under_ok H
    cases d <;> first | exact H2.elim | exact eql_of rfl rfl (equal_bool hd _ _) H2
  case h_22 =>
    obtain ⟨d, hd, H2⟩ := under_ok H
    cases d <;> first | exact H2.elim | exact neq_of rfl rfl (equal_bool hd _ _) H2
  case h_23 => exact semWp_mono _ (fun v h' ⟨r, hr, hk⟩ => hr ▸ hk) (fun _ _ x => x) (sem_ok H)
  case h_24 => exact semWp_mono _ (fun v h' ⟨r, hr, hk⟩ => hr ▸ hk) (fun _ _ x => x) (sem_ok H)
  case h_25 => exact denSem_ok _ H

theorem bound_ok {v : Option Value} {d l : Int} (hb : bound d v = some l) : (v = none ∧ l = d) ∨ ∃ j, v = some (.int j l) := by
  cases v with
  | none => simp [bound] at hb; exact .inl ⟨rfl, hb.symm⟩
  | some v =>
    cases v <;> simp [bound] at hb
    subst hb
    exact .inr ⟨_, rfl⟩

theorem sliceBound_ok {α : Type} {j : IntKind} {l : Int} {y : Nat} {code : BoundsCode} {f : Nat → Sem α} {K : α → Heap → Prop} {X : Value → Heap → Prop}
    (h0 : 0 ≤ l) (h1 : l ≤ y) (H : semWp P (f l.toNat) K X h) : semWp P (do let n ← Instr.sliceBound (.int j l) y code; f n) K X h := by
  show semWp P (Sem.bind (Instr.sliceBound (.int j l) y code) f) K X h
  have e : Instr.sliceBound (.int j l) y code = .pure l.toNat := by
    show (if 0 ≤ l ∧ l ≤ y then Sem.pure l.toNat else boundsPanic j l y code) = _
    rw [if_pos ⟨h0, h1⟩]
  rw [e]
  exact H

theorem sliceBounds_ok {b : Bool} {len cap : Nat} {lo hi : Option Value} {l hh : Int} (hl : bound 0 lo = some l) (hhi : bound len hi = some hh)
    (h0 : 0 ≤ l) (h1 : l ≤ hh) (h2 : hh ≤ cap) {α : Type} {f : Nat × Nat × Nat → Sem α} {K : α → Heap → Prop} {X : Value → Heap → Prop}
    (H : semWp P (f (l.toNat, hh.toNat, cap)) K X h) :
    semWp P (do let r ← Instr.sliceBounds b len cap lo hi none; f r) K X h := by
  show semWp P (Sem.bind (Instr.sliceBounds b len cap lo hi none) f) K X h
  refine semWp_bind _ _ ?_
  have h0' : l ≤ (hh.toNat : Int) := by omega
  rcases bound_ok hl with ⟨rfl, rfl⟩ | ⟨j, rfl⟩ <;> rcases bound_ok hhi with ⟨rfl, rfl⟩ | ⟨j', rfl⟩
  · exact H
  · exact sliceBound_ok (f := fun n => Sem.pure (0, n, cap)) (by omega) h2 H
  · refine sliceBound_ok (f := fun n => Sem.pure (n, len, cap)) h0 (by omega) H
  · refine sliceBound_ok (f := fun m => Sem.bind (Instr.sliceBound (.int j l) m .sliceB) fun n => Sem.pure (n, m, cap)) (by omega) h2 ?_
    exact sliceBound_ok (f := fun n => Sem.pure (n, hh.toNat, cap)) h0 h0' H

theorem denSlice_ok {t : TypeId} {x : Value} {lo hi mx : Option Value} (H : (denSlice q P t x lo hi mx k).wp P Q h) :
    semWp P (Instr.sliceAt t x lo hi mx) (fun v h' => (k v).wp P Q h') (fun v h' => Q (.pan [{ v, recovered := false }]) h') h := by
  unfold denSlice at H
  split at H
  · rename_i s hd
    split at H
    · rename_i l hh hl hhh
      obtain ⟨⟨h1, h2, h3⟩, H2⟩ := chk_ok H
      unfold Instr.sliceAt
      refine underlying_run hd ?_
      unfold Instr.slice
      refine underlying_run hd ?_
      exact sliceBounds_ok hl hhh h1 h2 h3 H2
    · exact H.elim
  · rename_i e p n c hd
    split at H
    · rename_i l hh i hl hhh hi
      obtain ⟨⟨h1, h2, h3⟩, H2⟩ := chk_ok H
      unfold Instr.sliceAt
      refine underlying_run hd ?_
      unfold Instr.slice
      refine underlying_run hd ?_
      refine sliceBounds_ok hl hhh h1 h2 h3 ?_
      exact sizeOf_run hi H2
    · exact H.elim
  · exact semT_ok H

theorem denCall_ok {c : Call} {t : TypeId} (H : (denCall q P ρ c t k).wp P Q h) :
    OpOk q P (do let d ← resolve ρ c t; invoke d.target d.args) k Q h := by
  unfold denCall at H
  split at H
  · rename_i b hc
    have e : resolve ρ c t = .pure { target := .builtin b c.argTypes t (c.args.map fun | .const _ => true | _ => false), args := c.args.map ρ } := by
      unfold resolve
      rw [hc]
      rfl
    rw [e]
    show OpOk q P (builtin b c.argTypes t _ (c.args.map ρ)) k Q h
    cases b <;> first | exact H.elim | skip
    case append => exact ok_v (semT_ok H)
    case cap =>
      dsimp only at H
      split at H <;> first | exact H.elim | skip
      rename_i at0 _ x _ h1 h2
      refine ok_v ?_
      have e1 : c.argTypes[0]? = some at0 := by rw [← Array.getElem?_toList, h1]; rfl
      have e2 : (c.args.map ρ)[0]? = some x := by rw [← Array.getElem?_toList, h2]; rfl
      split at H
      · rename_i hd
        show semWp P (Builtin.cap_ c.argTypes t (c.args.map ρ)) _ _ _
        unfold Builtin.cap_
        rw [e1, e2]
        exact underlying_run hd H
      · exact semT_ok H
    case clear => exact ok_v (semWp_mono _ (fun _ _ ⟨_, hx, hk⟩ => by subst hx; exact hk) (fun _ _ x => x) (sem_ok H))
    case copy => exact ok_v (semWp_mono _ (fun _ _ ⟨_, hx, hk⟩ => by subst hx; exact hk) (fun _ _ x => x) (sem_ok H))
    case delete => exact ok_v (semWp_mono _ (fun _ _ ⟨_, hx, hk⟩ => by subst hx; exact hk) (fun _ _ x => x) (sem_ok H))
    case len =>
      dsimp only at H
      split at H <;> first | exact H.elim | skip
      rename_i at0 _ x _ h1 h2
      refine ok_v ?_
      have e1 : c.argTypes[0]? = some at0 := by rw [← Array.getElem?_toList, h1]; rfl
      have e2 : (c.args.map ρ)[0]? = some x := by rw [← Array.getElem?_toList, h2]; rfl
      split at H
      · rename_i hd
        show semWp P (Builtin.len_ c.argTypes t (c.args.map ρ)) _ _ _
        unfold Builtin.len_
        rw [e1, e2]
        exact underlying_run hd H
      · rename_i hd
        show semWp P (Builtin.len_ c.argTypes t (c.args.map ρ)) _ _ _
        unfold Builtin.len_
        rw [e1, e2]
        exact underlying_run hd H
      · rename_i x _ _ n e hd
        show semWp P (Builtin.len_ c.argTypes t (c.args.map ρ)) _ _ _
        unfold Builtin.len_
        rw [e1, e2]
        refine underlying_run hd ?_
        cases x <;> exact H
      · exact semT_ok H
    case max => exact ok_v (denSem_ok _ H)
    case min => exact ok_v (denSem_ok _ H)
  · rename_i f hc
    split at H
    · rename_i g first cap hf
      split at H
      · rename_i fn hfn
        split at H
        · rename_i hname hbody
          have e : resolve ρ c t = .pure { target := .fn (.func g) cap, args := first ++ c.args.map ρ } := by
            unfold resolve
            rw [hc]
            simp only [hf, Deferred.ofValue]
            rfl
          rw [e]
          show OpOk q P (callFunc g ((first ++ c.args.map ρ) ++ cap)) k Q h
          unfold OpOk callFunc
          simp only [program, bind, Sem.bind, semWp, hfn, hname, hbody, Bool.false_eq_true, if_false]
          cases q with
          | true => exact H.elim
          | false =>
          simp only [cond_false, T.wp] at H
          simp only [pure, semWp, NextK]
          refine ⟨trivial, CallsH.mono H fun e h' he => ?_⟩
          cases e with
          | ret v => obtain ⟨x, hx, hk⟩ := he; subst hx; exact hk
          | pan c => exact he
        · exact H.elim
      · exact H.elim
    · exact H.elim
  · exact H.elim

theorem denOp_ok {o : Oper} (H : (denOp q P ρ o k).wp P Q h) : OpOk q P (execOp ρ o) k Q h := by
  obtain ⟨dst, op, type, pos, after, guard⟩ := o
  cases op <;> simp only [denOp] at H <;> first | exact H.elim | skip
  case move x => exact H
  case assign x => exact H
  case pick c a b =>
    split at H
    · rename_i t ht
      show OpOk q P (do pure (.value (if ← asBool (ρ c) then ρ a else ρ b))) k Q h
      rw [ht]
      cases t <;> exact H
    · exact H.elim
  case alloc e => exact ok_v (denSem_ok _ H)
  case box e x => exact ok_v (denSem_ok _ H)
  case build t ps => exact ok_v (denSem_ok _ H)
  case buildSlice t n ps => exact ok_v (denSem_ok _ H)
  case insert t m key x => exact ok_u (semU_ok H)
  case load t a =>
    split at H
    · rename_i a' ha
      refine ok_v ?_
      show semWp P (Instr.loadAt t (ρ a)) _ _ _
      rw [ha]
      exact semWp_mono _ (fun _ _ ⟨h1, h2⟩ => h1 ▸ h2) (fun _ _ hx => hx.elim) (denLoad_ok H)
    · exact H.elim
  case store t a x => exact ok_u (denSem_ok _ H)
  case nilCheck x =>
    split at H
    · rename_i p hp
      obtain ⟨a, rfl, H2⟩ := deref_ok H
      simp only [execOp, hp]
      exact H2
    · rename_i f a b hp
      simp only [execOp, hp]
      exact H
    · rename_i t v hp
      simp only [execOp, hp]
      exact H
    · exact H.elim
  case binOp op xt x y yt => exact ok_v (denBin_ok H)
  case unOp op xt x => exact ok_v (denSem_ok _ H)
  case convert src dst x =>
    refine ok_v ?_
    split at H
    · exact denSem_ok _ H
    · exact denSem_ok _ H
    · exact semT_ok H
  case makeInterface t x => exact ok_v (denSem_ok _ H)
  case makeFunc fn first captured => exact H
  case makeMap t r => exact ok_v (denSem_ok _ H)
  case makeChan t s => exact ok_v (semT_ok H)
  case makeSlice t l c => exact ok_v (semT_ok H)
  case slice t x lo hi mx => exact ok_v (denSlice_ok H)
  case fieldAddr s x f => exact ok_v (denSem_ok _ H)
  case field t x f => exact ok_v (denSem_ok _ H)
  case indexAddr t x ix =>
    refine ok_v ?_
    show semWp P (Instr.indexAt t (ρ x) (ρ ix)) _ _ _
    split at H
    · rename_i e p n c j i hd hx hix
      split at H
      · rename_i info hinfo
        obtain ⟨a, rfl, H2⟩ := deref_ok H
        obtain ⟨hb, H3⟩ := chk_ok H2
        rw [hx, hix]
        simp only [Instr.indexAt, Instr.sureAddr, asIntOf, underlying, program, bind, Sem.bind, semWp, hd, pure, Go.sizeOf, typeInfo, hinfo, if_pos hb]
        exact H3
      · exact H.elim
    · rename_i n e a j i hd hx hix
      split at H
      · rename_i info hinfo
        obtain ⟨hb, H3⟩ := chk_ok H
        rw [hx, hix]
        simp only [Instr.indexAt, Instr.sureAddr, asIntOf, underlying, program, bind, Sem.bind, semWp, hd, pure, Go.sizeOf, typeInfo, hinfo, if_pos hb]
        exact H3
      · exact H.elim
    · exact H.elim
  case index t x ix =>
    refine ok_v ?_
    show semWp P (Instr.index t (ρ x) (ρ ix)) _ _ _
    split at H
    · rename_i s j i hd hx hix
      obtain ⟨hb, H3⟩ := chk_ok H
      rw [hx, hix]
      unfold Instr.index
      simp only [asIntOf]
      refine underlying_run hd ?_
      have e : (if 0 ≤ i then s[i.toNat]? else none) = some (byteAt s i.toNat) := by
        rw [if_pos hb.1]
        have hlt : i.toNat < s.size := by omega
        rw [getElem?_pos s i.toNat hlt]
        unfold byteAt
        have : i.toNat < s.data.toList.length := by simpa using hlt
        rw [List.getD_eq_getElem?_getD, List.getElem?_eq_getElem this]
        rfl
      dsimp only
      rw [e]
      exact H3
    · exact denSem_ok _ H
  case lookup t x ix ok => exact ok_v (semT_ok H)
  case mapUpdate t m key x => exact ok_u (semU_ok H)
  case range t x => exact ok_v (semWp_mono _ (fun _ _ ⟨_, hx, hk⟩ => by subst hx; exact hk) (fun _ _ x => x) (sem_ok H))
  case next it b => exact ok_v (semWp_mono _ (fun _ _ ⟨_, hx, hk⟩ => by subst hx; exact hk) (fun _ _ x => x) (sem_ok H))
  case typeAssert x xt at_ ok => exact ok_v (semT_ok H)
  case extract t ix => exact ok_v (denSem_ok _ H)
  case call c => exact denCall_ok H
  case panic x => exact ok_v (denSem_ok _ H)

end
end Go.Eng
