/-
  Lays2, From, Backs, Visit, Walk, SimW, SolveF, Solved, Loops, Sim2, P1, P2, P3, P4, Laws, P5, put together.
  Conditions: none; each part tells its own.
-/
import Derived.Test.YtbpbfoemghcfaaaDoorProg
import Derived.Shelf.SlicesE.DeleteFunc
import Derived.KernelRfl
import Derived.Test.YtbpbfoemghcfaaaDoorK3
import Derived.Test.YtbpbfoemghcfaaaDoorK2
import Derived.Shelf.GgClosure.Gives
import Derived.Test.YtbpbfoemghcfaaaDoorRows
import Derived.MakeChecks
import Derived.Stop.LaidErr
import Derived.Lib.LaidTab
/-
  The shelf's premises at this program: printed by lays2.py. Conditions: none.
-/
namespace Go.Proofs.YtbpbfoemghcfaaaDoor
open Go Go.Shelf Go.Proofs
set_option maxRecDepth 100000

def renSlLaysHn10 : Ren := ⟨fun x => bif Nat.beq x 6 then 77 else bif Nat.beq x 10 then 56 else 0, fun x => bif Nat.beq x 0 then 0 else bif Nat.beq x 3 then 3 else bif Nat.beq x 4 then 4 else bif Nat.beq x 22 then 28 else bif Nat.beq x 23 then 3 else bif Nat.beq x 25 then 40 else 0, fun _ => 0⟩

theorem laysSlLaysHn10 : SlLaysH.n10 Tryd.prog renSlLaysHn10 where
  mixed := by kernel_rfl
  f6 := ⟨ "slices.IndexFunc[[]int,int]", by decide, Tryd.func77.trans (congrArg some (by kernel_rfl))⟩
  f10 := ⟨ "slices.DeleteFunc[[]int,int]", by decide, Tryd.func56.trans (congrArg some (by kernel_rfl))⟩
  t0 := Tryd.underlying0
  a0 := Tryd.isAgg0
  z0 := Tryd.sizeOf0
  v0 := Tryd.zeroValue0
  t3 := Tryd.underlying3
  a3 := Tryd.isAgg3
  z3 := Tryd.sizeOf3
  v3 := Tryd.zeroValue3
  t4 := Tryd.underlying4
  a4 := Tryd.isAgg4
  z4 := Tryd.sizeOf4
  v4 := Tryd.zeroValue4
  t22 := Tryd.underlying28
  a22 := Tryd.isAgg28
  z22 := Tryd.sizeOf28
  v22 := Tryd.zeroValue28
  a23 := Tryd.isAgg3
  z23 := Tryd.sizeOf3
  t25 := Tryd.underlying40
  a25 := Tryd.isAgg40
  z25 := Tryd.sizeOf40
  v25 := Tryd.zeroValue40

end Go.Proofs.YtbpbfoemghcfaaaDoor

/-
  DIGRAPH: from: the places that one leads to, of so many.
  Conditions: as many edges as the model's bounds let by.
-/
namespace Go.Proofs.YtbpbfoemghcfaaaDoor
open Go Go.Eng Go.RowKit Go.Shelf Go.Sort
set_option linter.unusedVariables false
attribute [local go_sem] Oper.semAt_some
set_option maxRecDepth 100000
theorem del57 {W : World} {b : Nat} {n x : Int} (hc : W.cell? ⟨b, 0, none⟩ = some (.int .i64 n)) : FnGives Tryd.prog 57 #[.pointer (some ⟨b, 0, none⟩)] #[.int .i64 x] (.bool (outOf n x)) W := by
  refine (callsIn_wide (n := 3)).1 ?_
  refine callsIn_of_wp Tryd.func57 rfl trivial ?_ rfl
  simp only [Tryd.ntmps57, List.size_toArray, List.length_cons, List.length_nil, Nat.reduceAdd, Nat.reduceSub, Array.replicate_succ, Array.replicate_zero, List.push_toArray, List.append_toArray, List.nil_append, List.cons_append]
  have hmx : Tryd.prog.follows .mixedOrders = true := mixed
  by_cases h0 : x < 0
  · have e : outOf n x = true := by unfold outOf; rw [decide_eq_true h0]; rfl
    rw [e]
    gi_wp2
    go_ret
    exact ⟨rfl, 0, rfl⟩
  · have e : outOf n x = decide (n ≤ x) := by unfold outOf; rw [decide_eq_false h0]; rfl
    rw [e]
    gi_wp2
    go_ret
    exact ⟨rfl, 0, rfl⟩
theorem idx77_none (n : Nat) (p : Option Addr) (cap : Nat) (fv : Value) (W : World) : CallsIn Fence.wide n Tryd.prog 77 #[.slice p 0 cap, fv] W fun e W' => e = .returned (.int .i64 (-1)) ∧ W' = W := by
  refine callsIn_of_wp Tryd.func77 rfl trivial ?_ rfl
  simp only [Tryd.ntmps77, List.size_toArray, List.length_cons, List.length_nil, Nat.reduceAdd, Nat.reduceSub, Array.replicate_succ, Array.replicate_zero, List.push_toArray, List.append_toArray, List.nil_append, List.cons_append]
  gi_wp2
  refine wpIn_loop_rounds 1 ?_
  rw [roundsIn_succ]
  gi_wp2
  go_ret
  exact ⟨rfl, rfl⟩
theorem del56_none (n : Nat) (hn : 1 ≤ n) (p : Option Addr) (cap : Nat) (fv : Value) (W : World) : CallsIn Fence.wide n Tryd.prog 56 #[.slice p 0 cap, fv] W fun e W' => e = .returned (.slice p 0 cap) ∧ W' = W := by
  refine callsIn_of_wp Tryd.func56 rfl trivial ?_ rfl
  simp only [Tryd.ntmps56, List.size_toArray, List.length_cons, List.length_nil, Nat.reduceAdd, Nat.reduceSub, Array.replicate_succ, Array.replicate_zero, List.push_toArray, List.append_toArray, List.nil_append, List.cons_append]
  gi_wp2
  refine ⟨trivial, (idx77_none (n - 1) p cap fv W).mono ?_⟩
  rintro e W' ⟨rfl, rfl⟩
  gi_wp2
  go_ret
  exact ⟨rfl, rfl⟩
/-- DeleteFunc of what is out of bounds. -/
theorem del56 {φ : Snap} {h : Heap} {F : List Chk} {t : Slc} {l : List Int} {b : Nat} {n : Int} (s0 : St φ (⟨Rep.row 3 (Ro.int .i64), [.slice t.1 t.2.1 t.2.2], l⟩ :: ⟨Rep.raw 3, [.pointer (some ⟨b, 0, none⟩)], [.int .i64 n]⟩ :: F) h) :
    CallsH Tryd.prog 56 [.slice t.1 t.2.1 t.2.2, .func (.func 57) #[] #[.pointer (some ⟨b, 0, none⟩)]] h (Back fun v h' => ∃ (ψ : Snap) (y : Slc), Sub φ ψ ∧ v = ((.one (.atom .slice)) : Sh).val y ∧ Ro.SliceIs (Ro.int .i64) ψ y (l.filter fun x => !outOf n x) ∧ St ψ F h') := by
  intro w hw
  subst hw
  have hcn : w.cell? ⟨b, 0, none⟩ = some (.int .i64 n) := (s0.at 1).cell rfl
  rcases s0.rowHolds rfl (Value.int .i64) (fun vs ha => ⟨l, all_atom ha⟩) with ⟨hl, hn⟩ | ⟨bb, off, bs, ht, hall, hn, hlen, hlt, hfit, hH⟩
  · subst hl
    rw [hn]
    have hc := (callsIn_wide (n := 3)).1 (del56_none 3 (by decide) t.1 t.2.2 (.func (.func 57) #[] #[.pointer (some ⟨b, 0, none⟩)]) w)
    refine (show Calls Tryd.prog 56 #[.slice t.1 0 t.2.2, _] w _ from hc).mono ?_
    rintro e w' ⟨rfl, rfl⟩
    obtain ⟨ψ, le, hsl, s1⟩ := s0.freezeRow
    refine ⟨Same.refl _, _, rfl, ψ, t, le, by rw [← hn]; rfl, hsl, s1.tail⟩
  · have hbl : bs = l := int_inj (all_atom hall)
    subst hbl
    rw [ht, hn]
    have hmax := s0.rowMax
    have hcap : bs.length ≤ t.2.2 := by
      obtain ⟨_, _, hsl, _⟩ := s0.freezeRow
      have := hsl.2.1
      omega
    have hc := AnyE.slices_DeleteFunc laysSlLaysHn10 (Value.int .i64) (fun x => rfl) (outOf n) 57 #[.pointer (some ⟨b, 0, none⟩)] (enters_of Tryd.func57 (by kernel_rfl) rfl) 0 (Tryd.zeroValue3) bb off t.2.2 bs.toArray w
      (fun W x hW => del57 ((hW.cell (p := ⟨b, 0, none⟩) (lt_of_cellH hcn)).trans hcn))
      (fun m os dk x hdk => del57 (((s0.rowSorted ht (Value.int .i64) dk.toList (all_ints _) (by simpa using hdk) (by simpa using hdk) hfit m os).at 1).cell rfl)) hH (by unfold maxLen at hmax; simp; omega) (by simpa using hcap)
    obtain ⟨fl, hfl⟩ : ∃ fl, (bs.filter fun x => !outOf n x) = fl := ⟨_, rfl⟩
    have hfle : fl.length ≤ bs.length := by rw [← hfl]; exact List.length_filter_le _ _
    have hsz : bs.toArray.size = bs.length := by simp
    have htl : bs.toArray.toList = bs := rfl
    rw [hsz, htl, hfl] at hc
    refine (show Calls Tryd.prog 56 #[.slice (some ⟨bb, off, none⟩) bs.length t.2.2, _] w _ from hc).mono ?_
    rintro e w' ⟨rfl, q, rfl⟩
    have hln : (fl ++ List.replicate (bs.length - fl.length) (0 : Int)).length = bs.length := by simp; omega
    have s1 := s0.rowSorted ht (Value.int .i64) (fl ++ List.replicate (bs.length - fl.length) (0 : Int)) (all_ints _) hln hln hfit q #[]
    rw [grow_empty] at s1
    obtain ⟨ψ, le, hsl, s2⟩ := s1.freezeRow
    have hct := Ro.SliceIs.cut (a := 0) (b := (fl.length : Int)) (m := fl) hsl (by
      unfold cut
      rw [if_pos ⟨by omega, by omega, by rw [hln]; omega⟩]
      simp) (sz := 1) rfl
    refine ⟨⟨rfl, rfl, rfl, by rw [size_putRow]; exact Nat.le_refl _⟩, _, rfl, ψ, (some ⟨bb, off, none⟩, fl.length, t.2.2), le, rfl, ?_, s2.tail⟩
    rw [hfl]
    have h3 := hct.2
    rw [ht] at h3
    have h4 : (if t.2.2 = Int.toNat 0 then some (⟨bb, off, none⟩ : Addr) else Option.map (fun x => Addr.add x (Int.toNat 0 * 1)) (some ⟨bb, off, none⟩)) = some ⟨bb, off, none⟩ := by
      split
      · rfl
      · rfl
    rw [h4] at h3
    exact h3
theorem from_sim {φ : Snap} {h : Heap} {F : List Chk} {t : Slc} {ll : List (List Int)} {x n : Int} (k : Ro.SliceIs (Ro.list (Ro.int .i64)) φ t ll) (s0 : St φ F h) (h0 : 0 ≤ x) (hb : ∀ l ∈ ll, l.length ≤ 1073741824) :
    CallsH Tryd.prog 45 [.slice t.1 t.2.1 t.2.2, .int .i64 x, .int .i64 n] h (Back fun v h' => ∃ (ψ : Snap) (y : Slc), Sub φ ψ ∧ v = ((.one (.atom .slice)) : Sh).val y ∧ Ro.SliceIs (Ro.int .i64) ψ y (fromD ll x n) ∧ St ψ F h') := by
  refine calls_of mixed Tryd.func45 ?_
  rw [digraph_from_den]
  unfold digraph_from_T
  refine s_new (vs := [.int .i64 n]) s0 ?_
  intro r h1 s1
  have hlen := k.length
  by_cases hx : x ≥ ((t.2.1 : Nat) : Int)
  · rw [decide_eq_true hx, cond_true]
    refine finOf_back ⟨φ, (none, 0, 0), Sub.refl _, rfl, ?_, s1.tail⟩
    unfold fromD
    rw [if_pos (by omega)]
    exact Ro.SliceIs.nil _ _
  · rw [decide_eq_false hx, cond_false]
    have hlt : x.toNat < ll.length := by omega
    have hix : idx ll x = some ll[x.toNat] := by
      unfold idx
      rw [if_pos h0, List.getElem?_eq_getElem hlt]
    obtain ⟨a, cs, ha, hi, ⟨t1, e1, k1⟩, hcs⟩ := k.get hix
    subst e1
    refine t_deref _ ha (t_chk hi ?_)
    refine s_load (x := t1) (by
      have h3 := cellS_mono s1.sub (hcs 0 _ rfl)
      exact h3) rfl ?_
    refine s_call (clone46_ro k1 s1 (r := ll[x.toNat]) (by unfold cloneD; rw [if_pos (hb _ (List.getElem_mem _))])) ?_
    rintro _ h2 ⟨ψ1, y1, l1, le1, rfl, rfl, s2⟩
    refine ⟨y1, rfl, ?_⟩
    refine s_call (del56 s2) ?_
    rintro _ h3 ⟨ψ2, y2, le2, rfl, k2, s3⟩
    refine ⟨y2, rfl, ?_⟩
    refine finOf_back ⟨ψ2, y2, le1.trans le2, rfl, ?_, s3⟩
    unfold fromD
    rw [if_neg (by omega), List.getElem?_eq_getElem hlt]
    exact k2
end Go.Proofs.YtbpbfoemghcfaaaDoor

/-
  DIGRAPH: what walk hands its places and its parts to: Parts's closures.
  Conditions: less than 2^30 numbers.
-/
namespace Go.Proofs.YtbpbfoemghcfaaaDoor
open Go Go.Eng Go.RowKit
set_option linter.unusedVariables false
set_option maxRecDepth 100000
theorem parts1_sim {φ : Snap} {h : Heap} {F : List Chk} {x y : Int} (s0 : St φ F h) : CallsH Tryd.prog 29 [.int .i64 x, .int .i64 y] h (Back fun v h' => v = .tuple #[] ∧ St φ F h') := by
  refine calls_of mixed Tryd.func29 ?_
  rw [digraph_Parts_1_den]
  exact finOf_back ⟨rfl, s0⟩
theorem parts2_sim {φ : Snap} {h : Heap} {F : List Chk} {t o : Slc} {l : List Int} {ll : List (List Int)} {r : Nat}
    (s0 : St φ (⟨Rep.row 3 (Ro.int .i64), [.slice t.1 t.2.1 t.2.2], l⟩ :: ⟨Rep.raw 22, [.pointer (some ⟨r, 0, none⟩)], [.slice o.1 o.2.1 o.2.2]⟩ :: ⟨Rep.row 28 (Ro.list (Ro.int .i64)), [.slice o.1 o.2.1 o.2.2], ll⟩ :: F) h)
    (hl : l.length < 1073741824) (hll : ll.length < 1073741824) :
    CallsH Tryd.prog 30 [.slice t.1 t.2.1 t.2.2, .pointer (some ⟨r, 0, none⟩)] h (Back fun v h' => v = .tuple #[] ∧ ∃ (ψ : Snap) (o' : Slc), Sub φ ψ ∧
      St ψ (⟨Rep.raw 22, [.pointer (some ⟨r, 0, none⟩)], [.slice o'.1 o'.2.1 o'.2.2]⟩ :: ⟨Rep.row 28 (Ro.list (Ro.int .i64)), [.slice o'.1 o'.2.1 o'.2.2], ll ++ [sortI l]⟩ :: F) h') := by
  refine calls_of mixed Tryd.func30 ?_
  rw [digraph_Parts_2_den]
  unfold digraph_Parts_2_T
  refine s_call (sort31 s0 (by omega)) ?_
  rintro _ h1 ⟨rfl, s1⟩
  refine ⟨(), rfl, ?_⟩
  obtain ⟨ψ, le, k1, s2⟩ := s1.freezeRow
  refine s_loadR (b := r) (j := 0) (x := o) s2 rfl ?_
  refine s_new (vs := [.slice t.1 t.2.1 t.2.2]) s2 ?_
  intro r3 h2 s3
  have cw := St.cells s3
  have s4 := s3.tail.at1
  refine s_append (r := Ro.list (Ro.int .i64)) (ms := [sortI l]) appT_22_22 s4 rfl cw (.cons (a := [_]) ⟨t, rfl, k1⟩ .nil) rfl (l' := ll ++ [sortI l]) (by unfold app; rw [if_pos (by simp; omega)]) ?_
  intro t5 h3 s5
  refine s_put (b := r) (j := 0) (v := .slice t5.1 t5.2.1 t5.2.2) s5.at1 rfl (Nat.lt_succ_self 0) ?_
  intro h4 s6
  exact finOf_back ⟨rfl, ψ, t5, le, s6⟩
end Go.Proofs.YtbpbfoemghcfaaaDoor

/-
  DIGRAPH: walk's closure, whatever it hands its places and its parts to.
  Conditions: as the plain function promises.
-/
namespace Go.Proofs.YtbpbfoemghcfaaaDoor
open Go Go.Eng Go.RowKit
set_option linter.unusedVariables false
set_option maxRecDepth 100000
/-- A function value that is known is called. -/
theorem s_callV {P : Program} {Q : Leaf → Heap → Prop} {h : Heap} {f : FuncId} {fn : Func} {first cap args : Array Value} {sh : Sh} {k : Value → T} (hf : P.funcs[f]? = some fn) (hn : (fn.name == "runtime.NumGoroutine") = false) (hb : fn.body.isNone = false) (hsh : resSh P fn = sh)
    (H : (T.call f ((first ++ args) ++ cap).toList sh fun x => k (sh.val x)).wp P Q h) : (callV false P (.func (.func f) first cap) args k).wp P Q h := by
  subst hsh
  unfold callV
  simp only [hf, hn, hb]
  exact H
/-- A row is cut: what lies behind is capacity. -/
theorem St.rowTake {α : Type} {φ : Snap} {h : Heap} {Γ : List Chk} {ty : TypeId} {r : Ro α} {t : Slc} {l : List α} (H : St φ (⟨Rep.row ty r, [.slice t.1 t.2.1 t.2.2], l⟩ :: Γ) h) {k : Nat} (hk : k ≤ l.length) :
    St φ (⟨Rep.row ty r, [.slice t.1 k t.2.2], l.take k⟩ :: Γ) h := by
  obtain ⟨F, ⟨p, n, c, vs, e, hn, hc, hfu, ho, hall, hF⟩, h2, H⟩ := H
  have hn : l.length = n := hn
  simp only [List.cons.injEq, Value.slice.injEq, and_true] at e
  obtain ⟨e1, e2, e3⟩ := e
  refine ⟨F, ⟨p, k, c, vs.take (k * r.sz), by rw [e1, e3], by rw [List.length_take]; omega, hc, hfu, ?_, hall.take k, hF⟩, h2, H⟩
  rcases ho with ⟨hp, hn0, hc0, hv0⟩ | ⟨b, off, arr, hp, hb0, g1, g2, g3, g4⟩
  · exact .inl ⟨hp, by omega, hc0, by rw [hv0]; exact List.take_nil⟩
  · refine .inr ⟨b, off, arr, hp, hb0, ?_, by omega, g3, fun i v hv => ?_⟩
    · rw [List.length_take, g1]
      exact Nat.min_eq_left (Nat.mul_le_mul_right _ (by omega))
    · rw [List.getElem?_take] at hv
      split at hv
      · exact g4 i v hv
      · cases hv
/-- walk's pieces. -/
abbrev walkC (c1 c2 : Nat) (s o : Slc) (stk low : List Int) : List Chk := [⟨Rep.raw 28, [.pointer (some ⟨c1, 0, none⟩)], [.slice s.1 s.2.1 s.2.2]⟩, ⟨Rep.row 3 (Ro.int .i64), [.slice s.1 s.2.1 s.2.2], stk⟩, ⟨Rep.raw 28, [.pointer (some ⟨c2, 0, none⟩)], [.slice o.1 o.2.1 o.2.2]⟩, ⟨Rep.row 3 (Ro.int .i64), [.slice o.1 o.2.1 o.2.2], low⟩]
section
variable {X A : Type} (K : X → List Chk) (al : X → A) (ledA : A → Int → Int → Option A) (partA : A → List Int → Option A) (gl gp : Nat) (bl bp : Array Value)
def LedOk : Prop := ∀ {φ : Snap} {h : Heap} {F : List Chk} {v : X} {x to : Int} {a' : A}, ledA (al v) x to = some a' → St φ (K v ++ F) h →
  CallsH Tryd.prog gl (((#[] : Array Value) ++ #[Value.int .i64 x, Value.int .i64 to]) ++ bl).toList h (Back fun u h' => u = .tuple #[] ∧ ∃ (ψ : Snap) (v' : X), Sub φ ψ ∧ al v' = a' ∧ St ψ (K v' ++ F) h')
def PartOk : Prop := ∀ {φ : Snap} {h : Heap} {F : List Chk} {v : X} {t : Slc} {l : List Int} {a' : A}, partA (al v) l = some a' → St φ (⟨Rep.row 3 (Ro.int .i64), [.slice t.1 t.2.1 t.2.2], l⟩ :: (K v ++ F)) h →
  CallsH Tryd.prog gp (((#[] : Array Value) ++ #[Value.slice t.1 t.2.1 t.2.2]) ++ bp).toList h (Back fun u h' => u = .tuple #[] ∧ ∃ (ψ : Snap) (v' : X), Sub φ ψ ∧ al v' = a' ∧ St ψ (K v' ++ F) h')
abbrev visitCaps (c1 c2 c3 c4 c5 c6 c7 : Nat) : Array Value := #[.pointer (some ⟨c1, 0, none⟩), .pointer (some ⟨c2, 0, none⟩), .pointer (some ⟨c3, 0, none⟩), .pointer (some ⟨c4, 0, none⟩), .pointer (some ⟨c5, 0, none⟩), .pointer (some ⟨c6, 0, none⟩), .pointer (some ⟨c7, 0, none⟩)]
/-- The boxes that are never written again. -/
structure Boxes (φ : Snap) (t : Slc) (n : Int) (c1 c2 c3 c4 c5 c6 c7 : Nat) : Prop where
  edges : cellS φ ⟨c3, 0, none⟩ = some (.slice t.1 t.2.1 t.2.2)
  num : cellS φ ⟨c4, 0, none⟩ = some (.int .i64 n)
  visit : cellS φ ⟨c5, 0, none⟩ = some (.func (.func 44) #[] (visitCaps c1 c2 c3 c4 c5 c6 c7))
  led : cellS φ ⟨c6, 0, none⟩ = some (.func (.func gl) #[] bl)
  part : cellS φ ⟨c7, 0, none⟩ = some (.func (.func gp) #[] bp)
theorem Boxes.mono {φ ψ : Snap} {t : Slc} {n : Int} {c1 c2 c3 c4 c5 c6 c7 : Nat} (H : Boxes gl gp bl bp φ t n c1 c2 c3 c4 c5 c6 c7) (hs : Sub φ ψ) : Boxes gl gp bl bp ψ t n c1 c2 c3 c4 c5 c6 c7 :=
  ⟨cellS_mono hs H.edges, cellS_mono hs H.num, cellS_mono hs H.visit, cellS_mono hs H.led, cellS_mono hs H.part⟩
/-- What a call of visit promises. -/
def VisitOk (rec : WalkS A → Int → Option (WalkS A)) (ll : List (List Int)) (n : Int) (t : Slc) (c1 c2 c3 c4 c5 c6 c7 : Nat) : Prop :=
  ∀ {φ : Snap} {h : Heap} {F : List Chk} {v : X} {s o : Slc} {stk low stk' low' : List Int} {x : Int} {a' : A}, Boxes gl gp bl bp φ t n c1 c2 c3 c4 c5 c6 c7 → Ro.SliceIs (Ro.list (Ro.int .i64)) φ t ll →
    rec (low, stk, al v) x = some (low', stk', a') → St φ (walkC c1 c2 s o stk low ++ (K v ++ F)) h →
    CallsH Tryd.prog 44 (((#[] : Array Value) ++ #[Value.int .i64 x]) ++ visitCaps c1 c2 c3 c4 c5 c6 c7).toList h (Back fun u h' => u = .tuple #[] ∧ ∃ (ψ : Snap) (v' : X) (s' : Slc), Sub φ ψ ∧ al v' = a' ∧ St ψ (walkC c1 c2 s' o stk' low' ++ (K v' ++ F)) h')
/-- A function of two or one that hands nothing back. -/
def Callee (g : FuncId) : Prop := ∃ fn, Tryd.prog.funcs[g]? = some fn ∧ (fn.name == "runtime.NumGoroutine") = false ∧ fn.body.isNone = false ∧ resSh Tryd.prog fn = .tuple []
theorem callee44 : Callee 44 := ⟨Tryd.f44, Tryd.func44, by decide, by kernel_rfl, by kernel_rfl⟩
theorem Callee.call {P' : Leaf → Heap → Prop} {h : Heap} {g : FuncId} {cap args : Array Value} {k : Value → T} (H : Callee g) {S : Value → Heap → Prop} (hc : CallsH Tryd.prog g (((#[] : Array Value) ++ args) ++ cap).toList h (Back S)) (hk : ∀ h', S (.tuple #[]) h' → (k (.tuple #[])).wp Tryd.prog P' h') (hu : ∀ v h', S v h' → v = .tuple #[]) :
    (callV false Tryd.prog (.func (.func g) #[] cap) args k).wp Tryd.prog P' h := by
  obtain ⟨fn, h1, h2, h3, h4⟩ := H
  refine s_callV h1 h2 h3 h4 ?_
  refine s_call hc ?_
  intro v h' hS
  have := hu v h' hS
  subst this
  exact ⟨(), rfl, hk h' hS⟩
abbrev WalkI (K : X → List Chk) (al : X → A) (c1 c2 : Nat) (o : Slc) (F : List Chk) (ψ0 : Snap) (w : Heap) (g : WalkS A) : Prop := ∃ (ψ : Snap) (v : X) (s : Slc), Sub ψ0 ψ ∧ al v = g.2.2 ∧ St ψ (walkC c1 c2 s o g.2.1 g.1 ++ (K v ++ F)) w
set_option maxHeartbeats 2000000 in
theorem visit_step {ll : List (List Int)} {n : Int} {t : Slc} {c1 c2 c3 c4 c5 c6 c7 : Nat} {rec : WalkS A → Int → Option (WalkS A)} (hl : LedOk K al ledA gl bl) (hp : PartOk K al partA gp bp) (cl : Callee gl) (cp : Callee gp)
    (ih : VisitOk K al gl gp bl bp rec ll n t c1 c2 c3 c4 c5 c6 c7) : VisitOk K al gl gp bl bp (visitB ll n ledA partA rec) ll n t c1 c2 c3 c4 c5 c6 c7 := by
  intro φ h F v s o stk low stk' low' x a' B k hd s0
  refine calls_of mixed Tryd.func44 ?_
  rw [show denFun Tryd.prog Tryd.f44 (((#[] : Array Value) ++ #[Value.int .i64 x]) ++ visitCaps c1 c2 c3 c4 c5 c6 c7).toList = _ from digraph_walk_1_den x c1 c2 c3 c4 c5 c6 c7]
  unfold digraph_walk_1_T
  unfold visitB at hd
  obtain ⟨stk1, e1, hd⟩ := Option.bind_eq_some_iff.1 hd
  obtain ⟨low1, e2, hd⟩ := Option.bind_eq_some_iff.1 hd
  obtain ⟨hb, hd⟩ := need_some hd
  obtain ⟨st3, e3, hd⟩ := Option.bind_eq_some_iff.1 hd
  refine s_loadR (b := c1) (j := 0) (x := s) s0 rfl ?_
  refine s_new (vs := [.int .i64 x]) s0 ?_
  intro r2 h1 s1
  have cw := St.cells s1
  have s2 := s1.tail.at1
  refine s_append (r := Ro.int .i64) (ms := [x]) appT_28_28 s2 rfl cw (.cons (a := [_]) rfl .nil) rfl e1 ?_
  intro s' h2 s3
  refine s_put (b := c1) (j := 0) (v := .slice s'.1 s'.2.1 s'.2.2) s3.at1 rfl (Nat.lt_succ_self 0) ?_
  intro h3 s4
  refine s_loadR (b := c1) (j := 0) (x := s') s4 rfl ?_
  refine s_loadR (b := c2) (j := 0) (x := o) s4.at2 rfl ?_
  have hsl : s'.2.1 = stk1.length := s4.at1.rowLen
  have s5 := s4.at3
  obtain ⟨a5, ea5, q5⟩ := s5.there e2
  rw [hsl]
  refine t_deref _ ea5 (t_chk q5 (s_set s5 e2 rfl ea5 ?_))
  intro h4 s6
  have s7 : St φ (walkC c1 c2 s' o stk1 low1 ++ (K v ++ F)) h4 := s6.perm (front_perm 3 (walkC c1 c2 s' o stk1 low1 ++ (K v ++ F))).symm
  refine s_load (x := t) (cellS_mono s7.sub B.edges) rfl ?_
  refine s_load (x := n) (cellS_mono s7.sub B.num) rfl ?_
  have hx0 : 0 ≤ x := (setI_some e2).1
  refine s_call (from_sim k s7 hx0 hb) ?_
  rintro _ h5 ⟨ψ1, y, le1, rfl, k1, s8⟩
  refine ⟨y, rfl, ?_⟩
  have ny := k1.length
  refine s_block (fun (z : Int × Unit) w g => WalkI K al c1 c2 o F ψ1 w g) (g := st3) ?_ ?_
  · refine s_forS e3 (fun i (z : Int × Unit) w g => z.1 = i ∧ WalkI K al c1 c2 o F ψ1 w g) ((0 : Int), ()) rfl ⟨rfl, ψ1, v, s', Sub.refl _, rfl, s8⟩ ?_ ?_
    · rintro i z w g e ⟨hz, ψ, v', s'', le, hal, st⟩ he h0 hlt hw
      subst hz
      refine t_true (by rw [ny]; exact decide_eq_true hlt) ?_
      obtain ⟨to, hto, he⟩ := Option.bind_eq_some_iff.1 he
      unfold toD at he
      obtain ⟨e0, he0, he⟩ := Option.bind_eq_some_iff.1 he
      obtain ⟨g1, hg1, he⟩ := Option.bind_eq_some_iff.1 he
      obtain ⟨p1, hp1, he⟩ := Option.bind_eq_some_iff.1 he
      obtain ⟨q1, hq1, he⟩ := Option.bind_eq_some_iff.1 he
      obtain ⟨low2, hlow2, he⟩ := Option.bind_eq_some_iff.1 he
      obtain ⟨a2, ha2, he⟩ := Option.bind_eq_some_iff.1 he
      obtain rfl := Option.some.inj he
      obtain ⟨A1, cs1, ea1, hi1, r1, cl1⟩ := (k1.mono le).get hto
      refine t_deref _ ea1 (t_chk hi1 ?_)
      obtain rfl := r1
      refine s_load (x := to) (cellS_mono st.sub (cl1 0 _ rfl)) rfl ?_
      refine s_loadR (b := c2) (j := 0) (x := o) st.at2 rfl ?_
      obtain ⟨A2, cs2, ea2, hi2, r2, cl2⟩ := St.get (st.at3) he0
      refine t_deref _ ea2 (t_chk hi2 ?_)
      obtain rfl := r2
      refine s_load (x := e0) (cl2 0 _ rfl) rfl ?_
      refine s_join (fun (_ : Unit) w g => WalkI K al c1 c2 o F ψ1 w g) (g := g1) ?_ ?_
      · refine s_cond hg1 rfl (fun _ hg => ?_) (fun _ hg => ?_)
        · refine s_load (x := some (.func 44, #[], visitCaps c1 c2 c3 c4 c5 c6 c7)) (cellS_mono st.sub (cellS_mono (le1.trans le) B.visit)) rfl ?_
          obtain ⟨gl1, gs1, ga1⟩ := g1
          obtain ⟨gl0, gs0, ga0⟩ := g
          dsimp only at hal
          subst hal
          refine Callee.call callee44 (ih (Boxes.mono gl gp bl bp B (le1.trans le)) (k.mono (le1.trans le)) hg st) ?_ (fun _ _ hS => hS.1)
          rintro h6 ⟨_, ψ2, v2, s2', le2, hal2, st2⟩
          exact s_out () rfl ⟨ψ2, v2, s2', le.trans le2, hal2, st2⟩
        · obtain rfl := Option.some.inj hg
          exact s_out () rfl ⟨ψ, v', s'', le, hal, st⟩
      · rintro _ h6 ⟨ψ2, v2, s2', le2, hal2, st2⟩
        refine s_loadR (b := c2) (j := 0) (x := o) st2.at2 rfl ?_
        refine s_loadR (b := c2) (j := 0) (x := o) st2.at2 rfl ?_
        obtain ⟨A3, cs3, ea3, hi3, r3, cl3⟩ := St.get (st2.at3) hp1
        refine t_deref _ ea3 (t_chk hi3 ?_)
        obtain rfl := r3
        refine s_load (x := p1) (cl3 0 _ rfl) rfl ?_
        refine s_loadR (b := c2) (j := 0) (x := o) st2.at2 rfl ?_
        obtain ⟨A4, cs4, ea4, hi4, r4, cl4⟩ := St.get (st2.at3) hq1
        refine t_deref _ ea4 (t_chk hi4 ?_)
        obtain rfl := r4
        refine s_load (x := q1) (cl4 0 _ rfl) rfl ?_
        obtain ⟨A5, ea6, q6⟩ := St.there (st2.at3) hlow2
        refine t_deref _ ea6 (t_chk q6 (s_set (st2.at3) hlow2 rfl ea6 ?_))
        intro h7 s9
        have s10 : St ψ2 (walkC c1 c2 s2' o g1.2.1 low2 ++ (K v2 ++ F)) h7 := s9.perm (front_perm 3 (walkC c1 c2 s2' o g1.2.1 low2 ++ (K v2 ++ F))).symm
        refine s_load (x := some (.func gl, #[], bl)) (cellS_mono s10.sub (cellS_mono (le1.trans le2) B.led)) rfl ?_
        rw [← hal2] at ha2
        refine Callee.call cl (hl ha2 (F := F ++ walkC c1 c2 s2' o g1.2.1 low2) (s10.perm (List.perm_append_comm.trans (by rw [List.append_assoc])))) ?_ (fun _ _ hS => hS.1)
        rintro h8 ⟨_, ψ3, v3, le3, hal3, st3'⟩
        refine s_next (IntKind.wrap .i64 (z.1 + (1 : Int)), ()) _ rfl rfl ⟨hw, ψ3, v3, s2', le2.trans le3, hal3, ?_⟩
        exact st3'.perm (by rw [← List.append_assoc]; exact List.perm_append_comm)
    · rintro i z w ⟨hz, ψ, v', s'', le, hal, st⟩ hge
      subst hz
      refine t_false (by rw [ny]; exact decide_eq_false (Int.not_lt.2 hge)) ?_
      exact around_brk (meetB_brk (z.1, ()) rfl ⟨ψ, v', s'', le, hal, st⟩)
  · rintro z h6 ⟨ψ, v', s'', le, hal, st⟩
    unfold doneD at hd
    obtain ⟨e, he, hd⟩ := Option.bind_eq_some_iff.1 hd
    refine s_loadR (b := c2) (j := 0) (x := o) st.at2 rfl ?_
    obtain ⟨A6, cs6, ea6, hi6, r6, cl6⟩ := St.get (st.at3) he
    refine t_deref _ ea6 (t_chk hi6 ?_)
    obtain rfl := r6
    refine s_load (x := e) (cl6 0 _ rfl) rfl ?_
    refine s_cond hd rfl (fun _ hd => ?_) (fun _ hd => ?_)
    · obtain rfl := Option.some.inj hd
      exact finOf_back ⟨rfl, ψ, v', s'', le1.trans le, hal, st⟩
    · obtain ⟨⟨hd1, hd2, hd3⟩, hd⟩ := need_some hd
      obtain ⟨low4, e4, hd⟩ := Option.bind_eq_some_iff.1 hd
      obtain ⟨a4, ha4, hd⟩ := Option.bind_eq_some_iff.1 hd
      obtain ⟨rfl, hd4⟩ := Prod.mk.inj (Option.some.inj hd)
      obtain ⟨rfl, rfl⟩ := Prod.mk.inj hd4
      obtain ⟨dp, hdp⟩ : ∃ dp : Nat, stk1.length = dp + 1 := ⟨stk1.length - 1, by omega⟩
      have hsub : stk1.length - 1 = dp := by omega
      rw [hsub] at hd2 e4 ha4
      rw [hsub]
      have hw1 : IntKind.wrap .i64 (((stk1.length : Nat) : Int) - (1 : Int)) = ((dp : Nat) : Int) := by
        have : stk1.length ≤ 1073741825 := by omega
        rw [wi64 (by omega) (by omega)]
        omega
      rw [hw1]
      have hlen'' : s''.2.1 = st3.2.1.length := st.at1.rowLen
      have hcap : s''.2.1 ≤ s''.2.2 := by
        obtain ⟨_, _, hsl2, _⟩ := (st.at1).freezeRow
        exact hsl2.2.1
      refine s_loadR (b := c1) (j := 0) (x := s'') st rfl ?_
      refine t_chk ⟨by omega, by omega, by omega⟩ ?_
      have hcut : cut st3.2.1 ((dp : Nat) : Int) ((s''.2.1 : Nat) : Int) = some (st3.2.1.drop dp) := by
        unfold cut
        rw [if_pos ⟨by omega, by omega, by omega⟩, Int.toNat_natCast, Int.toNat_natCast, hlen'', List.take_length]
      have hpart : ∀ h', St ψ (walkC c1 c2 s'' o st3.2.1 st3.1 ++ (K v' ++ F)) h' → ∃ ψ', Sub ψ ψ' ∧ Sub ψ' (snap h') ∧ Ro.SliceIs (Ro.int .i64) ψ' ((if s''.2.2 = Int.toNat ((dp : Nat) : Int) then s''.1 else Option.map (fun x => Addr.add x (Int.toNat ((dp : Nat) : Int) * 1)) s''.1), Int.toNat ((s''.2.1 : Nat) : Int) - Int.toNat ((dp : Nat) : Int), s''.2.2 - Int.toNat ((dp : Nat) : Int)) (st3.2.1.drop dp) := fun h' H => by
        obtain ⟨ψ', le', sl, H2⟩ := (H.at1).freezeRow
        exact ⟨ψ', le', H2.sub, (sl.cut hcut (sz := 1) rfl).2⟩
      obtain ⟨_, _, _, hsl0⟩ := hpart _ st
      have hcl := clone46_core (t := ((if s''.2.2 = Int.toNat ((dp : Nat) : Int) then s''.1 else Option.map (fun x => Addr.add x (Int.toNat ((dp : Nat) : Int) * 1)) s''.1), Int.toNat ((s''.2.1 : Nat) : Int) - Int.toNat ((dp : Nat) : Int), s''.2.2 - Int.toNat ((dp : Nat) : Int))) st hsl0.1 (fun h' H => by
        obtain ⟨ψ', _, hs', sl⟩ := hpart h' H
        obtain ⟨vs, ha, hc⟩ := sl.heap hs'
        rw [all_atom ha] at hc
        exact hc) hsl0.2.2.2.1 (by rw [List.length_drop]; omega)
      dsimp only at hcl
      refine s_call hcl ?_
      rintro _ h7 ⟨y2, rfl, s9⟩
      refine ⟨y2, rfl, ?_⟩
      have ny2 : y2.2.1 = (st3.2.1.drop dp).length := s9.rowLen
      refine s_loadR (b := c1) (j := 0) (x := s'') s9.at1 rfl ?_
      refine t_chk ⟨by omega, by omega, by omega⟩ ?_
      have hzero : (if s''.2.2 = Int.toNat (0 : Int) then s''.1 else Option.map (fun x => Addr.add x (Int.toNat (0 : Int) * 1)) s''.1) = s''.1 := by
        split
        · rfl
        · cases s''.1 with
          | none => rfl
          | some a => cases a; rfl
      rw [hzero]
      refine s_put (b := c1) (j := 0) (v := .slice s''.1 (Int.toNat ((dp : Nat) : Int) - Int.toNat 0) (s''.2.2 - Int.toNat 0)) s9.at1 rfl (Nat.lt_succ_self 0) ?_
      intro h8 s10
      have s11 := St.rowTake (s10.at2) (k := dp) (by omega)
      have s12 : St ψ (⟨Rep.row 3 (Ro.int .i64), [.slice y2.1 y2.2.1 y2.2.2], st3.2.1.drop dp⟩ :: (walkC c1 c2 (s''.1, dp, s''.2.2) o (st3.2.1.take dp) st3.1 ++ (K v' ++ F))) h8 := s11.perm ((front_perm 2 _).trans (List.Perm.cons _ (List.Perm.swap _ _ _)))
      refine s_block (fun (z : Int × Unit) w g => St ψ (⟨Rep.row 3 (Ro.int .i64), [.slice y2.1 y2.2.1 y2.2.2], st3.2.1.drop dp⟩ :: (walkC c1 c2 (s''.1, dp, s''.2.2) o (st3.2.1.take dp) g ++ (K v' ++ F))) w) (g := low4) ?_ ?_
      · refine s_forS e4 (fun i (z : Int × Unit) w g => z.1 = i ∧ St ψ (⟨Rep.row 3 (Ro.int .i64), [.slice y2.1 y2.2.1 y2.2.2], st3.2.1.drop dp⟩ :: (walkC c1 c2 (s''.1, dp, s''.2.2) o (st3.2.1.take dp) g ++ (K v' ++ F))) w) ((0 : Int), ()) rfl ⟨rfl, s12⟩ ?_ ?_
        · rintro i z w g e' ⟨hz, st4⟩ he' h0 hlt hw
          subst hz
          refine t_true (by rw [ny2]; exact decide_eq_true hlt) ?_
          obtain ⟨y3, hy3, he'⟩ := Option.bind_eq_some_iff.1 he'
          obtain ⟨A7, cs7, ea7, hi7, r7, cl7⟩ := St.get st4 hy3
          refine t_deref _ ea7 (t_chk hi7 ?_)
          obtain rfl := r7
          refine s_load (x := y3) (cl7 0 _ rfl) rfl ?_
          refine s_loadR (b := c2) (j := 0) (x := o) st4.at3 rfl ?_
          obtain ⟨A8, ea8, q8⟩ := St.there (st4.at4) he'
          refine t_deref _ ea8 (t_chk q8 (s_set (st4.at4) he' rfl ea8 ?_))
          intro h9 s13
          refine s_next (IntKind.wrap .i64 (z.1 + (1 : Int)), ()) _ rfl rfl ⟨hw, s13.perm (front_perm 4 (⟨Rep.row 3 (Ro.int .i64), [.slice y2.1 y2.2.1 y2.2.2], st3.2.1.drop dp⟩ :: (walkC c1 c2 (s''.1, dp, s''.2.2) o (st3.2.1.take dp) e' ++ (K v' ++ F)))).symm⟩
        · rintro i z w ⟨hz, st4⟩ hge
          subst hz
          refine t_false (by rw [ny2]; exact decide_eq_false (Int.not_lt.2 hge)) ?_
          exact around_brk (meetB_brk (z.1, ()) rfl st4)
      · rintro z2 h9 st5
        refine s_load (x := some (.func gp, #[], bp)) (cellS_mono st5.sub (cellS_mono (le1.trans le) B.part)) rfl ?_
        rw [← hal] at ha4
        refine Callee.call cp (hp ha4 (F := F ++ walkC c1 c2 (s''.1, dp, s''.2.2) o (st3.2.1.take dp) low4) (st5.perm (List.Perm.cons _ (List.perm_append_comm.trans (by rw [List.append_assoc]))))) ?_ (fun _ _ hS => hS.1)
        rintro h10 ⟨_, ψ3, v3, le3, hal3, st6⟩
        exact finOf_back ⟨rfl, ψ3, v3, (s''.1, dp, s''.2.2), (le1.trans le).trans le3, hal3, st6.perm (by rw [← List.append_assoc]; exact List.perm_append_comm)⟩
theorem visit_ok {ll : List (List Int)} {n : Int} {t : Slc} {c1 c2 c3 c4 c5 c6 c7 : Nat} (hl : LedOk K al ledA gl bl) (hp : PartOk K al partA gp bp) (cl : Callee gl) (cp : Callee gp) : ∀ f : Nat, VisitOk K al gl gp bl bp (visitD ll n ledA partA f) ll n t c1 c2 c3 c4 c5 c6 c7
  | 0 => fun _ _ hd _ => by cases hd
  | f + 1 => visit_step K al ledA partA gl gp bl bp hl hp cl cp (visit_ok hl hp cl cp f)
end
end Go.Proofs.YtbpbfoemghcfaaaDoor

/-
  DIGRAPH: walk, whatever it hands its places and its parts to.
  Conditions: as the plain function promises.
-/
namespace Go.Proofs.YtbpbfoemghcfaaaDoor
open Go Go.Eng
set_option linter.unusedVariables false
set_option maxRecDepth 100000
/-- A box that is never written again. -/
theorem St.box {φ : Snap} {h : Heap} {Γ : List Chk} {ty : TypeId} {b : Nat} {v : Value} (H : St φ (⟨Rep.raw ty, [.pointer (some ⟨b, 0, none⟩)], [v]⟩ :: Γ) h) : ∃ ψ, Sub φ ψ ∧ cellS ψ ⟨b, 0, none⟩ = some v ∧ St ψ Γ h := by
  obtain ⟨ψ, F, le, ⟨b', e, hb, hF⟩, hk, s⟩ := St.hide H
  cases e
  refine ⟨ψ, le, ?_, s⟩
  have := hk b ((hF b).2 rfl)
  unfold cellS
  dsimp only
  rw [this, hb]
  rfl
noncomputable def walkT (vl vp : Value) (edges_0_p : Option Addr) (edges_0_n edges_0_c : Nat) (n_1 : Int) : T :=
  T.new (.cells #[(.slice edges_0_p edges_0_n edges_0_c)] 22 (0, 0)) fun r1 =>
  T.new (.cells #[(.int .i64 n_1)] 3 (0, 0)) fun r2 =>
  T.new (.cells #[vl] 45 (0, 0)) fun r3 =>
  T.new (.cells #[vp] 46 (0, 0)) fun r4 =>
  T.load (.int .i64) ⟨r2, 0, none⟩ fun (t5 : Int) =>
  T.sem (Instr.makeSlice 28 (.int .i64 t5) (.int .i64 t5)) (.one (.atom .slice)) fun (t6 : Option Addr × Nat × Nat) =>
  T.new (.cells #[(.slice none 0 0)] 28 (0, 0)) fun r7 =>
  T.store ⟨r7, 0, none⟩ (.slice t6.1 t6.2.1 t6.2.2) <|
  T.new (.cells #[(.slice none 0 0)] 28 (0, 0)) fun r8 =>
  T.new (.cells #[.nilFunc] 60 (0, 0)) fun r9 =>
  T.store ⟨r9, 0, none⟩ (.func (.func 44) #[] #[(.pointer (some ⟨r8, 0, none⟩)), (.pointer (some ⟨r7, 0, none⟩)), (.pointer (some ⟨r1, 0, none⟩)), (.pointer (some ⟨r2, 0, none⟩)), (.pointer (some ⟨r9, 0, none⟩)), (.pointer (some ⟨r3, 0, none⟩)), (.pointer (some ⟨r4, 0, none⟩))]) <|
  T.load (.int .i64) ⟨r2, 0, none⟩ fun (t10 : Int) =>
  T.block 0 [(.atom (.int .i64))]
  (T.loop [(.atom (.int .i64))] [(.int .i64 (0 : Int))] fun (z12 : Int × Unit) =>
  cond (decide (z12.1 < t10))
  (T.load .slice ⟨r7, 0, none⟩ fun (t13 : Option Addr × Nat × Nat) =>
  deref t13.1 fun a14 =>
  chk (0 ≤ z12.1 ∧ z12.1 < (t13.2.1 : Nat)) <|
  T.load (.int .i64) (a14.add (Int.toNat z12.1 * 1)) fun (t15 : Int) =>
  T.join []
  (cond (t15 == (0 : Int))
  (T.load .func ⟨r9, 0, none⟩ fun (t17 : Option (Fn × Array Value × Array Value)) =>
  callV false Tryd.prog (Atom.val .func t17) #[(.int .i64 z12.1)] fun (t18 : Value) =>
  T.out [])
  (T.out [])) fun (z16 : Unit) =>
  T.out [(.int .i64 (IntKind.wrap .i64 (z12.1 + (1 : Int))))])
  (T.brk 0 [(.int .i64 z12.1)])) fun (z11 : Int × Unit) =>
  T.ret (.tuple #[])
theorem mkInt : MakeT Tryd.prog 28 3 (.int .i64 0) := ⟨Tryd.underlying28, ⟨Tryd.t3, by kernel_rfl, rfl, ⟨_, rfl, rfl⟩, by decide⟩⟩
section
variable {X A : Type} (K : X → List Chk) (al : X → A) (ledA : A → Int → Int → Option A) (partA : A → List Int → Option A) (gl gp : Nat) (bl bp : Array Value)
set_option maxHeartbeats 1000000 in
theorem walk_gen {φ : Snap} {h : Heap} {F : List Chk} {ll : List (List Int)} {n : Int} {t : Slc} {fuel : Nat} {v : X} {st' : WalkS A} (hl : LedOk K al ledA gl bl) (hp : PartOk K al partA gp bp) (cl : Callee gl) (cp : Callee gp)
    (hden : denFun Tryd.prog Tryd.f28 [.slice t.1 t.2.1 t.2.2, .int .i64 n, .func (.func gl) #[] bl, .func (.func gp) #[] bp] = walkT (.func (.func gl) #[] bl) (.func (.func gp) #[] bp) t.1 t.2.1 t.2.2 n)
    (k : Ro.SliceIs (Ro.list (Ro.int .i64)) φ t ll) (hd : walkD ll n ledA partA fuel (al v) = some st') (s0 : St φ (K v ++ F) h) :
    CallsH Tryd.prog 28 [.slice t.1 t.2.1 t.2.2, .int .i64 n, .func (.func gl) #[] bl, .func (.func gp) #[] bp] h (Back fun u h' => u = .tuple #[] ∧ ∃ (ψ : Snap) (v' : X), Sub φ ψ ∧ al v' = st'.2.2 ∧ St ψ (K v' ++ F) h') := by
  refine calls_of mixed Tryd.func28 ?_
  rw [hden]
  unfold walkT
  unfold walkD at hd
  obtain ⟨⟨hn0, hn1⟩, hd⟩ := need_some hd
  refine s_new (vs := [.slice t.1 t.2.1 t.2.2]) s0 ?_
  intro r1 h1 s1
  obtain ⟨φ1, le1, c1, s1⟩ := St.box s1
  refine s_new (vs := [.int .i64 n]) s1 ?_
  intro r2 h2 s2
  obtain ⟨φ2, le2, c2, s2⟩ := St.box s2
  refine s_new (vs := [.func (.func gl) #[] bl]) s2 ?_
  intro r3 h3 s3
  obtain ⟨φ3, le3, c3, s3⟩ := St.box s3
  refine s_new (vs := [.func (.func gp) #[] bp]) s3 ?_
  intro r4 h4 s4
  obtain ⟨φ4, le4, c4, s4⟩ := St.box s4
  refine s_load (x := n) (cellS_mono s4.sub (cellS_mono (le3.trans le4) c2)) rfl ?_
  refine s_make (r := Ro.int .i64) (x := (0 : Int)) (l := List.replicate n.toNat 0) mkInt s4 rfl rfl (by unfold mkRow; rw [if_pos ⟨hn0, hn1⟩]) ?_
  intro o h5 s5
  refine s_new (vs := [.slice none 0 0]) s5 ?_
  intro r7 h6 s6
  refine s_put (b := r7) (j := 0) (v := .slice o.1 o.2.1 o.2.2) s6 rfl (Nat.lt_succ_self 0) ?_
  intro h7 s7
  refine s_new (vs := [.slice none 0 0]) s7 ?_
  intro r8 h8 s8
  refine s_new (vs := [.nilFunc]) s8 ?_
  intro r9 h9 s9
  refine s_put (b := r9) (j := 0) (v := .func (.func 44) #[] (visitCaps r8 r7 r1 r2 r9 r3 r4)) s9 rfl (Nat.lt_succ_self 0) ?_
  intro h10 s10
  obtain ⟨φ5, le5, c9, s11⟩ := St.box s10
  have B : Boxes gl gp bl bp φ5 t n r8 r7 r1 r2 r9 r3 r4 := ⟨cellS_mono (((le2.trans le3).trans le4).trans le5) c1, cellS_mono ((le3.trans le4).trans le5) c2, c9, cellS_mono (le4.trans le5) c3, cellS_mono le5 c4⟩
  have le0 : Sub φ φ5 := (((le1.trans le2).trans le3).trans le4).trans le5
  have s12 : St φ5 (walkC r8 r7 (none, 0, 0) o [] (List.replicate n.toNat 0) ++ (K v ++ F)) h10 := by
    have := St.nil 3 (Ro.int .i64) s11
    exact this.at1
  refine s_load (x := n) (cellS_mono s12.sub B.num) rfl ?_
  refine s_block (fun (z : Int × Unit) w g => WalkI K al r8 r7 o F φ5 w g) (g := st') ?_ ?_
  · refine s_forS hd (fun i (z : Int × Unit) w g => z.1 = i ∧ WalkI K al r8 r7 o F φ5 w g) ((0 : Int), ()) rfl ⟨rfl, φ5, v, (none, 0, 0), Sub.refl _, rfl, s12⟩ ?_ ?_
    · rintro i z w g e ⟨hz, ψ, v', s'', le, hal, st⟩ he h0 hlt hw
      subst hz
      refine t_true (decide_eq_true hlt) ?_
      obtain ⟨e0, he0, he⟩ := Option.bind_eq_some_iff.1 he
      refine s_loadR (b := r7) (j := 0) (x := o) st.at2 rfl ?_
      obtain ⟨A2, cs2, ea2, hi2, q2, cl2⟩ := St.get (st.at3) he0
      refine t_deref _ ea2 (t_chk hi2 ?_)
      obtain rfl := q2
      refine s_load (x := e0) (cl2 0 _ rfl) rfl ?_
      refine s_join (fun (_ : Unit) w g => WalkI K al r8 r7 o F φ5 w g) (g := e) ?_ ?_
      · refine s_cond he rfl (fun _ hg => ?_) (fun _ hg => ?_)
        · refine s_load (x := some (.func 44, #[], visitCaps r8 r7 r1 r2 r9 r3 r4)) (cellS_mono st.sub (cellS_mono le B.visit)) rfl ?_
          obtain ⟨gl1, gs1, ga1⟩ := e
          obtain ⟨gl0, gs0, ga0⟩ := g
          dsimp only at hal
          subst hal
          refine Callee.call callee44 (visit_ok K al ledA partA gl gp bl bp hl hp cl cp fuel (Boxes.mono gl gp bl bp B le) (k.mono (le0.trans le)) hg st) ?_ (fun _ _ hS => hS.1)
          rintro h6 ⟨_, ψ2, v2, s2', le2, hal2, st2⟩
          exact s_out () rfl ⟨ψ2, v2, s2', le.trans le2, hal2, st2⟩
        · obtain rfl := Option.some.inj hg
          exact s_out () rfl ⟨ψ, v', s'', le, hal, st⟩
      · rintro _ h6 H
        exact s_next (IntKind.wrap .i64 (z.1 + (1 : Int)), ()) _ rfl rfl ⟨hw, H⟩
    · rintro i z w ⟨hz, H⟩ hge
      subst hz
      refine t_false (decide_eq_false (Int.not_lt.2 hge)) ?_
      exact around_brk (meetB_brk (z.1, ()) rfl H)
  · rintro z h11 ⟨ψ, v', s'', le, hal, st⟩
    exact finOf_back ⟨rfl, ψ, v', le0.trans le, hal, st.tail.tail.tail.tail⟩
end
/-- Solve's walk. -/
theorem callee38 : Callee 38 := ⟨Tryd.f38, Tryd.func38, by decide, by kernel_rfl, by kernel_rfl⟩
theorem callee40 : Callee 40 := ⟨Tryd.f40, Tryd.func40, by decide, by kernel_rfl, by kernel_rfl⟩
theorem callee29 : Callee 29 := ⟨Tryd.f29, Tryd.func29, by decide, by kernel_rfl, by kernel_rfl⟩
theorem callee30 : Callee 30 := ⟨Tryd.f30, Tryd.func30, by decide, by kernel_rfl, by kernel_rfl⟩
theorem walkS_sim {φ : Snap} {h : Heap} {F : List Chk} {ll : List (List Int)} {n : Int} {t : Slc} {fuel : Nat} {c : Nat} {v : AllS} {st' : WalkS (List SetD)} (k : Ro.SliceIs (Ro.list (Ro.int .i64)) φ t ll) (hd : walkD ll n ledS partS fuel v.ss = some st') (s0 : St φ (allK c v ++ F) h) :
    CallsH Tryd.prog 28 [.slice t.1 t.2.1 t.2.2, .int .i64 n, .func (.func 38) #[] #[.pointer (some ⟨c, 0, none⟩)], .func (.func 40) #[] #[.pointer (some ⟨c, 0, none⟩)]] h (Back fun u h' => u = .tuple #[] ∧ ∃ (ψ : Snap) (v' : AllS), Sub φ ψ ∧ v'.ss = st'.2.2 ∧ St ψ (allK c v' ++ F) h') :=
  walk_gen (allK c) AllS.ss ledS partS 38 40 #[.pointer (some ⟨c, 0, none⟩)] #[.pointer (some ⟨c, 0, none⟩)] (fun hd s => solve1_sim hd s) (fun hd s => solve2_sim hd s) callee38 callee40 (digraph_walk_S_den _ _ _ _ _ _) k hd s0
/-- Parts's walk. -/
abbrev outK (c : Nat) (v : Slc × List (List Int)) : List Chk := [⟨Rep.raw 22, [.pointer (some ⟨c, 0, none⟩)], [.slice v.1.1 v.1.2.1 v.1.2.2]⟩, ⟨Rep.row 28 (Ro.list (Ro.int .i64)), [.slice v.1.1 v.1.2.1 v.1.2.2], v.2⟩]
theorem walkP_sim {φ : Snap} {h : Heap} {F : List Chk} {ll : List (List Int)} {n : Int} {t : Slc} {fuel : Nat} {c : Nat} {v : Slc × List (List Int)} {st' : WalkS (List (List Int))} (k : Ro.SliceIs (Ro.list (Ro.int .i64)) φ t ll) (hd : walkD ll n ledP partP fuel v.2 = some st') (s0 : St φ (outK c v ++ F) h) :
    CallsH Tryd.prog 28 [.slice t.1 t.2.1 t.2.2, .int .i64 n, .func (.func 29) #[] #[], .func (.func 30) #[] #[.pointer (some ⟨c, 0, none⟩)]] h (Back fun u h' => u = .tuple #[] ∧ ∃ (ψ : Snap) (v' : Slc × List (List Int)), Sub φ ψ ∧ v'.2 = st'.2.2 ∧ St ψ (outK c v' ++ F) h') :=
  walk_gen (outK c) Prod.snd ledP partP 29 30 #[] #[.pointer (some ⟨c, 0, none⟩)] (fun {φ h F v x to a'} hd s => by
    obtain rfl := Option.some.inj hd
    refine (parts1_sim s).mono ?_
    rintro e h' ⟨u, rfl, rfl, s'⟩
    exact ⟨_, rfl, rfl, φ, v, Sub.refl _, rfl, s'⟩) (fun {φ h F v t l a'} hd s => by
    obtain ⟨⟨g1, g2⟩, hd⟩ := need_some hd
    obtain rfl := Option.some.inj hd
    refine (parts2_sim s g1 g2).mono ?_
    rintro e h' ⟨u, rfl, rfl, ψ, o', le, s'⟩
    exact ⟨_, rfl, rfl, ψ, (o', _), le, rfl, s'⟩) callee29 callee30 (digraph_walk_P_den _ _ _ _ _) k hd s0
theorem parts_sim {φ : Snap} {h : Heap} {F : List Chk} {ll : List (List Int)} {t : Slc} {fuel : Nat} {low stk : List Int} {out : List (List Int)} (k : Ro.SliceIs (Ro.list (Ro.int .i64)) φ t ll) (s0 : St φ F h) (hd : walkD ll (ll.length : Int) ledP partP fuel [] = some (low, stk, out)) (hh : HeadsOk out) (hb : out.length < 4611686018427387904) :
    CallsH Tryd.prog 14 [.slice t.1 t.2.1 t.2.2] h (Back fun v h' => ∃ (ψ : Snap) (y : Slc), Sub φ ψ ∧ v = ((.one (.atom .slice)) : Sh).val y ∧ Ro.SliceIs (Ro.list (Ro.int .i64)) ψ y (sortH out) ∧ St ψ F h') := by
  refine calls_of mixed Tryd.func14 ?_
  rw [digraph_Parts_den]
  unfold digraph_Parts_T
  refine s_new (vs := [.slice none 0 0]) s0 ?_
  intro r1 h1 s1
  have s2 := (St.nil 28 (Ro.list (Ro.int .i64)) s1).at1
  rw [← k.length] at hd
  have s3 : St φ (outK r1 (((none, 0, 0) : Slc), ([] : List (List Int))) ++ F) h1 := s2
  have hw := walkP_sim (c := r1) (v := (((none, 0, 0) : Slc), ([] : List (List Int)))) k hd s3
  refine s_call hw ?_
  rintro _ h2 ⟨rfl, ψ, v', le, hal, s3⟩
  refine ⟨(), rfl, ?_⟩
  dsimp only at hal
  subst hal
  refine s_loadR (b := r1) (j := 0) (x := v'.1) s3 rfl ?_
  refine s_call (sort32 s3.at1 hh hb) ?_
  rintro _ h3 ⟨rfl, s4⟩
  refine ⟨(), rfl, ?_⟩
  refine s_loadR (b := r1) (j := 0) (x := v'.1) s4.at1 rfl ?_
  obtain ⟨ψ2, le2, k2, s5⟩ := s4.freezeRow
  exact finOf_back ⟨ψ2, v'.1, le.trans le2, rfl, k2, s5.tail⟩
end Go.Proofs.YtbpbfoemghcfaaaDoor

namespace Go.Proofs.YtbpbfoemghcfaaaDoor
open Go Go.Eng
set_option linter.unusedVariables false
set_option maxRecDepth 100000


noncomputable def bitset_Set_Width_D (s_0 : (Int × List Int)) : Option Int :=
  some (s_0.1)
theorem bitset_Set_Width_sim {φ : Snap} {h : Heap} {F : List Chk} {s_0 : Option Addr} {d_s_0 : (Int × List Int)}  (s0 : St φ (⟨Rep.obj 59 (Rep.prod (Rep.ro (Ro.int .i64)) (Rep.row 56 (Ro.int .u64))), [.pointer s_0], d_s_0⟩ :: F) h) {r : Int} (hd : bitset_Set_Width_D d_s_0 = some r) :
    CallsH Tryd.prog 26 [(.pointer s_0)] h (Back fun v h' => ∃ ψ : Snap, ∃ y : Int, Sub φ ψ ∧ v = ((.one (.atom (.int .i64))) : Sh).val y ∧ y = r ∧ St ψ (⟨Rep.obj 59 (Rep.prod (Rep.ro (Ro.int .i64)) (Rep.row 56 (Ro.int .u64))), [.pointer s_0], d_s_0⟩ :: F) h') := by
  refine calls_of mixed Tryd.func26 ?_
  rw [bitset_Set_Width_den]
  unfold bitset_Set_Width_T
  unfold bitset_Set_Width_D at hd
  obtain ⟨b1_, vs2_, e3_, hl4_, s5_⟩ := s0.open
  obtain rfl : s_0 = some ⟨b1_, 0, none⟩ := by simpa using e3_
  clear e3_
  have s6_ := s5_.at1
  obtain ⟨v7_, w8_, rfl, hl10_, s9_⟩ := s6_.pair
  obtain ⟨g11_, s12_⟩ := s9_.ro
  subst g11_
  obtain ⟨t14_, e15_⟩ := s12_.rowCs
  subst e15_
  have n16_ := s12_.rowLen
  have s17_ : St φ (⟨Rep.row 56 (Ro.int .u64), [.slice t14_.1 t14_.2.1 t14_.2.2], d_s_0.2⟩ :: ⟨Rep.raw 59, [.pointer (some ⟨b1_, 0, none⟩)], [.int .i64 (d_s_0.1), .slice t14_.1 t14_.2.1 t14_.2.2]⟩ :: F) _ := s12_
  refine t_deref _ rfl ?_
  refine s_loadR (b := b1_) (j := 0) (x := (d_s_0.1)) s17_.at1 rfl ?_
  have s20_ := St.unro (r := (Ro.int .i64)) (cs := [.int .i64 (d_s_0.1)]) (x := (d_s_0.1)) s17_ rfl
  have s21_ := St.unpair s20_
  have s22_ : St φ (⟨Rep.obj 59 (Rep.prod (Rep.ro (Ro.int .i64)) (Rep.row 56 (Ro.int .u64))), [.pointer (some ⟨b1_, 0, none⟩)], ((d_s_0.1), d_s_0.2)⟩ :: F) _ := St.shut s21_.at1
  obtain rfl := Option.some.inj hd
  exact finOf_back ⟨φ, (d_s_0.1), (Sub.refl _), rfl, rfl, s22_⟩

end Go.Proofs.YtbpbfoemghcfaaaDoor

/-
  DIGRAPH: Solve, and the law's sets and solved.
  Conditions: as the plain functions promise.
-/
namespace Go.Proofs.YtbpbfoemghcfaaaDoor
open Go Go.Eng
set_option linter.unusedVariables false
set_option maxRecDepth 100000
theorem app35 : AppT Tryd.prog 35 35 37 1 := ⟨Tryd.underlying35, .inl Tryd.underlying35, ⟨Tryd.t37, by kernel_rfl, rfl, ⟨_, rfl, rfl⟩, by decide, by decide⟩, by decide⟩
theorem app22 : AppT Tryd.prog 22 22 28 1 := ⟨Tryd.underlying22, .inl Tryd.underlying22, ⟨Tryd.t28, by kernel_rfl, rfl, ⟨_, rfl, rfl⟩, by decide, by decide⟩, by decide⟩
abbrev rowP (t : Slc) (ps : List (Option Addr)) : Chk := ⟨Rep.row 37 Ro.pt, [.slice t.1 t.2.1 t.2.2], ps⟩
abbrev rowL (t : Slc) (ls : List (List Int)) : Chk := ⟨Rep.row 28 (Ro.list (Ro.int .i64)), [.slice t.1 t.2.1 t.2.2], ls⟩
theorem app_mono {α β : Type} {l l' : List α} {x : α} (h : app l [x] = some l') {m : List β} (hm : m.length = l.length) (y : β) : app m [y] = some (m ++ [y]) ∧ l' = l ++ [x] := by
  obtain ⟨h1, h2⟩ := app_some h
  refine ⟨?_, h2⟩
  unfold app
  simp at h1 ⊢
  omega
/-- One more set of one's own. -/
theorem row_snoc {φ : Snap} {h : Heap} {F : List Chk} {ps : List (Option Addr)} {ss : List SetD} {t : Slc} {p : Option Addr} {s : SetD} (hl : ps.length = ss.length) (H : St φ (rowP t (ps ++ [p]) :: setC p s :: (objsC ps ss ++ F)) h) : St φ (rowP t (ps ++ [p]) :: (objsC (ps ++ [p]) (ss ++ [s]) ++ F)) h := by
  rw [objs_snoc hl, List.append_assoc]
  exact H.perm (List.Perm.cons _ (List.perm_middle (l₁ := objsC ps ss)).symm)
/-- A set among others is ahead of all. -/
theorem objs_ahead {φ : Snap} {h : Heap} {F : List Chk} {ps : List (Option Addr)} {ss : List SetD} {i : Nat} {p : Option Addr} {s : SetD} (hp : ps[i]? = some p) (hs : ss[i]? = some s) (H : St φ (objsC ps ss ++ F) h) :
    ∃ r, St φ (setC p s :: (r ++ F)) h ∧ ∀ (ψ : Snap) (h' : Heap) (Γ : List Chk), St ψ (Γ ++ setC p s :: (r ++ F)) h' → St ψ (Γ ++ (objsC ps ss ++ F)) h' := by
  obtain ⟨r, a1, _⟩ := objs_put hp hs
  exact ⟨r, H.perm (List.Perm.append_right F a1), fun ψ h' Γ H' => H'.perm (List.Perm.append_left Γ (List.Perm.append_right F a1).symm)⟩
theorem swapL (A B C : List Chk) : (A ++ (B ++ C)).Perm (B ++ (A ++ C)) := by
  rw [← List.append_assoc, ← List.append_assoc]
  exact List.Perm.append_right _ List.perm_append_comm
noncomputable def setsD (base : List (List Int)) (wide : Int) : Option (List SetD) :=
  forS 0 (base.length : Int) ([] : List SetD) fun i acc => (idx base i).bind fun l => (bitset_Of_D wide l).bind fun s => app acc [s]
theorem sets_sim {φ : Snap} {h : Heap} {F : List Chk} {t : Slc} {base : List (List Int)} {wide : Int} (k : Ro.SliceIs (Ro.list (Ro.int .i64)) φ t base) (s0 : St φ F h) {r : List SetD} (hd : setsD base wide = some r) :
    CallsH Tryd.prog 21 [.slice t.1 t.2.1 t.2.2, .int .i64 wide] h (Back fun v h' => ∃ (ψ : Snap) (y : Slc) (ps : List (Option Addr)), Sub φ ψ ∧ v = ((.one (.atom .slice)) : Sh).val y ∧ ps.length = r.length ∧ St ψ (rowP y ps :: (objsC ps r ++ F)) h') := by
  refine calls_of mixed Tryd.func21 ?_
  rw [tronagelaw12_sets_den]
  unfold tronagelaw12_sets_T
  unfold setsD at hd
  have nk := k.length
  refine s_block (fun (z : Int × Slc × Unit) w g => ∃ (ψ : Snap) (ps : List (Option Addr)), Sub φ ψ ∧ ps.length = g.length ∧ St ψ (rowP z.2.1 ps :: (objsC ps g ++ F)) w) (g := r) ?_ ?_
  · refine s_forS hd (fun i (z : Int × Slc × Unit) w g => z.1 = i ∧ ∃ (ψ : Snap) (ps : List (Option Addr)), Sub φ ψ ∧ ps.length = g.length ∧ St ψ (rowP z.2.1 ps :: (objsC ps g ++ F)) w) ((0 : Int), ((none, 0, 0) : Slc), ()) rfl ⟨rfl, φ, [], Sub.refl _, rfl, St.nil _ _ s0⟩ ?_ ?_
    · rintro i z w g e ⟨hz, ψ, ps, le, hl, st⟩ he h0 hlt hw
      subst hz
      refine t_true (by rw [nk]; exact decide_eq_true hlt) ?_
      obtain ⟨l, hl1, he⟩ := Option.bind_eq_some_iff.1 he
      obtain ⟨s, hs1, he⟩ := Option.bind_eq_some_iff.1 he
      obtain ⟨A1, cs1, ea1, hi1, ⟨t4, r1, k4⟩, cl1⟩ := (k.mono le).get hl1
      subst r1
      refine t_deref _ ea1 (t_chk hi1 ?_)
      refine s_load (x := t4) (cellS_mono st.sub (cl1 0 _ rfl)) rfl ?_
      refine s_call (bitset_Of_sim k4 st hs1) ?_
      rintro _ h1 ⟨ψ1, p, l3, le1, rfl, rfl, st1⟩
      refine ⟨p, rfl, ?_⟩
      refine s_new (vs := [.pointer p]) st1 ?_
      intro r6 h2 st2
      have cw := St.cells st2
      obtain ⟨hap, rfl⟩ := app_mono he hl p
      refine s_append (r := Ro.pt) (ms := [p]) app35 (st2.tail.at1) rfl cw (.cons (a := [_]) rfl .nil) rfl hap ?_
      intro t7 h3 st3
      exact s_next (IntKind.wrap .i64 (z.1 + (1 : Int)), t7, ()) _ rfl rfl ⟨hw, ψ1, ps ++ [p], le.trans le1, by simp [hl], row_snoc hl st3⟩
    · rintro i z w ⟨hz, H⟩ hge
      subst hz
      refine t_false (by rw [nk]; exact decide_eq_false (Int.not_lt.2 hge)) ?_
      exact around_brk (meetB_brk z rfl H)
  · rintro z h1 ⟨ψ, ps, le, hl, st⟩
    exact finOf_back ⟨ψ, z.2.1, ps, le, rfl, hl, st⟩
/-- A set read as a list, frozen. -/
theorem list_ro {φ : Snap} {h : Heap} {F : List Chk} {p : Option Addr} {s : SetD} (gk : Glob φ) (s0 : St φ (setC p s :: F) h) {r : List Int} (hd : listD s = some r) :
    CallsH Tryd.prog 22 [.pointer p] h (Back fun v h' => ∃ (ψ : Snap) (y : Slc), Sub φ ψ ∧ v = ((.one (.atom .slice)) : Sh).val y ∧ Ro.SliceIs (Ro.int .i64) ψ y r ∧ St ψ (setC p s :: F) h') := by
  refine (list_sim gk s0 hd).mono ?_
  rintro e h' ⟨v, rfl, ψ, y, l, le, rfl, rfl, s1⟩
  obtain ⟨ψ2, le2, k2, s2⟩ := s1.freezeRow
  exact ⟨_, rfl, ψ2, y, le.trans le2, rfl, k2, s2⟩
noncomputable def solveD (ll : List (List Int)) (B : List SetD) : Option (List SetD) :=
  (forS 0 (B.length : Int) (0 : Int) fun i w => (idx B i).bind fun s => some (if s.1 > w then s.1 else w)).bind fun wide =>
  (forS 0 (B.length : Int) ([] : List SetD) fun i acc => (idx B i).bind fun s => (listD s).bind fun l => (bitset_Of_D wide l).bind fun s' => app acc [s']).bind fun all =>
  (walkD ll (B.length : Int) ledS partS B.length all).bind fun st =>
  forS 0 (B.length : Int) ([] : List SetD) fun i acc => (idx B i).bind fun s => (idx st.2.2 i).bind fun a => (listD a).bind fun l => (bitset_Of_D s.1 l).bind fun s' => app acc [s']
set_option maxHeartbeats 1000000 in
theorem solve_sim {φ : Snap} {h : Heap} {F : List Chk} {t b : Slc} {ll : List (List Int)} {B : List SetD} {ps : List (Option Addr)} (gk : Glob φ) (k : Ro.SliceIs (Ro.list (Ro.int .i64)) φ t ll) (kb : Ro.SliceIs Ro.pt φ b ps) (hl : ps.length = B.length) (s0 : St φ (objsC ps B ++ F) h) {r : List SetD} (hd : solveD ll B = some r) :
    CallsH Tryd.prog 23 [.slice t.1 t.2.1 t.2.2, .slice b.1 b.2.1 b.2.2] h (Back fun v h' => ∃ (ψ : Snap) (y : Slc) (qs : List (Option Addr)), Sub φ ψ ∧ v = ((.one (.atom .slice)) : Sh).val y ∧ qs.length = r.length ∧ St ψ (rowP y qs :: (objsC qs r ++ (objsC ps B ++ F))) h') := by
  refine calls_of mixed Tryd.func23 ?_
  rw [digraph_Solve_den]
  unfold digraph_Solve_T
  unfold solveD at hd
  obtain ⟨wide, hw1, hd1⟩ := Option.bind_eq_some_iff.1 hd
  clear hd
  obtain ⟨all, ha1, hd2⟩ := Option.bind_eq_some_iff.1 hd1
  clear hd1
  obtain ⟨st', hk1, hd3⟩ := Option.bind_eq_some_iff.1 hd2
  clear hd2
  have nb : b.2.1 = B.length := kb.length.trans hl
  refine s_block (fun (z : Int × Int × Unit) w (g : Int) => z.2.1 = g ∧ ∃ ψ, Sub φ ψ ∧ St ψ (objsC ps B ++ F) w) (g := wide) ?_ ?_
  · refine s_forS hw1 (fun i (z : Int × Int × Unit) w (g : Int) => z.1 = i ∧ z.2.1 = g ∧ ∃ ψ, Sub φ ψ ∧ St ψ (objsC ps B ++ F) w) ((0 : Int), (0 : Int), ()) rfl ⟨rfl, rfl, φ, Sub.refl _, s0⟩ ?_ ?_
    · rintro i z w g e ⟨hz, hg, ψ, le, st⟩ he h0 hlt hw
      subst hz
      subst hg
      refine t_true (by rw [nb]; exact decide_eq_true hlt) ?_
      obtain ⟨s, hs, he⟩ := Option.bind_eq_some_iff.1 he
      obtain rfl := Option.some.inj he
      obtain ⟨_, hs1, p, hp, hp'⟩ := idx_of hl hs
      obtain ⟨A1, cs1, ea1, hi1, r1, cl1⟩ := (kb.mono le).get hp'
      refine t_deref _ ea1 (t_chk hi1 ?_)
      obtain rfl := r1
      refine s_load (x := p) (cellS_mono st.sub (cl1 0 _ rfl)) rfl ?_
      obtain ⟨rr, q1, q2⟩ := objs_ahead hp hs1 st
      refine s_call (bitset_Set_Width_sim q1 (r := s.1) rfl) ?_
      rintro _ h1 ⟨ψ1, y, le1, rfl, rfl, st1⟩
      refine ⟨s.1, rfl, ?_⟩
      exact s_next (IntKind.wrap .i64 (z.1 + (1 : Int)), (if s.1 > z.2.1 then s.1 else z.2.1), ()) _ rfl rfl ⟨hw, rfl, ψ1, le.trans le1, q2 ψ1 h1 [] st1⟩
    · rintro i z w ⟨hz, H⟩ hge
      subst hz
      refine t_false (by rw [nb]; exact decide_eq_false (Int.not_lt.2 hge)) ?_
      exact around_brk (meetB_brk z rfl H)
  · rintro z1 h1 ⟨rfl, ψ1, le1, s1⟩
    refine s_new (vs := [.slice none 0 0]) s1 ?_
    intro r6 h2 s2
    refine s_block (fun (z : Int × Unit) w (g : List SetD) => ∃ (ψ : Snap) (o : Slc) (qs : List (Option Addr)), Sub φ ψ ∧ qs.length = g.length ∧ St ψ (⟨Rep.raw 35, [.pointer (some ⟨r6, 0, none⟩)], [.slice o.1 o.2.1 o.2.2]⟩ :: rowP o qs :: (objsC qs g ++ (objsC ps B ++ F))) w) (g := all) ?_ ?_
    · refine s_forS ha1 (fun i (z : Int × Unit) w (g : List SetD) => z.1 = i ∧ ∃ (ψ : Snap) (o : Slc) (qs : List (Option Addr)), Sub φ ψ ∧ qs.length = g.length ∧ St ψ (⟨Rep.raw 35, [.pointer (some ⟨r6, 0, none⟩)], [.slice o.1 o.2.1 o.2.2]⟩ :: rowP o qs :: (objsC qs g ++ (objsC ps B ++ F))) w) ((0 : Int), ()) rfl ⟨rfl, ψ1, (none, 0, 0), [], le1, rfl, (St.nil 37 Ro.pt s2).at1⟩ ?_ ?_
      · rintro i z w g e ⟨hz, ψ, o, qs, le, hlq, st⟩ he h0 hlt hw
        subst hz
        refine t_true (by rw [nb]; exact decide_eq_true hlt) ?_
        obtain ⟨s, hs, he⟩ := Option.bind_eq_some_iff.1 he
        obtain ⟨l, hls, he⟩ := Option.bind_eq_some_iff.1 he
        obtain ⟨s', hs', he⟩ := Option.bind_eq_some_iff.1 he
        obtain ⟨_, hs1, p, hp, hp'⟩ := idx_of hl hs
        obtain ⟨A1, cs1, ea1, hi1, r1, cl1⟩ := (kb.mono le).get hp'
        refine t_deref _ ea1 (t_chk hi1 ?_)
        obtain rfl := r1
        refine s_load (x := p) (cellS_mono st.sub (cl1 0 _ rfl)) rfl ?_
        refine s_loadR (b := r6) (j := 0) (x := o) st rfl ?_
        obtain ⟨Γ, hΓ⟩ : ∃ Γ : List Chk, Γ = (⟨Rep.raw 35, [.pointer (some ⟨r6, 0, none⟩)], [.slice o.1 o.2.1 o.2.2]⟩ :: rowP o qs :: objsC qs g) := ⟨_, rfl⟩
        have st1 : St ψ (objsC ps B ++ (Γ ++ F)) w := by
          have : St ψ (Γ ++ (objsC ps B ++ F)) w := by rw [hΓ]; exact st
          refine this.perm ?_
          rw [← List.append_assoc, ← List.append_assoc]
          exact List.Perm.append_right F List.perm_append_comm
        obtain ⟨rr, q1, q2⟩ := objs_ahead hp hs1 st1
        refine s_call (list_ro (gk.mono le) q1 hls) ?_
        rintro _ h3 ⟨ψ2, y, le2, rfl, k2, st2⟩
        refine ⟨y, rfl, ?_⟩
        have back : ∀ {ψ : Snap} {h' : Heap} (Δ : List Chk), St ψ (Δ ++ (objsC ps B ++ (Γ ++ F))) h' → St ψ (⟨Rep.raw 35, [.pointer (some ⟨r6, 0, none⟩)], [.slice o.1 o.2.1 o.2.2]⟩ :: rowP o qs :: (Δ ++ (objsC qs g ++ (objsC ps B ++ F)))) h' := fun {ψ h'} Δ H => by
          rw [hΓ] at H
          refine H.perm ?_
          refine List.Perm.trans (l₂ := Δ ++ ((⟨Rep.raw 35, [.pointer (some ⟨r6, 0, none⟩)], [.slice o.1 o.2.1 o.2.2]⟩ :: rowP o qs :: objsC qs g) ++ (objsC ps B ++ F))) (List.Perm.append_left Δ ?_) ?_
          · rw [← List.append_assoc, ← List.append_assoc]
            exact List.Perm.append_right _ List.perm_append_comm
          · exact (List.perm_middle (l₁ := Δ)).trans (List.Perm.cons _ (List.perm_middle (l₁ := Δ)))
        have st3 := back [] (q2 ψ2 h3 [] st2)
        refine t_still (st3.cell rfl) ?_
        refine s_call (bitset_Of_sim k2 st3 hs') ?_
        rintro _ h4 ⟨ψ3, p', l3, le3, rfl, rfl, st4⟩
        refine ⟨p', rfl, ?_⟩
        refine t_still (st4.at1.cell rfl) ?_
        refine s_new (vs := [.pointer p']) st4 ?_
        intro r14 h5 st5
        have cw := St.cells st5
        refine t_still (st5.at2.cell rfl) ?_
        obtain ⟨hap, rfl⟩ := app_mono he hlq p'
        refine s_append (r := Ro.pt) (ms := [p']) app35 (st5.tail.at2) rfl cw (.cons (a := [_]) rfl .nil) rfl hap ?_
        intro t15 h6 st6
        refine s_put (b := r6) (j := 0) (v := .slice t15.1 t15.2.1 t15.2.2) (st6.at2) rfl (Nat.lt_succ_self 0) ?_
        intro h7 st7
        exact s_next (IntKind.wrap .i64 (z.1 + (1 : Int)), ()) _ rfl rfl ⟨hw, ψ3, t15, qs ++ [p'], (le.trans le2).trans le3, by simp [hlq], (row_snoc hlq (st7.tail) |> fun H => by
          rw [objs_snoc hlq, List.append_assoc]
          refine st7.perm (List.Perm.cons _ (List.Perm.cons _ ?_))
          exact (List.perm_middle (l₁ := objsC qs g)).symm)⟩
      · rintro i z w ⟨hz, H⟩ hge
        subst hz
        refine t_false (by rw [nb]; exact decide_eq_false (Int.not_lt.2 hge)) ?_
        exact around_brk (meetB_brk z rfl H)
    · rintro z7 h3 ⟨ψ2, o, qs, le2, hlq, s3⟩
      rw [← nb] at hk1
      have s4 : St ψ2 (allK r6 ⟨o, qs, all, hlq⟩ ++ (objsC ps B ++ F)) h3 := glob_put (gk.mono le2) s3
      refine s_call (walkS_sim (v := ⟨o, qs, all, hlq⟩) (k.mono le2) hk1 s4) ?_
      rintro _ h4 ⟨rfl, ψ3, v', le3, hal, s5⟩
      refine ⟨(), rfl, ?_⟩
      obtain ⟨o', qs', all', hlq'⟩ := v'
      dsimp only at hal s5
      subst hal
      obtain ⟨gk3, s6⟩ := glob_take s5
      have le03 := le2.trans le3
      refine s_block (fun (z : Int × Slc × Unit) w (g : List SetD) => ∃ (ψ : Snap) (us : List (Option Addr)), Sub ψ3 ψ ∧ us.length = g.length ∧ St ψ (rowP z.2.1 us :: (objsC us g ++ (⟨Rep.raw 35, [.pointer (some ⟨r6, 0, none⟩)], [.slice o'.1 o'.2.1 o'.2.2]⟩ :: rowP o' qs' :: (objsC qs' st'.2.2 ++ (objsC ps B ++ F))))) w) (g := r) ?_ ?_
      · refine s_forS hd3 (fun i (z : Int × Slc × Unit) w (g : List SetD) => z.1 = i ∧ ∃ (ψ : Snap) (us : List (Option Addr)), Sub ψ3 ψ ∧ us.length = g.length ∧ St ψ (rowP z.2.1 us :: (objsC us g ++ (⟨Rep.raw 35, [.pointer (some ⟨r6, 0, none⟩)], [.slice o'.1 o'.2.1 o'.2.2]⟩ :: rowP o' qs' :: (objsC qs' st'.2.2 ++ (objsC ps B ++ F))))) w) ((0 : Int), ((none, 0, 0) : Slc), ()) rfl ⟨rfl, ψ3, [], Sub.refl _, rfl, St.nil _ _ s6⟩ ?_ ?_
        · rintro i z w g e ⟨hz, ψ, us, le, hlu, st⟩ he h0 hlt hw
          subst hz
          refine t_true (by rw [nb]; exact decide_eq_true hlt) ?_
          obtain ⟨s, hs, he⟩ := Option.bind_eq_some_iff.1 he
          obtain ⟨a, ha, he⟩ := Option.bind_eq_some_iff.1 he
          obtain ⟨l, hls, he⟩ := Option.bind_eq_some_iff.1 he
          obtain ⟨s', hs', he⟩ := Option.bind_eq_some_iff.1 he
          obtain ⟨_, hs1, p, hp, hp'⟩ := idx_of hl hs
          obtain ⟨_, ha1, q, hq, hq'⟩ := idx_of hlq' ha
          obtain ⟨A1, cs1, ea1, hi1, r1, cl1⟩ := (kb.mono (le03.trans le)).get hp'
          refine t_deref _ ea1 (t_chk hi1 ?_)
          obtain rfl := r1
          refine s_load (x := p) (cellS_mono st.sub (cl1 0 _ rfl)) rfl ?_
          obtain ⟨X1, hX1⟩ : ∃ X1 : List Chk, X1 = rowP z.2.1 us :: objsC us g := ⟨_, rfl⟩
          have st1 : St ψ (⟨Rep.raw 35, [.pointer (some ⟨r6, 0, none⟩)], [.slice o'.1 o'.2.1 o'.2.2]⟩ :: rowP o' qs' :: (objsC qs' st'.2.2 ++ (objsC ps B ++ (F ++ X1)))) w := by
            have : St ψ (X1 ++ (⟨Rep.raw 35, [.pointer (some ⟨r6, 0, none⟩)], [.slice o'.1 o'.2.1 o'.2.2]⟩ :: rowP o' qs' :: (objsC qs' st'.2.2 ++ (objsC ps B ++ F)))) w := by rw [hX1]; exact st
            have h2 := this.perm List.perm_append_comm
            simp only [List.cons_append, List.append_assoc] at h2
            exact h2
          refine s_loadR (b := r6) (j := 0) (x := o') st1 rfl ?_
          obtain ⟨A2, cs2, ea2, hi2, r2, cl2⟩ := St.get (st1.at1) hq'
          refine t_deref _ ea2 (t_chk hi2 ?_)
          obtain rfl := r2
          refine s_load (x := q) (cl2 0 _ rfl) rfl ?_
          obtain ⟨Y1, hY1⟩ : ∃ Y1 : List Chk, Y1 = (⟨Rep.raw 35, [.pointer (some ⟨r6, 0, none⟩)], [.slice o'.1 o'.2.1 o'.2.2]⟩ :: rowP o' qs' :: objsC qs' st'.2.2) := ⟨_, rfl⟩
          have st2 : St ψ (objsC ps B ++ (Y1 ++ (F ++ X1))) w := by
            have : St ψ (Y1 ++ (objsC ps B ++ (F ++ X1))) w := by rw [hY1]; exact st1
            exact this.perm (swapL _ _ _)
          obtain ⟨rr, q1, q2⟩ := objs_ahead hp hs1 st2
          refine s_call (bitset_Set_Width_sim q1 (r := s.1) rfl) ?_
          rintro _ h5 ⟨ψ4, y4, le4, rfl, rfl, st3⟩
          refine ⟨s.1, rfl, ?_⟩
          have st4 : St ψ4 (⟨Rep.raw 35, [.pointer (some ⟨r6, 0, none⟩)], [.slice o'.1 o'.2.1 o'.2.2]⟩ :: rowP o' qs' :: (objsC qs' st'.2.2 ++ (objsC ps B ++ (F ++ X1)))) h5 := by
            have h1 := q2 ψ4 h5 [] st3
            have h2 : St ψ4 (Y1 ++ (objsC ps B ++ (F ++ X1))) h5 := by
              exact St.perm h1 (swapL (objsC ps B) Y1 (F ++ X1))
            rw [hY1] at h2
            exact h2
          obtain ⟨A3, cs3, ea3, hi3, r3, cl3⟩ := St.get (st4.at1) hq'
          obtain rfl := r3
          have e12 : A3 = A2 := Option.some.inj (ea3.symm.trans ea2)
          subst e12
          refine t_still (cl3 0 _ rfl) (t_still (st4.cell rfl) ?_)
          obtain ⟨Z1, hZ1⟩ : ∃ Z1 : List Chk, Z1 = [(⟨Rep.raw 35, [.pointer (some ⟨r6, 0, none⟩)], [.slice o'.1 o'.2.1 o'.2.2]⟩ : Chk), rowP o' qs'] := ⟨_, rfl⟩
          have st5 : St ψ4 (objsC qs' st'.2.2 ++ (Z1 ++ (objsC ps B ++ (F ++ X1)))) h5 := by
            have : St ψ4 (Z1 ++ (objsC qs' st'.2.2 ++ (objsC ps B ++ (F ++ X1)))) h5 := by rw [hZ1]; exact st4
            refine this.perm ?_
            rw [← List.append_assoc, ← List.append_assoc (objsC qs' st'.2.2)]
            exact List.Perm.append_right _ List.perm_append_comm
          obtain ⟨rr2, w1, w2⟩ := objs_ahead hq ha1 st5
          refine s_call (list_ro (gk3.mono (le.trans le4)) w1 hls) ?_
          rintro _ h6 ⟨ψ5, y5, le5, rfl, k5, st6⟩
          refine ⟨y5, rfl, ?_⟩
          have st7 : St ψ5 (rowP z.2.1 us :: (objsC us g ++ (⟨Rep.raw 35, [.pointer (some ⟨r6, 0, none⟩)], [.slice o'.1 o'.2.1 o'.2.2]⟩ :: rowP o' qs' :: (objsC qs' st'.2.2 ++ (objsC ps B ++ F))))) h6 := by
            have h1 := w2 ψ5 h6 [] st6
            have h2 : St ψ5 (X1 ++ (Z1 ++ (objsC qs' st'.2.2 ++ (objsC ps B ++ F)))) h6 := by
              refine St.perm h1 ?_
              show (objsC qs' st'.2.2 ++ (Z1 ++ (objsC ps B ++ (F ++ X1)))).Perm _
              refine List.Perm.trans ?_ (List.perm_append_comm (l₁ := Z1 ++ (objsC qs' st'.2.2 ++ (objsC ps B ++ F))) (l₂ := X1))
              simp only [List.append_assoc]
              rw [← List.append_assoc, ← List.append_assoc Z1]
              exact List.Perm.append_right _ List.perm_append_comm
            rw [hX1, hZ1] at h2
            exact h2
          refine s_call (bitset_Of_sim k5 st7 hs') ?_
          rintro _ h7 ⟨ψ6, p', l3, le6, rfl, rfl, st8⟩
          refine ⟨p', rfl, ?_⟩
          refine s_new (vs := [.pointer p']) st8 ?_
          intro r27 h8 st9
          have cw := St.cells st9
          obtain ⟨hap, rfl⟩ := app_mono he hlu p'
          refine s_append (r := Ro.pt) (ms := [p']) app35 (st9.tail.at1) rfl cw (.cons (a := [_]) rfl .nil) rfl hap ?_
          intro t28 h9 st10
          exact s_next (IntKind.wrap .i64 (z.1 + (1 : Int)), t28, ()) _ rfl rfl ⟨hw, ψ6, us ++ [p'], ((le.trans le4).trans le5).trans le6, by simp [hlu], row_snoc hlu st10⟩
        · rintro i z w ⟨hz, H⟩ hge
          subst hz
          refine t_false (by rw [nb]; exact decide_eq_false (Int.not_lt.2 hge)) ?_
          exact around_brk (meetB_brk z rfl H)
      · rintro z h5 ⟨ψ, us, le, hlu, st⟩
        refine finOf_back ⟨ψ, z.2.1, us, le03.trans le, rfl, hlu, ?_⟩
        obtain ⟨X1, hX1⟩ : ∃ X1 : List Chk, X1 = rowP z.2.1 us :: objsC us r := ⟨_, rfl⟩
        have h1 : St ψ (X1 ++ (⟨Rep.raw 35, [.pointer (some ⟨r6, 0, none⟩)], [.slice o'.1 o'.2.1 o'.2.2]⟩ :: rowP o' qs' :: (objsC qs' st'.2.2 ++ (objsC ps B ++ F)))) h5 := by rw [hX1]; exact st
        have h2 := (h1.perm (List.perm_append_comm)).tail.tail
        have h3 : St ψ (objsC qs' st'.2.2 ++ ((objsC ps B ++ F) ++ X1)) h5 := by rw [← List.append_assoc]; exact h2
        have h4 : ∀ (L : List Chk) {M : List Chk}, St ψ (L ++ M) h5 → St ψ M h5 := fun L => by
          induction L with
          | nil => intro M H; exact H
          | cons c L ih => intro M H; exact ih H.tail
        have h6 := (h4 _ h3).perm List.perm_append_comm
        rw [hX1] at h6
        exact h6
end Go.Proofs.YtbpbfoemghcfaaaDoor

/-
  DIGRAPH: the law's solved, and Parts, as contracts whose answers are plain lists.
  Conditions: as the plain functions promise.
-/
namespace Go.Proofs.YtbpbfoemghcfaaaDoor
open Go Go.Eng
set_option linter.unusedVariables false
set_option maxRecDepth 100000
noncomputable instance (a : List (List Int)) : Decidable (HeadsOk a ∧ a.length < 4611686018427387904) := Classical.propDecidable _
noncomputable def partsD (ll : List (List Int)) : Option (List (List Int)) :=
  (walkD ll (ll.length : Int) ledP partP ll.length []).bind fun st => need (HeadsOk st.2.2 ∧ st.2.2.length < 4611686018427387904) <| some (sortH st.2.2)
theorem parts_simD {φ : Snap} {h : Heap} {F : List Chk} {t : Slc} {ll : List (List Int)} (k : Ro.SliceIs (Ro.list (Ro.int .i64)) φ t ll) (s0 : St φ F h) {r : List (List Int)} (hd : partsD ll = some r) :
    CallsH Tryd.prog 14 [.slice t.1 t.2.1 t.2.2] h (Back fun v h' => ∃ ψ : Snap, ∃ y : Option Addr × Nat × Nat, ∃ l : List (List Int), Sub φ ψ ∧ v = ((.one (.atom .slice)) : Sh).val y ∧ l = r ∧ Ro.SliceIs (Ro.list (Ro.int .i64)) ψ y l ∧ St ψ F h') := by
  unfold partsD at hd
  obtain ⟨⟨low, stk, out⟩, h1, h2⟩ := Option.bind_eq_some_iff.1 hd
  obtain ⟨⟨h3, h4⟩, h5⟩ := need_some h2
  obtain rfl := Option.some.inj h5
  refine (parts_sim k s0 h1 h3 h4).mono ?_
  rintro e h' ⟨v, rfl, ψ, y, le, rfl, k2, s2⟩
  exact ⟨_, rfl, ψ, y, _, le, rfl, rfl, k2, s2⟩
noncomputable def solvedD (ll base : List (List Int)) (wide : Int) : Option (List (List Int) × Bool) :=
  (setsD base wide).bind fun B =>
  (solveD ll B).bind fun r =>
  cond ((r.length : Int) != (base.length : Int)) (some ([], false)) <|
  (forS 0 (r.length : Int) ([] : List (List Int)) fun i acc => (idx r i).bind fun s => (listD s).bind fun l => app acc [l]).bind fun o => some (o, true)
theorem St.drop : ∀ (L : List Chk) {M : List Chk} {φ : Snap} {h : Heap}, St φ (L ++ M) h → St φ M h
  | [], _, _, _, H => H
  | _ :: L, _, _, _, H => St.drop L H.tail
theorem setC_ptr {φ : Snap} {h : Heap} {F : List Chk} {p : Option Addr} {s : SetD} (H : St φ (setC p s :: F) h) : p.isNone = false := by
  obtain ⟨b, e⟩ := St.ptr H
  rw [e]; rfl
set_option maxHeartbeats 1000000 in
theorem solved_sim {φ : Snap} {h : Heap} {F : List Chk} {t b : Slc} {ll base : List (List Int)} {wide : Int} (gk : Glob φ) (k : Ro.SliceIs (Ro.list (Ro.int .i64)) φ t ll) (kb : Ro.SliceIs (Ro.list (Ro.int .i64)) φ b base) (s0 : St φ F h) {r : List (List Int) × Bool} (hd : solvedD ll base wide = some r) :
    CallsH Tryd.prog 11 [.slice t.1 t.2.1 t.2.2, .slice b.1 b.2.1 b.2.2, .int .i64 wide] h (Back fun v h' => ∃ ψ : Snap, ∃ y : (Option Addr × Nat × Nat) × Bool × Unit, ∃ l : List (List Int), Sub φ ψ ∧ v = ((.tuple [(.atom .slice), (.atom .bool)]) : Sh).val y ∧ (l, y.2.1) = r ∧ Ro.SliceIs (Ro.list (Ro.int .i64)) ψ y.1 l ∧ St ψ F h') := by
  refine calls_of mixed Tryd.func11 ?_
  rw [tronagelaw12_solved_den]
  unfold tronagelaw12_solved_T
  unfold solvedD at hd
  obtain ⟨B, hB, hd1⟩ := Option.bind_eq_some_iff.1 hd
  clear hd
  obtain ⟨r1, hr1, hd2⟩ := Option.bind_eq_some_iff.1 hd1
  clear hd1
  refine s_call (sets_sim kb s0 hB) ?_
  rintro _ h1 ⟨ψ1, y1, ps, le1, rfl, hl, s1⟩
  refine ⟨y1, rfl, ?_⟩
  obtain ⟨ψ2, le2, k2, s2⟩ := s1.freezeRow
  have le12 := le1.trans le2
  refine s_call (solve_sim (gk.mono le12) (k.mono le12) k2 hl s2 hr1) ?_
  rintro _ h2 ⟨ψ3, y3, qs, le3, rfl, hlq, s3⟩
  refine ⟨y3, rfl, ?_⟩
  obtain ⟨ψ4, le4, k4, s4⟩ := s3.freezeRow
  have le14 := (le12.trans le3).trans le4
  have n3 : y3.2.1 = r1.length := k4.length.trans hlq
  have nb := kb.length
  rw [n3, nb]
  refine s_cond hd2 rfl (fun _ hd => ?_) (fun _ hd => ?_)
  · obtain rfl := Option.some.inj hd
    exact finOf_back ⟨ψ4, (((none, 0, 0) : Slc), false, ()), [], le14, rfl, rfl, Ro.SliceIs.nil _ _, St.drop _ (St.drop _ s4)⟩
  · obtain ⟨o, ho, hd⟩ := Option.bind_eq_some_iff.1 hd
    obtain rfl := Option.some.inj hd
    have hz1 : ∀ {ψ : Snap} {w : Heap} {x : Slc}, St ψ (objsC qs r1 ++ (objsC ps B ++ F)) w → St ψ (rowL (none, 0, 0) [] :: (objsC qs r1 ++ (objsC ps B ++ F))) w := fun H => St.nil _ _ H
    refine s_block (fun (z : Int × Slc × Bool × Slc × Unit) w (g : List (List Int)) => ∃ ψ, Sub ψ4 ψ ∧ St ψ (rowL z.2.1 g :: (objsC qs r1 ++ (objsC ps B ++ F))) w) (g := o) ?_ ?_
    · refine s_forS ho (fun i (z : Int × Slc × Bool × Slc × Unit) w (g : List (List Int)) => z.1 = i ∧ ∃ ψ, Sub ψ4 ψ ∧ St ψ (rowL z.2.1 g :: (objsC qs r1 ++ (objsC ps B ++ F))) w) ((0 : Int), ((none, 0, 0) : Slc), false, ((none, 0, 0) : Slc), ()) rfl ⟨rfl, ψ4, Sub.refl _, St.nil _ _ s4⟩ ?_ ?_
      · rintro i z w g e ⟨hz, ψ, le, st⟩ he h0 hlt hw
        subst hz
        refine t_true (decide_eq_true hlt) ?_
        obtain ⟨s, hs, he⟩ := Option.bind_eq_some_iff.1 he
        obtain ⟨l, hls, he⟩ := Option.bind_eq_some_iff.1 he
        obtain ⟨_, hs1, p, hp, hp'⟩ := idx_of hlq hs
        obtain ⟨A1, cs1, ea1, hi1, q1, cl1⟩ := (k4.mono le).get hp'
        rw [n3] at hi1
        refine t_deref _ ea1 (t_chk hi1 ?_)
        obtain rfl := q1
        refine s_load (x := p) (cellS_mono st.sub (cl1 0 _ rfl)) rfl ?_
        have st1 : St ψ (objsC qs r1 ++ ((objsC ps B ++ F) ++ [rowL z.2.1 g])) w := by
          have : St ψ ((objsC qs r1 ++ (objsC ps B ++ F)) ++ [rowL z.2.1 g]) w := st.perm (List.perm_append_comm (l₁ := [rowL z.2.1 g]))
          rw [List.append_assoc] at this
          exact this
        obtain ⟨rr, w1, w2⟩ := objs_ahead hp hs1 st1
        have hnn := setC_ptr w1
        refine t_false hnn ?_
        refine t_deref _ ea1 (t_chk hi1 ?_)
        refine s_load (x := p) (cellS_mono st.sub (cl1 0 _ rfl)) rfl ?_
        refine s_call (list_ro (gk.mono (le14.trans le)) w1 hls) ?_
        rintro _ h3 ⟨ψ5, y5, le5, rfl, k5, st2⟩
        refine ⟨y5, rfl, ?_⟩
        have st3 : St ψ5 (rowL z.2.1 g :: (objsC qs r1 ++ (objsC ps B ++ F))) h3 := by
          have h1 := w2 ψ5 h3 [] st2
          have h2 : St ψ5 ((objsC qs r1 ++ (objsC ps B ++ F)) ++ [rowL z.2.1 g]) h3 := by rw [List.append_assoc]; exact h1
          exact h2.perm List.perm_append_comm
        refine s_new (vs := [.slice y5.1 y5.2.1 y5.2.2]) st3 ?_
        intro r10 h4 st4
        have cw := St.cells st4
        refine s_append (r := Ro.list (Ro.int .i64)) (ms := [l]) app22 (st4.tail) rfl cw (.cons (a := [_]) ⟨y5, rfl, k5⟩ .nil) rfl he ?_
        intro t11 h5 st5
        exact s_next (IntKind.wrap .i64 (z.1 + (1 : Int)), t11, z.2.2.1, z.2.2.2.1, ()) _ rfl rfl ⟨hw, ψ5, le.trans le5, st5⟩
      · rintro i z w ⟨hz, H⟩ hge
        subst hz
        refine t_false (decide_eq_false (Int.not_lt.2 hge)) ?_
        exact around_brk (meetB_brk z rfl H)
    · rintro z w ⟨ψ, le, st⟩
      obtain ⟨ψ5, le5, k5, st2⟩ := st.freezeRow
      exact finOf_back ⟨ψ5, (z.2.1, true, ()), o, (le14.trans le).trans le5, rfl, rfl, k5, St.drop _ (St.drop _ st2)⟩
end Go.Proofs.YtbpbfoemghcfaaaDoor

/-
  DIGRAPH: Loops.
  Conditions: as the plain function promises.
-/
namespace Go.Proofs.YtbpbfoemghcfaaaDoor
open Go Go.Eng
set_option linter.unusedVariables false
set_option maxRecDepth 100000
noncomputable def loopsD (ll : List (List Int)) : Option (List Int) :=
  (partsD ll).bind fun ps =>
  (forS 0 (ps.length : Int) ([] : List Int) fun i acc =>
    (idx ps i).bind fun l =>
    (cond (decide ((l.length : Int) > (1 : Int))) (some true) ((idx l 0).bind fun x => (idx ll x).bind fun e => slices_Contains_int_int_D e x)).bind fun b =>
    cond b (app acc l) (some acc)).bind fun o =>
  need (o.length < 4611686018427387904) <| some (sortI o)
theorem loops_sim {φ : Snap} {h : Heap} {F : List Chk} {t : Slc} {ll : List (List Int)} (k : Ro.SliceIs (Ro.list (Ro.int .i64)) φ t ll) (s0 : St φ F h) {r : List Int} (hd : loopsD ll = some r) :
    CallsH Tryd.prog 15 [.slice t.1 t.2.1 t.2.2] h (Back fun v h' => ∃ ψ : Snap, ∃ y : Option Addr × Nat × Nat, ∃ l : List Int, Sub φ ψ ∧ v = ((.one (.atom .slice)) : Sh).val y ∧ l = r ∧ Ro.SliceIs (Ro.int .i64) ψ y l ∧ St ψ F h') := by
  refine calls_of mixed Tryd.func15 ?_
  rw [digraph_Loops_den]
  unfold digraph_Loops_T
  unfold loopsD at hd
  obtain ⟨ps, hps, hd1⟩ := Option.bind_eq_some_iff.1 hd
  clear hd
  obtain ⟨o, ho, hd2⟩ := Option.bind_eq_some_iff.1 hd1
  clear hd1
  obtain ⟨hb, hd3⟩ := need_some hd2
  clear hd2
  obtain rfl := Option.some.inj hd3
  refine s_call (parts_simD k s0 hps) ?_
  rintro _ h1 ⟨ψ1, y1, l1, le1, rfl, rfl, k1, s1⟩
  refine ⟨y1, rfl, ?_⟩
  have n1 := k1.length
  refine s_block (fun (z : Int × Slc × Unit) w (g : List Int) => ∃ ψ, Sub ψ1 ψ ∧ St ψ (⟨Rep.row 3 (Ro.int .i64), [.slice z.2.1.1 z.2.1.2.1 z.2.1.2.2], g⟩ :: F) w) (g := o) ?_ ?_
  · refine s_forS ho (fun i (z : Int × Slc × Unit) w (g : List Int) => z.1 = i ∧ ∃ ψ, Sub ψ1 ψ ∧ St ψ (⟨Rep.row 3 (Ro.int .i64), [.slice z.2.1.1 z.2.1.2.1 z.2.1.2.2], g⟩ :: F) w) ((0 : Int), ((none, 0, 0) : Slc), ()) rfl ⟨rfl, ψ1, Sub.refl _, St.nil _ _ s1⟩ ?_ ?_
    · rintro i z w g e ⟨hz, ψ, le, st⟩ he h0 hlt hw
      subst hz
      refine t_true (by rw [n1]; exact decide_eq_true hlt) ?_
      obtain ⟨l, hl, he1⟩ := Option.bind_eq_some_iff.1 he
      obtain ⟨b, hbb, he2⟩ := Option.bind_eq_some_iff.1 he1
      obtain ⟨A1, cs1, ea1, hi1, ⟨t5, q1, k5⟩, cl1⟩ := (k1.mono le).get hl
      subst q1
      refine t_deref _ ea1 (t_chk hi1 ?_)
      refine s_load (x := t5) (cellS_mono st.sub (cl1 0 _ rfl)) rfl ?_
      have n5 := k5.length
      refine s_join (fun (z6 : Bool × Unit) w (g' : Bool) => z6.1 = g' ∧ ∃ ψ', Sub ψ ψ' ∧ St ψ' (⟨Rep.row 3 (Ro.int .i64), [.slice z.2.1.1 z.2.1.2.1 z.2.1.2.2], g⟩ :: F) w) (g := b) ?_ ?_
      · refine s_cond hbb (by rw [n5]) (fun _ hg => ?_) (fun _ hg => ?_)
        · obtain rfl := Option.some.inj hg
          exact s_out (true, ()) rfl ⟨rfl, ψ, Sub.refl _, st⟩
        · obtain ⟨x, hx, hg1⟩ := Option.bind_eq_some_iff.1 hg
          obtain ⟨e0, he0, hg2⟩ := Option.bind_eq_some_iff.1 hg1
          obtain ⟨A2, cs2, ea2, hi2, q2, cl2⟩ := k5.get hx
          refine t_deref _ ea2 (t_chk hi2 ?_)
          obtain rfl := q2
          refine s_load (x := x) (cellS_mono st.sub (cl2 0 _ rfl)) rfl ?_
          obtain ⟨A3, cs3, ea3, hi3, ⟨t10, q3, k10⟩, cl3⟩ := (k.mono (le1.trans le)).get he0
          subst q3
          refine t_deref _ ea3 (t_chk hi3 ?_)
          refine s_load (x := t10) (cellS_mono st.sub (cl3 0 _ rfl)) rfl ?_
          refine t_deref _ ea2 (t_chk hi2 ?_)
          refine s_load (x := x) (cellS_mono st.sub (cl2 0 _ rfl)) rfl ?_
          refine s_call (slices_Contains_int_int_sim k10 st hg2) ?_
          rintro _ h2 ⟨ψ2, y2, le2, rfl, rfl, st2⟩
          refine ⟨y2, rfl, ?_⟩
          exact s_out (y2, ()) rfl ⟨rfl, ψ2, le2, st2⟩
      · rintro z6 w2 ⟨rfl, ψ2, le2, st2⟩
        refine s_join (fun (z14 : Slc × Unit) w (g' : List Int) => ∃ ψ', Sub ψ2 ψ' ∧ St ψ' (⟨Rep.row 3 (Ro.int .i64), [.slice z14.1.1 z14.1.2.1 z14.1.2.2], g'⟩ :: F) w) (g := e) ?_ ?_
        · refine s_cond he2 rfl (fun _ hg => ?_) (fun _ hg => ?_)
          · obtain ⟨vs, ha, hc⟩ := (k5.mono le2).heap st2.sub
            refine s_append (r := Ro.int .i64) (ms := l) app28 st2 rfl hc ha (by rw [n5]) hg ?_
            intro t15 h3 st3
            exact s_out (t15, ()) rfl ⟨ψ2, Sub.refl _, st3⟩
          · obtain rfl := Option.some.inj hg
            exact s_out (z.2.1, ()) rfl ⟨ψ2, Sub.refl _, st2⟩
        · rintro z14 w3 ⟨ψ3, le3, st3⟩
          exact s_next (IntKind.wrap .i64 (z.1 + (1 : Int)), z14.1, ()) _ rfl rfl ⟨hw, ψ3, (le.trans le2).trans le3, st3⟩
    · rintro i z w ⟨hz, H⟩ hge
      subst hz
      refine t_false (by rw [n1]; exact decide_eq_false (Int.not_lt.2 hge)) ?_
      exact around_brk (meetB_brk z rfl H)
  · rintro z w ⟨ψ, le, st⟩
    refine s_call (sort31 st hb) ?_
    rintro _ h2 ⟨rfl, st2⟩
    refine ⟨(), rfl, ?_⟩
    obtain ⟨ψ2, le2, k2, st3⟩ := st2.freezeRow
    exact finOf_back ⟨ψ2, z.2.1, _, (le1.trans le).trans le2, rfl, rfl, k2, st3⟩
end Go.Proofs.YtbpbfoemghcfaaaDoor

namespace Go.Proofs.YtbpbfoemghcfaaaDoor
open Go Go.Eng
set_option linter.unusedVariables false
set_option maxRecDepth 100000


theorem makeT_28 : MakeT Tryd.prog 28 3 (.int .i64 (0 : Int)) := ⟨Tryd.underlying28, ⟨Tryd.t3, by kernel_rfl, rfl, ⟨_, rfl, rfl⟩, by decide⟩⟩
noncomputable def tronagelaw12_awake_D  : Option Bool :=
  (solvedD ([([(1 : Int)] : List Int), ([(0 : Int), (2 : Int)] : List Int), ([] : List Int)] : List (List Int)) ([([(5 : Int)] : List Int), ([(6 : Int)] : List Int), ([(7 : Int)] : List Int)] : List (List Int)) (9 : Int)).bind fun t9 =>
  (cond t9.2
  ((tronageref01_Lists_D t9.1 ([([(5 : Int), (6 : Int), (7 : Int)] : List Int), ([(5 : Int), (6 : Int), (7 : Int)] : List Int), ([(7 : Int)] : List Int)] : List (List Int))).bind fun t15 =>
    cond t15
    ((partsD ([([(1 : Int)] : List Int), ([(0 : Int), (2 : Int)] : List Int), ([] : List Int)] : List (List Int))).bind fun t16 =>
      (tronageref01_Lists_D t16 ([([(0 : Int), (1 : Int)] : List Int), ([(2 : Int)] : List Int)] : List (List Int))).bind fun t20 =>
      cond t20
      ((loopsD ([([(1 : Int)] : List Int), ([(0 : Int), (2 : Int)] : List Int), ([] : List Int)] : List (List Int))).bind fun t21 =>
        (tronageref01_Ints_D t21 ([(0 : Int), (1 : Int)] : List Int)).bind fun t23 =>
        some t23)
      (some false))
    (some false))
  (some false)).bind fun z10 =>
  some z10
theorem tronagelaw12_awake_sim {φ : Snap} {h : Heap} {F : List Chk}  (gk : Glob φ)  (s0 : St φ (F) h) {r : Bool} (hd : tronagelaw12_awake_D  = some r) :
    CallsH Tryd.prog 9 [] h (Back fun v h' => ∃ ψ : Snap, ∃ y : Bool, Sub φ ψ ∧ v = ((.one (.atom .bool)) : Sh).val y ∧ y = r ∧ St ψ (F) h') := by
  refine calls_of mixed Tryd.func9 ?_
  rw [tronagelaw12_awake_den]
  unfold tronagelaw12_awake_T
  unfold tronagelaw12_awake_D at hd
  refine s_new (vs := [.int .i64 (1 : Int)]) s0 ?_
  intro r1 h2_ s1_
  refine s_new (vs := [.int .i64 (0 : Int), .int .i64 (2 : Int)]) s1_ ?_
  intro r2 h4_ s3_
  refine s_new (vs := []) s3_ ?_
  intro r3 h6_ s5_
  refine s_new (vs := [.slice (some ⟨r1, 0, none⟩) 1 1, .slice (some ⟨r2, 0, none⟩) 2 2, .slice (some ⟨r3, 0, none⟩) 0 0]) s5_ ?_
  intro r4 h8_ s7_
  refine s_new (vs := [.int .i64 (5 : Int)]) s7_ ?_
  intro r5 h10_ s9_
  refine s_new (vs := [.int .i64 (6 : Int)]) s9_ ?_
  intro r6 h12_ s11_
  refine s_new (vs := [.int .i64 (7 : Int)]) s11_ ?_
  intro r7 h14_ s13_
  refine s_new (vs := [.slice (some ⟨r5, 0, none⟩) 1 1, .slice (some ⟨r6, 0, none⟩) 1 1, .slice (some ⟨r7, 0, none⟩) 1 1]) s13_ ?_
  intro r8 h16_ s15_
  have s17_ := St.lit (r := (Ro.int .i64)) (l := ([(1 : Int)] : List Int)) (n := 1) s15_.at7 (.cons (a := [_]) rfl .nil) rfl (by decide)
  obtain ⟨f18_, le19_, k20_, s21_⟩ := St.freezeRow (t := ((some ⟨r1, 0, none⟩, 1, 1) : Slc)) s17_
  have s22_ := St.lit (r := (Ro.int .i64)) (l := ([(0 : Int), (2 : Int)] : List Int)) (n := 2) s21_.at6 (.cons (a := [_]) rfl (.cons (a := [_]) rfl .nil)) rfl (by decide)
  obtain ⟨f23_, le24_, k25_, s26_⟩ := St.freezeRow (t := ((some ⟨r2, 0, none⟩, 2, 2) : Slc)) s22_
  have s27_ := St.lit (r := (Ro.int .i64)) (l := ([] : List Int)) (n := 0) s26_.at5 .nil rfl (by decide)
  obtain ⟨f28_, le29_, k30_, s31_⟩ := St.freezeRow (t := ((some ⟨r3, 0, none⟩, 0, 0) : Slc)) s27_
  have s32_ := St.lit (r := (Ro.list (Ro.int .i64))) (l := ([([(1 : Int)] : List Int), ([(0 : Int), (2 : Int)] : List Int), ([] : List Int)] : List (List Int))) (n := 3) s31_.at4 (.cons (a := [_]) ⟨((some ⟨r1, 0, none⟩, 1, 1) : Slc), rfl, (k20_.mono (le24_.trans le29_))⟩ (.cons (a := [_]) ⟨((some ⟨r2, 0, none⟩, 2, 2) : Slc), rfl, (k25_.mono le29_)⟩ (.cons (a := [_]) ⟨((some ⟨r3, 0, none⟩, 0, 0) : Slc), rfl, k30_⟩ .nil))) rfl (by decide)
  obtain ⟨f33_, le34_, k35_, s36_⟩ := St.freezeRow (t := ((some ⟨r4, 0, none⟩, 3, 3) : Slc)) s32_
  have s37_ := St.lit (r := (Ro.int .i64)) (l := ([(5 : Int)] : List Int)) (n := 1) s36_.at3 (.cons (a := [_]) rfl .nil) rfl (by decide)
  obtain ⟨f38_, le39_, k40_, s41_⟩ := St.freezeRow (t := ((some ⟨r5, 0, none⟩, 1, 1) : Slc)) s37_
  have s42_ := St.lit (r := (Ro.int .i64)) (l := ([(6 : Int)] : List Int)) (n := 1) s41_.at2 (.cons (a := [_]) rfl .nil) rfl (by decide)
  obtain ⟨f43_, le44_, k45_, s46_⟩ := St.freezeRow (t := ((some ⟨r6, 0, none⟩, 1, 1) : Slc)) s42_
  have s47_ := St.lit (r := (Ro.int .i64)) (l := ([(7 : Int)] : List Int)) (n := 1) s46_.at1 (.cons (a := [_]) rfl .nil) rfl (by decide)
  obtain ⟨f48_, le49_, k50_, s51_⟩ := St.freezeRow (t := ((some ⟨r7, 0, none⟩, 1, 1) : Slc)) s47_
  have s52_ := St.lit (r := (Ro.list (Ro.int .i64))) (l := ([([(5 : Int)] : List Int), ([(6 : Int)] : List Int), ([(7 : Int)] : List Int)] : List (List Int))) (n := 3) s51_ (.cons (a := [_]) ⟨((some ⟨r5, 0, none⟩, 1, 1) : Slc), rfl, (k40_.mono (le44_.trans le49_))⟩ (.cons (a := [_]) ⟨((some ⟨r6, 0, none⟩, 1, 1) : Slc), rfl, (k45_.mono le49_)⟩ (.cons (a := [_]) ⟨((some ⟨r7, 0, none⟩, 1, 1) : Slc), rfl, k50_⟩ .nil))) rfl (by decide)
  obtain ⟨f53_, le54_, k55_, s56_⟩ := St.freezeRow (t := ((some ⟨r8, 0, none⟩, 3, 3) : Slc)) s52_
  obtain ⟨r57_, hr58_, hd⟩ := Option.bind_eq_some_iff.1 hd
  refine s_call (solved_sim (gk.mono (((((((le19_.trans le24_).trans le29_).trans le34_).trans le39_).trans le44_).trans le49_).trans le54_)) (k35_.mono (((le39_.trans le44_).trans le49_).trans le54_)) k55_ s56_ hr58_) ?_
  rintro _ h59_ ⟨f60_, t9, d63_, le62_, rfl, rfl, k65_, s61_⟩
  refine ⟨t9, rfl, ?_⟩
  try dsimp only at hd
  have n64_ := k65_.length
  obtain ⟨g66_, hx67_, hd⟩ := Option.bind_eq_some_iff.1 hd
  refine s_join (fun (y : Bool × Unit) w_ g => ∃ ψ : Snap, Sub f60_ ψ ∧ y.1 = g ∧ St ψ (F) w_) (g := g66_) ?_ ?_
  · refine s_cond hx67_ rfl (fun hb162_ hx67_ => ?_) (fun hb162_ hx67_ => ?_)
    · refine s_new (vs := [.int .i64 (5 : Int), .int .i64 (6 : Int), .int .i64 (7 : Int)]) s61_ ?_
      intro r11 h69_ s68_
      refine s_new (vs := [.int .i64 (5 : Int), .int .i64 (6 : Int), .int .i64 (7 : Int)]) s68_ ?_
      intro r12 h71_ s70_
      refine s_new (vs := [.int .i64 (7 : Int)]) s70_ ?_
      intro r13 h73_ s72_
      refine s_new (vs := [.slice (some ⟨r11, 0, none⟩) 3 3, .slice (some ⟨r12, 0, none⟩) 3 3, .slice (some ⟨r13, 0, none⟩) 1 1]) s72_ ?_
      intro r14 h75_ s74_
      have s76_ := St.lit (r := (Ro.int .i64)) (l := ([(5 : Int), (6 : Int), (7 : Int)] : List Int)) (n := 3) s74_.at3 (.cons (a := [_]) rfl (.cons (a := [_]) rfl (.cons (a := [_]) rfl .nil))) rfl (by decide)
      obtain ⟨f77_, le78_, k79_, s80_⟩ := St.freezeRow (t := ((some ⟨r11, 0, none⟩, 3, 3) : Slc)) s76_
      have s81_ := St.lit (r := (Ro.int .i64)) (l := ([(5 : Int), (6 : Int), (7 : Int)] : List Int)) (n := 3) s80_.at2 (.cons (a := [_]) rfl (.cons (a := [_]) rfl (.cons (a := [_]) rfl .nil))) rfl (by decide)
      obtain ⟨f82_, le83_, k84_, s85_⟩ := St.freezeRow (t := ((some ⟨r12, 0, none⟩, 3, 3) : Slc)) s81_
      have s86_ := St.lit (r := (Ro.int .i64)) (l := ([(7 : Int)] : List Int)) (n := 1) s85_.at1 (.cons (a := [_]) rfl .nil) rfl (by decide)
      obtain ⟨f87_, le88_, k89_, s90_⟩ := St.freezeRow (t := ((some ⟨r13, 0, none⟩, 1, 1) : Slc)) s86_
      have s91_ := St.lit (r := (Ro.list (Ro.int .i64))) (l := ([([(5 : Int), (6 : Int), (7 : Int)] : List Int), ([(5 : Int), (6 : Int), (7 : Int)] : List Int), ([(7 : Int)] : List Int)] : List (List Int))) (n := 3) s90_ (.cons (a := [_]) ⟨((some ⟨r11, 0, none⟩, 3, 3) : Slc), rfl, (k79_.mono (le83_.trans le88_))⟩ (.cons (a := [_]) ⟨((some ⟨r12, 0, none⟩, 3, 3) : Slc), rfl, (k84_.mono le88_)⟩ (.cons (a := [_]) ⟨((some ⟨r13, 0, none⟩, 1, 1) : Slc), rfl, k89_⟩ .nil))) rfl (by decide)
      obtain ⟨f92_, le93_, k94_, s95_⟩ := St.freezeRow (t := ((some ⟨r14, 0, none⟩, 3, 3) : Slc)) s91_
      obtain ⟨r96_, hr97_, hx67_⟩ := Option.bind_eq_some_iff.1 hx67_
      refine s_call (tronageref01_Lists_sim (k65_.mono (((le78_.trans le83_).trans le88_).trans le93_)) k94_ s95_ hr97_) ?_
      rintro _ h98_ ⟨f99_, t15, le101_, rfl, rfl, s100_⟩
      refine ⟨t15, rfl, ?_⟩
      refine s_cond hx67_ rfl (fun hb161_ hx67_ => ?_) (fun hb161_ hx67_ => ?_)
      · obtain ⟨r102_, hr103_, hx67_⟩ := Option.bind_eq_some_iff.1 hx67_
        refine s_call (parts_simD (k35_.mono (((((((((le39_.trans le44_).trans le49_).trans le54_).trans le62_).trans le78_).trans le83_).trans le88_).trans le93_).trans le101_)) s100_ hr103_) ?_
        rintro _ h104_ ⟨f105_, t16, d108_, le107_, rfl, rfl, k110_, s106_⟩
        refine ⟨t16, rfl, ?_⟩
        have n109_ := k110_.length
        refine s_new (vs := [.int .i64 (0 : Int), .int .i64 (1 : Int)]) s106_ ?_
        intro r17 h112_ s111_
        refine s_new (vs := [.int .i64 (2 : Int)]) s111_ ?_
        intro r18 h114_ s113_
        refine s_new (vs := [.slice (some ⟨r17, 0, none⟩) 2 2, .slice (some ⟨r18, 0, none⟩) 1 1]) s113_ ?_
        intro r19 h116_ s115_
        have s117_ := St.lit (r := (Ro.int .i64)) (l := ([(0 : Int), (1 : Int)] : List Int)) (n := 2) s115_.at2 (.cons (a := [_]) rfl (.cons (a := [_]) rfl .nil)) rfl (by decide)
        obtain ⟨f118_, le119_, k120_, s121_⟩ := St.freezeRow (t := ((some ⟨r17, 0, none⟩, 2, 2) : Slc)) s117_
        have s122_ := St.lit (r := (Ro.int .i64)) (l := ([(2 : Int)] : List Int)) (n := 1) s121_.at1 (.cons (a := [_]) rfl .nil) rfl (by decide)
        obtain ⟨f123_, le124_, k125_, s126_⟩ := St.freezeRow (t := ((some ⟨r18, 0, none⟩, 1, 1) : Slc)) s122_
        have s127_ := St.lit (r := (Ro.list (Ro.int .i64))) (l := ([([(0 : Int), (1 : Int)] : List Int), ([(2 : Int)] : List Int)] : List (List Int))) (n := 2) s126_ (.cons (a := [_]) ⟨((some ⟨r17, 0, none⟩, 2, 2) : Slc), rfl, (k120_.mono le124_)⟩ (.cons (a := [_]) ⟨((some ⟨r18, 0, none⟩, 1, 1) : Slc), rfl, k125_⟩ .nil)) rfl (by decide)
        obtain ⟨f128_, le129_, k130_, s131_⟩ := St.freezeRow (t := ((some ⟨r19, 0, none⟩, 2, 2) : Slc)) s127_
        obtain ⟨r132_, hr133_, hx67_⟩ := Option.bind_eq_some_iff.1 hx67_
        refine s_call (tronageref01_Lists_sim (k110_.mono ((le119_.trans le124_).trans le129_)) k130_ s131_ hr133_) ?_
        rintro _ h134_ ⟨f135_, t20, le137_, rfl, rfl, s136_⟩
        refine ⟨t20, rfl, ?_⟩
        refine s_cond hx67_ rfl (fun hb160_ hx67_ => ?_) (fun hb160_ hx67_ => ?_)
        · obtain ⟨r138_, hr139_, hx67_⟩ := Option.bind_eq_some_iff.1 hx67_
          refine s_call (loops_sim (k35_.mono ((((((((((((((le39_.trans le44_).trans le49_).trans le54_).trans le62_).trans le78_).trans le83_).trans le88_).trans le93_).trans le101_).trans le107_).trans le119_).trans le124_).trans le129_).trans le137_)) s136_ hr139_) ?_
          rintro _ h140_ ⟨f141_, t21, d144_, le143_, rfl, rfl, k146_, s142_⟩
          refine ⟨t21, rfl, ?_⟩
          have n145_ := k146_.length
          refine s_new (vs := [.int .i64 (0 : Int), .int .i64 (1 : Int)]) s142_ ?_
          intro r22 h148_ s147_
          have s149_ := St.lit (r := (Ro.int .i64)) (l := ([(0 : Int), (1 : Int)] : List Int)) (n := 2) s147_ (.cons (a := [_]) rfl (.cons (a := [_]) rfl .nil)) rfl (by decide)
          obtain ⟨f150_, le151_, k152_, s153_⟩ := St.freezeRow (t := ((some ⟨r22, 0, none⟩, 2, 2) : Slc)) s149_
          obtain ⟨r154_, hr155_, hx67_⟩ := Option.bind_eq_some_iff.1 hx67_
          refine s_call (tronageref01_Ints_sim (k146_.mono le151_) k152_ s153_ hr155_) ?_
          rintro _ h156_ ⟨f157_, t23, le159_, rfl, rfl, s158_⟩
          refine ⟨t23, rfl, ?_⟩
          obtain rfl := Option.some.inj hx67_
          exact s_out (t23, ()) rfl ⟨f157_, ((((((((((((le78_.trans le83_).trans le88_).trans le93_).trans le101_).trans le107_).trans le119_).trans le124_).trans le129_).trans le137_).trans le143_).trans le151_).trans le159_), rfl, s158_⟩
        · obtain rfl := Option.some.inj hx67_
          exact s_out (false, ()) rfl ⟨f135_, (((((((((le78_.trans le83_).trans le88_).trans le93_).trans le101_).trans le107_).trans le119_).trans le124_).trans le129_).trans le137_), rfl, s136_⟩
      · obtain rfl := Option.some.inj hx67_
        exact s_out (false, ()) rfl ⟨f99_, ((((le78_.trans le83_).trans le88_).trans le93_).trans le101_), rfl, s100_⟩
    · obtain rfl := Option.some.inj hx67_
      exact s_out (false, ()) rfl ⟨f60_, (Sub.refl _), rfl, s61_⟩
  · rintro z10 h163_ ⟨f164_, le165_, rfl, s166_⟩
    try dsimp only at hd
    obtain rfl := Option.some.inj hd
    exact finOf_back ⟨f164_, z10.1, (((((((((le19_.trans le24_).trans le29_).trans le34_).trans le39_).trans le44_).trans le49_).trans le54_).trans le62_).trans le165_), rfl, rfl, s166_⟩

noncomputable def tronagelaw12_DigraphSolves_D (edges_0 : List (List Int)) (base_1 : List (List Int)) (wide_2 : Int) : Option Bool :=
  (tronagelaw12_awake_D).bind fun t1 =>
  (tronagelaw12_few_D edges_0 base_1).bind fun t2 =>
  (cond (!t2)
  (some true)
  (cond (decide (wide_2 < (0 : Int)))
    (some true)
    (some (decide (wide_2 > (100 : Int)))))).bind fun z3 =>
  cond z3
  (some t1)
  ((solvedD edges_0 base_1 wide_2).bind fun t4 =>
    cond (!t4.2)
    (some false)
    ((forN (σ := Unit) (β := Bool) (0 : Int) (((List.length t4.1) : Nat) : Int) () fun i_z6 z6 =>
        (idx t4.1 i_z6).bind fun e54 =>
        (tronageref12_Solve_D edges_0 base_1 i_z6 wide_2).bind fun t9 =>
        (tronageref01_Ints_D e54 t9).bind fun t10 =>
        cond (!t10)
        (some (Step.done false))
        (some (Step.next ()))).bind fun e_z5 => match e_z5 with
      | .next z5 =>
        some t1
      | .done q85 => some q85))
theorem tronagelaw12_DigraphSolves_sim {φ : Snap} {h : Heap} {F : List Chk} {edges_0 : Slc} {d_edges_0 : List (List Int)} {base_1 : Slc} {d_base_1 : List (List Int)} {wide_2 : Int} (gk : Glob φ) (k1_ : Ro.SliceIs (Ro.list (Ro.int .i64)) φ edges_0 d_edges_0) (k3_ : Ro.SliceIs (Ro.list (Ro.int .i64)) φ base_1 d_base_1) (s0 : St φ (F) h) {r : Bool} (hd : tronagelaw12_DigraphSolves_D d_edges_0 d_base_1 wide_2 = some r) :
    CallsH Tryd.prog 3 [(.slice edges_0.1 edges_0.2.1 edges_0.2.2), (.slice base_1.1 base_1.2.1 base_1.2.2), (.int .i64 wide_2)] h (Back fun v h' => ∃ ψ : Snap, ∃ y : Bool, Sub φ ψ ∧ v = ((.one (.atom .bool)) : Sh).val y ∧ y = r ∧ St ψ (F) h') := by
  refine calls_of mixed Tryd.func3 ?_
  rw [tronagelaw12_DigraphSolves_den]
  unfold tronagelaw12_DigraphSolves_T
  unfold tronagelaw12_DigraphSolves_D at hd
  have n2_ : edges_0.2.1 = List.length d_edges_0 := k1_.length
  have n4_ : base_1.2.1 = List.length d_base_1 := k3_.length
  obtain ⟨r5_, hr6_, hd⟩ := Option.bind_eq_some_iff.1 hd
  refine s_call (tronagelaw12_awake_sim gk  s0 hr6_) ?_
  rintro _ h7_ ⟨f8_, t1, le10_, rfl, rfl, s9_⟩
  refine ⟨t1, rfl, ?_⟩
  obtain ⟨r11_, hr12_, hd⟩ := Option.bind_eq_some_iff.1 hd
  refine s_call (tronagelaw12_few_sim (k1_.mono le10_) (k3_.mono le10_) s9_ hr12_) ?_
  rintro _ h13_ ⟨f14_, t2, le16_, rfl, rfl, s15_⟩
  refine ⟨t2, rfl, ?_⟩
  obtain ⟨g17_, hx18_, hd⟩ := Option.bind_eq_some_iff.1 hd
  refine s_join (fun (y : Bool × Unit) w_ g => ∃ ψ : Snap, Sub f14_ ψ ∧ y.1 = g ∧ St ψ (F) w_) (g := g17_) ?_ ?_
  · refine s_cond hx18_ rfl (fun hb20_ hx18_ => ?_) (fun hb20_ hx18_ => ?_)
    · obtain rfl := Option.some.inj hx18_
      exact s_out (true, ()) rfl ⟨f14_, (Sub.refl _), rfl, s15_⟩
    · refine s_cond hx18_ rfl (fun hb19_ hx18_ => ?_) (fun hb19_ hx18_ => ?_)
      · obtain rfl := Option.some.inj hx18_
        exact s_out (true, ()) rfl ⟨f14_, (Sub.refl _), rfl, s15_⟩
      · obtain rfl := Option.some.inj hx18_
        exact s_out ((decide (wide_2 > (100 : Int))), ()) rfl ⟨f14_, (Sub.refl _), rfl, s15_⟩
  · rintro z3 h21_ ⟨f22_, le23_, rfl, s24_⟩
    try dsimp only at hd
    refine s_cond hd rfl (fun hb87_ hd => ?_) (fun hb87_ hd => ?_)
    · obtain rfl := Option.some.inj hd
      exact finOf_back ⟨f22_, t1, ((le10_.trans le16_).trans le23_), rfl, rfl, s24_⟩
    · obtain ⟨r25_, hr26_, hd⟩ := Option.bind_eq_some_iff.1 hd
      refine s_call (solved_sim (gk.mono ((le10_.trans le16_).trans le23_)) (k1_.mono ((le10_.trans le16_).trans le23_)) (k3_.mono ((le10_.trans le16_).trans le23_)) s24_ hr26_) ?_
      rintro _ h27_ ⟨f28_, t4, d31_, le30_, rfl, rfl, k33_, s29_⟩
      refine ⟨t4, rfl, ?_⟩
      try dsimp only at hd
      have n32_ := k33_.length
      refine s_cond hd rfl (fun hb86_ hd => ?_) (fun hb86_ hd => ?_)
      · obtain rfl := Option.some.inj hd
        exact finOf_back ⟨f28_, false, (((le10_.trans le16_).trans le23_).trans le30_), rfl, rfl, s29_⟩
      · obtain ⟨g34_, hx35_, hd⟩ := Option.bind_eq_some_iff.1 hd
        refine s_block (fun (y : Int × Bool × Unit) w_ g => ∃ ψ : Snap, Sub f28_ ψ ∧ Step.next () = g ∧ St ψ (F) w_) (g := g34_) ?_ ?_
        · refine s_forN hx35_ (fun i36_ (y : Int × Bool × Unit) w_ g => ∃ ψ : Snap, Sub f28_ ψ ∧ y.1 = i36_ ∧ () = g ∧ St ψ (F) w_) ((0 : Int), false, ()) rfl ⟨f28_, (Sub.refl _), rfl, rfl, s29_⟩ ?_ ?_
          · rintro _ z6 h42_ _ _ ⟨f39_, le40_, rfl, rfl, s41_⟩ he37_ h144_ h245_ hw43_ hb38_
            try dsimp only at he37_ h144_ h245_ hw43_
            refine t_true (by rw [n32_]; exact decide_eq_true h245_) ?_
            obtain ⟨x46_, hx47_, he37_⟩ := Option.bind_eq_some_iff.1 he37_
            obtain ⟨a48_, cs49_, ea50_, hi51_, q52_, cl53_⟩ := (k33_.mono le40_).get hx47_
            refine t_deref _ ea50_ (t_chk hi51_ ?_)
            obtain ⟨t55_, rfl, k56_⟩ := q52_
            have n57_ := k56_.length
            refine s_load (x := t55_) (cellS_heap (Sub.trans (Sub.refl _) s41_.sub) (cl53_ 0 _ rfl)) rfl ?_
            obtain ⟨r58_, hr59_, he37_⟩ := Option.bind_eq_some_iff.1 he37_
            refine s_call (tronageref12_Solve_sim (k1_.mono ((((le10_.trans le16_).trans le23_).trans le30_).trans le40_)) (k3_.mono ((((le10_.trans le16_).trans le23_).trans le30_).trans le40_)) s41_ hr59_) ?_
            rintro _ h60_ ⟨f61_, t9, d64_, le63_, rfl, rfl, k66_, s62_⟩
            refine ⟨t9, rfl, ?_⟩
            have n65_ := k66_.length
            refine t_still (cellS_heap (Sub.trans le63_ s62_.sub) (cl53_ 0 _ rfl)) ?_
            obtain ⟨r67_, hr68_, he37_⟩ := Option.bind_eq_some_iff.1 he37_
            refine s_call (tronageref01_Ints_sim (k56_.mono le63_) k66_ s62_ hr68_) ?_
            rintro _ h69_ ⟨f70_, t10, le72_, rfl, rfl, s71_⟩
            refine ⟨t10, rfl, ?_⟩
            refine s_cond he37_ rfl (fun hb73_ he37_ => ?_) (fun hb73_ he37_ => ?_)
            · obtain rfl := Option.some.inj he37_
              obtain rfl := hb38_ _ rfl
              try dsimp only at hd
              obtain rfl := Option.some.inj hd
              exact around_ret (meetB_ret (finOf_back ⟨f70_, false, ((((((le10_.trans le16_).trans le23_).trans le30_).trans le40_).trans le63_).trans le72_), rfl, rfl, s71_⟩))
            · obtain rfl := Option.some.inj he37_
              exact s_next ((IntKind.wrap .i64 (z6.1 + (1 : Int))), z6.2.1, ()) _ rfl rfl ⟨f70_, ((le40_.trans le63_).trans le72_), hw43_, rfl, s71_⟩
          · rintro _ z6 h77_ _ ⟨f74_, le75_, rfl, rfl, s76_⟩ hge78_ hr79_
            subst hr79_
            refine t_false (by rw [n32_]; exact decide_eq_false (Int.not_lt.2 hge78_)) ?_
            exact around_brk (meetB_brk (z6.1, z6.2.1, ()) rfl ⟨f74_, le75_, rfl, s76_⟩)
        · rintro z5 h80_ ⟨f81_, le82_, rfl, s83_⟩
          try dsimp only at hd
          obtain rfl := Option.some.inj hd
          exact finOf_back ⟨f81_, t1, ((((le10_.trans le16_).trans le23_).trans le30_).trans le82_), rfl, rfl, s83_⟩

noncomputable def tronagelaw12_DigraphParts_D (edges_0 : List (List Int)) : Option Bool :=
  (tronagelaw12_awake_D).bind fun t1 =>
  (tronagelaw12_few_D edges_0 ([] : List (List Int))).bind fun t2 =>
  cond (!t2)
  (some t1)
  ((partsD edges_0).bind fun t3 =>
    (loopsD edges_0).bind fun t4 =>
    (cond t1
    ((tronageref12_Parts_D edges_0).bind fun t6 =>
      (tronageref01_Lists_D t3 t6).bind fun t7 =>
      cond t7
      ((tronageref12_Loops_D edges_0).bind fun t8 =>
        (tronageref01_Ints_D t4 t8).bind fun t9 =>
        some t9)
      (some false))
    (some false)).bind fun z5 =>
    some z5)
theorem tronagelaw12_DigraphParts_sim {φ : Snap} {h : Heap} {F : List Chk} {edges_0 : Slc} {d_edges_0 : List (List Int)} (gk : Glob φ) (k1_ : Ro.SliceIs (Ro.list (Ro.int .i64)) φ edges_0 d_edges_0) (s0 : St φ (F) h) {r : Bool} (hd : tronagelaw12_DigraphParts_D d_edges_0 = some r) :
    CallsH Tryd.prog 4 [(.slice edges_0.1 edges_0.2.1 edges_0.2.2)] h (Back fun v h' => ∃ ψ : Snap, ∃ y : Bool, Sub φ ψ ∧ v = ((.one (.atom .bool)) : Sh).val y ∧ y = r ∧ St ψ (F) h') := by
  refine calls_of mixed Tryd.func4 ?_
  rw [tronagelaw12_DigraphParts_den]
  unfold tronagelaw12_DigraphParts_T
  unfold tronagelaw12_DigraphParts_D at hd
  have n2_ : edges_0.2.1 = List.length d_edges_0 := k1_.length
  obtain ⟨r3_, hr4_, hd⟩ := Option.bind_eq_some_iff.1 hd
  refine s_call (tronagelaw12_awake_sim gk  s0 hr4_) ?_
  rintro _ h5_ ⟨f6_, t1, le8_, rfl, rfl, s7_⟩
  refine ⟨t1, rfl, ?_⟩
  obtain ⟨r9_, hr10_, hd⟩ := Option.bind_eq_some_iff.1 hd
  refine s_call (tronagelaw12_few_sim (k1_.mono le8_) (Ro.SliceIs.nil (Ro.list (Ro.int .i64)) f6_) s7_ hr10_) ?_
  rintro _ h11_ ⟨f12_, t2, le14_, rfl, rfl, s13_⟩
  refine ⟨t2, rfl, ?_⟩
  refine s_cond hd rfl (fun hb71_ hd => ?_) (fun hb71_ hd => ?_)
  · obtain rfl := Option.some.inj hd
    exact finOf_back ⟨f12_, t1, (le8_.trans le14_), rfl, rfl, s13_⟩
  · obtain ⟨r15_, hr16_, hd⟩ := Option.bind_eq_some_iff.1 hd
    refine s_call (parts_simD (k1_.mono (le8_.trans le14_)) s13_ hr16_) ?_
    rintro _ h17_ ⟨f18_, t3, d21_, le20_, rfl, rfl, k23_, s19_⟩
    refine ⟨t3, rfl, ?_⟩
    have n22_ := k23_.length
    obtain ⟨r24_, hr25_, hd⟩ := Option.bind_eq_some_iff.1 hd
    refine s_call (loops_sim (k1_.mono ((le8_.trans le14_).trans le20_)) s19_ hr25_) ?_
    rintro _ h26_ ⟨f27_, t4, d30_, le29_, rfl, rfl, k32_, s28_⟩
    refine ⟨t4, rfl, ?_⟩
    have n31_ := k32_.length
    obtain ⟨g33_, hx34_, hd⟩ := Option.bind_eq_some_iff.1 hd
    refine s_join (fun (y : Bool × Unit) w_ g => ∃ ψ : Snap, Sub f27_ ψ ∧ y.1 = g ∧ St ψ (F) w_) (g := g33_) ?_ ?_
    · refine s_cond hx34_ rfl (fun hb66_ hx34_ => ?_) (fun hb66_ hx34_ => ?_)
      · obtain ⟨r35_, hr36_, hx34_⟩ := Option.bind_eq_some_iff.1 hx34_
        refine s_call (tronageref12_Parts_sim (k1_.mono (((le8_.trans le14_).trans le20_).trans le29_)) s28_ hr36_) ?_
        rintro _ h37_ ⟨f38_, t6, d41_, le40_, rfl, rfl, k43_, s39_⟩
        refine ⟨t6, rfl, ?_⟩
        have n42_ := k43_.length
        obtain ⟨r44_, hr45_, hx34_⟩ := Option.bind_eq_some_iff.1 hx34_
        refine s_call (tronageref01_Lists_sim (k23_.mono (le29_.trans le40_)) k43_ s39_ hr45_) ?_
        rintro _ h46_ ⟨f47_, t7, le49_, rfl, rfl, s48_⟩
        refine ⟨t7, rfl, ?_⟩
        refine s_cond hx34_ rfl (fun hb65_ hx34_ => ?_) (fun hb65_ hx34_ => ?_)
        · obtain ⟨r50_, hr51_, hx34_⟩ := Option.bind_eq_some_iff.1 hx34_
          refine s_call (tronageref12_Loops_sim (k1_.mono (((((le8_.trans le14_).trans le20_).trans le29_).trans le40_).trans le49_)) s48_ hr51_) ?_
          rintro _ h52_ ⟨f53_, t8, d56_, le55_, rfl, rfl, k58_, s54_⟩
          refine ⟨t8, rfl, ?_⟩
          have n57_ := k58_.length
          obtain ⟨r59_, hr60_, hx34_⟩ := Option.bind_eq_some_iff.1 hx34_
          refine s_call (tronageref01_Ints_sim (k32_.mono ((le40_.trans le49_).trans le55_)) k58_ s54_ hr60_) ?_
          rintro _ h61_ ⟨f62_, t9, le64_, rfl, rfl, s63_⟩
          refine ⟨t9, rfl, ?_⟩
          obtain rfl := Option.some.inj hx34_
          exact s_out (t9, ()) rfl ⟨f62_, (((le40_.trans le49_).trans le55_).trans le64_), rfl, s63_⟩
        · obtain rfl := Option.some.inj hx34_
          exact s_out (false, ()) rfl ⟨f47_, (le40_.trans le49_), rfl, s48_⟩
      · obtain rfl := Option.some.inj hx34_
        exact s_out (false, ()) rfl ⟨f27_, (Sub.refl _), rfl, s28_⟩
    · rintro z5 h67_ ⟨f68_, le69_, rfl, s70_⟩
      try dsimp only at hd
      obtain rfl := Option.some.inj hd
      exact finOf_back ⟨f68_, z5.1, ((((le8_.trans le14_).trans le20_).trans le29_).trans le69_), rfl, rfl, s70_⟩

noncomputable def tronagelaw12_DigraphCloses_D (edges_0 : List (List Int)) (base_1 : List (List Int)) : Option Bool :=
  (tronagelaw12_awake_D).bind fun t1 =>
  (tronagelaw12_few_D edges_0 base_1).bind fun t2 =>
  cond (!t2)
  (some t1)
  ((solvedD edges_0 base_1 (50 : Int)).bind fun t3 =>
    cond (!t3.2)
    (some false)
    ((forN (σ := Unit) (β := Bool) (0 : Int) (((List.length t3.1) : Nat) : Int) () fun i_z5 z5 =>
        (loop (σ := Int) (β := Step Unit Bool) (0 : Int) fun z7 =>
          (idx base_1 i_z5).bind fun e54 =>
          cond (decide (z7 < (((List.length e54) : Nat) : Int)))
          (((idx base_1 i_z5).bind fun e68 =>
            (idx e68 z7).bind fun e80 =>
            cond (decide (e80 ≥ (0 : Int)))
            ((idx base_1 i_z5).bind fun e89 =>
              (idx e89 z7).bind fun e101 =>
              cond (decide (e101 < (50 : Int)))
              ((idx t3.1 i_z5).bind fun e110 =>
                (idx base_1 i_z5).bind fun e122 =>
                (idx e122 z7).bind fun e134 =>
                (tronageref01_In_D e110 e134).bind fun t25 =>
                some (!t25))
              (some false))
            (some false)).bind fun z10 =>
            cond z10
            (some (Step.done (Step.done false)))
            (some (Step.next (IntKind.wrap .i64 (z7 + (1 : Int))))))
          (some (Step.done (Step.next ())))).bind fun e_z6 => match e_z6 with
        | .next z6 =>
          (loop (σ := Int) (β := Step Unit Bool) (0 : Int) fun z27 =>
            (cond (decide (i_z5 < (((List.length edges_0) : Nat) : Int)))
            ((idx edges_0 i_z5).bind fun e172 =>
              some (decide (z27 < (((List.length e172) : Nat) : Int))))
            (some false)).bind fun z28 =>
            cond z28
            ((idx edges_0 i_z5).bind fun e189 =>
              (idx e189 z27).bind fun e201 =>
              (cond (decide (e201 ≥ (0 : Int)))
              (cond (decide (e201 < (((List.length t3.1) : Nat) : Int)))
                ((idx t3.1 e201).bind fun e212 =>
                  (idx t3.1 i_z5).bind fun e224 =>
                  (tronagelaw12_subset_D e212 e224).bind fun t40 =>
                  some (!t40))
                (some false))
              (some false)).bind fun z35 =>
              cond z35
              (some (Step.done (Step.done false)))
              (some (Step.next (IntKind.wrap .i64 (z27 + (1 : Int))))))
            (some (Step.done (Step.next ())))).bind fun e_z26 => match e_z26 with
          | .next z26 =>
            some (Step.next ())
          | .done q247 => some (Step.done q247)
        | .done q248 => some (Step.done q248)).bind fun e_z4 => match e_z4 with
      | .next z4 =>
        (solvedD edges_0 t3.1 (50 : Int)).bind fun t41 =>
        (cond t1
        (cond t41.2
          ((tronageref01_Lists_D t3.1 t41.1).bind fun t43 =>
            some t43)
          (some false))
        (some false)).bind fun z42 =>
        some z42
      | .done q283 => some q283))
theorem tronagelaw12_DigraphCloses_sim {φ : Snap} {h : Heap} {F : List Chk} {edges_0 : Slc} {d_edges_0 : List (List Int)} {base_1 : Slc} {d_base_1 : List (List Int)} (gk : Glob φ) (k1_ : Ro.SliceIs (Ro.list (Ro.int .i64)) φ edges_0 d_edges_0) (k3_ : Ro.SliceIs (Ro.list (Ro.int .i64)) φ base_1 d_base_1) (s0 : St φ (F) h) {r : Bool} (hd : tronagelaw12_DigraphCloses_D d_edges_0 d_base_1 = some r) :
    CallsH Tryd.prog 5 [(.slice edges_0.1 edges_0.2.1 edges_0.2.2), (.slice base_1.1 base_1.2.1 base_1.2.2)] h (Back fun v h' => ∃ ψ : Snap, ∃ y : Bool, Sub φ ψ ∧ v = ((.one (.atom .bool)) : Sh).val y ∧ y = r ∧ St ψ (F) h') := by
  refine calls_of mixed Tryd.func5 ?_
  rw [tronagelaw12_DigraphCloses_den]
  unfold tronagelaw12_DigraphCloses_T
  unfold tronagelaw12_DigraphCloses_D at hd
  have n2_ : edges_0.2.1 = List.length d_edges_0 := k1_.length
  have n4_ : base_1.2.1 = List.length d_base_1 := k3_.length
  obtain ⟨r5_, hr6_, hd⟩ := Option.bind_eq_some_iff.1 hd
  refine s_call (tronagelaw12_awake_sim gk  s0 hr6_) ?_
  rintro _ h7_ ⟨f8_, t1, le10_, rfl, rfl, s9_⟩
  refine ⟨t1, rfl, ?_⟩
  obtain ⟨r11_, hr12_, hd⟩ := Option.bind_eq_some_iff.1 hd
  refine s_call (tronagelaw12_few_sim (k1_.mono le10_) (k3_.mono le10_) s9_ hr12_) ?_
  rintro _ h13_ ⟨f14_, t2, le16_, rfl, rfl, s15_⟩
  refine ⟨t2, rfl, ?_⟩
  refine s_cond hd rfl (fun hb285_ hd => ?_) (fun hb285_ hd => ?_)
  · obtain rfl := Option.some.inj hd
    exact finOf_back ⟨f14_, t1, (le10_.trans le16_), rfl, rfl, s15_⟩
  · obtain ⟨r17_, hr18_, hd⟩ := Option.bind_eq_some_iff.1 hd
    refine s_call (solved_sim (gk.mono (le10_.trans le16_)) (k1_.mono (le10_.trans le16_)) (k3_.mono (le10_.trans le16_)) s15_ hr18_) ?_
    rintro _ h19_ ⟨f20_, t3, d23_, le22_, rfl, rfl, k25_, s21_⟩
    refine ⟨t3, rfl, ?_⟩
    try dsimp only at hd
    have n24_ := k25_.length
    refine s_cond hd rfl (fun hb284_ hd => ?_) (fun hb284_ hd => ?_)
    · obtain rfl := Option.some.inj hd
      exact finOf_back ⟨f20_, false, ((le10_.trans le16_).trans le22_), rfl, rfl, s21_⟩
    · obtain ⟨g26_, hx27_, hd⟩ := Option.bind_eq_some_iff.1 hd
      refine s_block (fun (y : Int × Bool × Unit) w_ g => ∃ ψ : Snap, Sub f20_ ψ ∧ Step.next () = g ∧ St ψ (F) w_) (g := g26_) ?_ ?_
      · refine s_forN hx27_ (fun i28_ (y : Int × Bool × Unit) w_ g => ∃ ψ : Snap, Sub f20_ ψ ∧ y.1 = i28_ ∧ () = g ∧ St ψ (F) w_) ((0 : Int), false, ()) rfl ⟨f20_, (Sub.refl _), rfl, rfl, s21_⟩ ?_ ?_
        · rintro _ z5 h34_ _ _ ⟨f31_, le32_, rfl, rfl, s33_⟩ he29_ h136_ h237_ hw35_ hb30_
          try dsimp only at he29_ h136_ h237_ hw35_
          refine t_true (by rw [n24_]; exact decide_eq_true h237_) ?_
          obtain ⟨g38_, hx39_, he29_⟩ := Option.bind_eq_some_iff.1 he29_
          refine s_block (fun (y : Int × Bool × Unit) w_ g => ∃ ψ : Snap, Sub f31_ ψ ∧ Step.next () = g ∧ St ψ (F) w_) (g := g38_) ?_ ?_
          · refine s_loop hx39_ (fun (y : Int × Bool × Unit) w_ g => ∃ ψ : Snap, Sub f31_ ψ ∧ y.1 = g ∧ St ψ (F) w_) ((0 : Int), z5.2.1, ()) rfl ⟨f31_, (Sub.refl _), rfl, s33_⟩ ?_
            · rintro z7 h45_ _ _ ⟨f42_, le43_, rfl, s44_⟩ he40_ hb41_
              try dsimp only at he40_
              obtain ⟨x46_, hx47_, he40_⟩ := Option.bind_eq_some_iff.1 he40_
              obtain ⟨a48_, cs49_, ea50_, hi51_, q52_, cl53_⟩ := (k3_.mono ((((le10_.trans le16_).trans le22_).trans le32_).trans le43_)).get hx47_
              refine t_deref _ ea50_ (t_chk hi51_ ?_)
              obtain ⟨t55_, rfl, k56_⟩ := q52_
              have n57_ := k56_.length
              refine s_load (x := t55_) (cellS_heap (Sub.trans (Sub.refl _) s44_.sub) (cl53_ 0 _ rfl)) rfl ?_
              refine s_cond he40_ (by rw [n57_] <;> rfl) (fun hb148_ he40_ => ?_) (fun hb148_ he40_ => ?_)
              · obtain ⟨g58_, hx59_, he40_⟩ := Option.bind_eq_some_iff.1 he40_
                refine s_join (fun (y : Bool × Unit) w_ g => ∃ ψ : Snap, Sub f42_ ψ ∧ y.1 = g ∧ St ψ (F) w_) (g := g58_) ?_ ?_
                · obtain ⟨x60_, hx61_, hx59_⟩ := Option.bind_eq_some_iff.1 hx59_
                  obtain ⟨a62_, cs63_, ea64_, hi65_, q66_, cl67_⟩ := (k3_.mono ((((le10_.trans le16_).trans le22_).trans le32_).trans le43_)).get hx61_
                  refine t_deref _ ea64_ (t_chk hi65_ ?_)
                  obtain ⟨t69_, rfl, k70_⟩ := q66_
                  have n71_ := k70_.length
                  refine s_load (x := t69_) (cellS_heap (Sub.trans (Sub.refl _) s44_.sub) (cl67_ 0 _ rfl)) rfl ?_
                  obtain ⟨x72_, hx73_, hx59_⟩ := Option.bind_eq_some_iff.1 hx59_
                  obtain ⟨a74_, cs75_, ea76_, hi77_, q78_, cl79_⟩ := k70_.get hx73_
                  refine t_deref _ ea76_ (t_chk hi77_ ?_)
                  obtain rfl := q78_
                  refine s_load (x := x72_) (cellS_heap (Sub.trans (Sub.refl _) s44_.sub) (cl79_ 0 _ rfl)) rfl ?_
                  refine s_cond hx59_ rfl (fun hb142_ hx59_ => ?_) (fun hb142_ hx59_ => ?_)
                  · obtain ⟨x81_, hx82_, hx59_⟩ := Option.bind_eq_some_iff.1 hx59_
                    obtain ⟨a83_, cs84_, ea85_, hi86_, q87_, cl88_⟩ := (k3_.mono ((((le10_.trans le16_).trans le22_).trans le32_).trans le43_)).get hx82_
                    refine t_deref _ ea85_ (t_chk hi86_ ?_)
                    obtain ⟨t90_, rfl, k91_⟩ := q87_
                    have n92_ := k91_.length
                    refine s_load (x := t90_) (cellS_heap (Sub.trans (Sub.refl _) s44_.sub) (cl88_ 0 _ rfl)) rfl ?_
                    obtain ⟨x93_, hx94_, hx59_⟩ := Option.bind_eq_some_iff.1 hx59_
                    obtain ⟨a95_, cs96_, ea97_, hi98_, q99_, cl100_⟩ := k91_.get hx94_
                    refine t_deref _ ea97_ (t_chk hi98_ ?_)
                    obtain rfl := q99_
                    refine s_load (x := x93_) (cellS_heap (Sub.trans (Sub.refl _) s44_.sub) (cl100_ 0 _ rfl)) rfl ?_
                    refine s_cond hx59_ rfl (fun hb141_ hx59_ => ?_) (fun hb141_ hx59_ => ?_)
                    · obtain ⟨x102_, hx103_, hx59_⟩ := Option.bind_eq_some_iff.1 hx59_
                      obtain ⟨a104_, cs105_, ea106_, hi107_, q108_, cl109_⟩ := (k25_.mono (le32_.trans le43_)).get hx103_
                      refine t_deref _ ea106_ (t_chk hi107_ ?_)
                      obtain ⟨t111_, rfl, k112_⟩ := q108_
                      have n113_ := k112_.length
                      refine s_load (x := t111_) (cellS_heap (Sub.trans (Sub.refl _) s44_.sub) (cl109_ 0 _ rfl)) rfl ?_
                      obtain ⟨x114_, hx115_, hx59_⟩ := Option.bind_eq_some_iff.1 hx59_
                      obtain ⟨a116_, cs117_, ea118_, hi119_, q120_, cl121_⟩ := (k3_.mono ((((le10_.trans le16_).trans le22_).trans le32_).trans le43_)).get hx115_
                      refine t_deref _ ea118_ (t_chk hi119_ ?_)
                      obtain ⟨t123_, rfl, k124_⟩ := q120_
                      have n125_ := k124_.length
                      refine s_load (x := t123_) (cellS_heap (Sub.trans (Sub.refl _) s44_.sub) (cl121_ 0 _ rfl)) rfl ?_
                      obtain ⟨x126_, hx127_, hx59_⟩ := Option.bind_eq_some_iff.1 hx59_
                      obtain ⟨a128_, cs129_, ea130_, hi131_, q132_, cl133_⟩ := k124_.get hx127_
                      refine t_deref _ ea130_ (t_chk hi131_ ?_)
                      obtain rfl := q132_
                      refine s_load (x := x126_) (cellS_heap (Sub.trans (Sub.refl _) s44_.sub) (cl133_ 0 _ rfl)) rfl ?_
                      obtain ⟨r135_, hr136_, hx59_⟩ := Option.bind_eq_some_iff.1 hx59_
                      refine s_call (tronageref01_In_sim k112_ s44_ hr136_) ?_
                      rintro _ h137_ ⟨f138_, t25, le140_, rfl, rfl, s139_⟩
                      refine ⟨t25, rfl, ?_⟩
                      obtain rfl := Option.some.inj hx59_
                      exact s_out ((!t25), ()) rfl ⟨f138_, le140_, rfl, s139_⟩
                    · obtain rfl := Option.some.inj hx59_
                      exact s_out (false, ()) rfl ⟨f42_, (Sub.refl _), rfl, s44_⟩
                  · obtain rfl := Option.some.inj hx59_
                    exact s_out (false, ()) rfl ⟨f42_, (Sub.refl _), rfl, s44_⟩
                · rintro z10 h143_ ⟨f144_, le145_, rfl, s146_⟩
                  try dsimp only at he40_
                  refine s_cond he40_ rfl (fun hb147_ he40_ => ?_) (fun hb147_ he40_ => ?_)
                  · obtain rfl := Option.some.inj he40_
                    obtain rfl := hb41_ _ rfl
                    try dsimp only at he29_
                    obtain rfl := Option.some.inj he29_
                    obtain rfl := hb30_ _ rfl
                    try dsimp only at hd
                    obtain rfl := Option.some.inj hd
                    exact around_ret (meetB_ret (around_ret (meetB_ret (finOf_back ⟨f144_, false, (((((le10_.trans le16_).trans le22_).trans le32_).trans le43_).trans le145_), rfl, rfl, s146_⟩))))
                  · obtain rfl := Option.some.inj he40_
                    exact s_next ((IntKind.wrap .i64 (z7.1 + (1 : Int))), z7.2.1, ()) _ rfl rfl ⟨f144_, (le43_.trans le145_), rfl, s146_⟩
              · obtain rfl := Option.some.inj he40_
                obtain rfl := hb41_ _ rfl
                exact around_brk (meetB_brk (z7.1, z7.2.1, ()) rfl ⟨f42_, le43_, rfl, s44_⟩)
          · rintro z6 h149_ ⟨f150_, le151_, rfl, s152_⟩
            try dsimp only at he29_
            obtain ⟨g154_, hx155_, he29_⟩ := Option.bind_eq_some_iff.1 he29_
            refine s_block (fun (y : Int × Bool × Unit) w_ g => ∃ ψ : Snap, Sub f150_ ψ ∧ Step.next () = g ∧ St ψ (F) w_) (g := g154_) ?_ ?_
            · refine s_loop hx155_ (fun (y : Int × Bool × Unit) w_ g => ∃ ψ : Snap, Sub f150_ ψ ∧ y.1 = g ∧ St ψ (F) w_) ((0 : Int), z6.2.1, ()) rfl ⟨f150_, (Sub.refl _), rfl, s152_⟩ ?_
              · rintro z27 h161_ _ _ ⟨f158_, le159_, rfl, s160_⟩ he156_ hb157_
                try dsimp only at he156_
                obtain ⟨g162_, hx163_, he156_⟩ := Option.bind_eq_some_iff.1 he156_
                refine s_join (fun (y : Bool × Unit) w_ g => ∃ ψ : Snap, Sub f158_ ψ ∧ y.1 = g ∧ St ψ (F) w_) (g := g162_) ?_ ?_
                · refine s_cond hx163_ (by rw [n2_] <;> rfl) (fun hb176_ hx163_ => ?_) (fun hb176_ hx163_ => ?_)
                  · obtain ⟨x164_, hx165_, hx163_⟩ := Option.bind_eq_some_iff.1 hx163_
                    obtain ⟨a166_, cs167_, ea168_, hi169_, q170_, cl171_⟩ := (k1_.mono (((((le10_.trans le16_).trans le22_).trans le32_).trans le151_).trans le159_)).get hx165_
                    refine t_deref _ ea168_ (t_chk hi169_ ?_)
                    obtain ⟨t173_, rfl, k174_⟩ := q170_
                    have n175_ := k174_.length
                    refine s_load (x := t173_) (cellS_heap (Sub.trans (Sub.refl _) s160_.sub) (cl171_ 0 _ rfl)) rfl ?_
                    obtain rfl := Option.some.inj hx163_
                    exact s_out ((decide (z27.1 < ((t173_.2.1 : Nat) : Int))), ()) rfl ⟨f158_, (Sub.refl _), (by rw [n175_]), s160_⟩
                  · obtain rfl := Option.some.inj hx163_
                    exact s_out (false, ()) rfl ⟨f158_, (Sub.refl _), rfl, s160_⟩
                · rintro z28 h177_ ⟨f178_, le179_, rfl, s180_⟩
                  try dsimp only at he156_
                  refine s_cond he156_ rfl (fun hb241_ he156_ => ?_) (fun hb241_ he156_ => ?_)
                  · obtain ⟨x181_, hx182_, he156_⟩ := Option.bind_eq_some_iff.1 he156_
                    obtain ⟨a183_, cs184_, ea185_, hi186_, q187_, cl188_⟩ := (k1_.mono ((((((le10_.trans le16_).trans le22_).trans le32_).trans le151_).trans le159_).trans le179_)).get hx182_
                    refine t_deref _ ea185_ (t_chk hi186_ ?_)
                    obtain ⟨t190_, rfl, k191_⟩ := q187_
                    have n192_ := k191_.length
                    refine s_load (x := t190_) (cellS_heap (Sub.trans (Sub.refl _) s180_.sub) (cl188_ 0 _ rfl)) rfl ?_
                    obtain ⟨x193_, hx194_, he156_⟩ := Option.bind_eq_some_iff.1 he156_
                    obtain ⟨a195_, cs196_, ea197_, hi198_, q199_, cl200_⟩ := k191_.get hx194_
                    refine t_deref _ ea197_ (t_chk hi198_ ?_)
                    obtain rfl := q199_
                    refine s_load (x := x193_) (cellS_heap (Sub.trans (Sub.refl _) s180_.sub) (cl200_ 0 _ rfl)) rfl ?_
                    obtain ⟨g202_, hx203_, he156_⟩ := Option.bind_eq_some_iff.1 he156_
                    refine s_join (fun (y : Bool × Unit) w_ g => ∃ ψ : Snap, Sub f178_ ψ ∧ y.1 = g ∧ St ψ (F) w_) (g := g202_) ?_ ?_
                    · refine s_cond hx203_ rfl (fun hb235_ hx203_ => ?_) (fun hb235_ hx203_ => ?_)
                      · refine s_cond hx203_ (by rw [n24_] <;> rfl) (fun hb234_ hx203_ => ?_) (fun hb234_ hx203_ => ?_)
                        · obtain ⟨x204_, hx205_, hx203_⟩ := Option.bind_eq_some_iff.1 hx203_
                          obtain ⟨a206_, cs207_, ea208_, hi209_, q210_, cl211_⟩ := (k25_.mono (((le32_.trans le151_).trans le159_).trans le179_)).get hx205_
                          refine t_deref _ ea208_ (t_chk hi209_ ?_)
                          obtain ⟨t213_, rfl, k214_⟩ := q210_
                          have n215_ := k214_.length
                          refine s_load (x := t213_) (cellS_heap (Sub.trans (Sub.refl _) s180_.sub) (cl211_ 0 _ rfl)) rfl ?_
                          obtain ⟨x216_, hx217_, hx203_⟩ := Option.bind_eq_some_iff.1 hx203_
                          obtain ⟨a218_, cs219_, ea220_, hi221_, q222_, cl223_⟩ := (k25_.mono (((le32_.trans le151_).trans le159_).trans le179_)).get hx217_
                          refine t_deref _ ea220_ (t_chk hi221_ ?_)
                          obtain ⟨t225_, rfl, k226_⟩ := q222_
                          have n227_ := k226_.length
                          refine s_load (x := t225_) (cellS_heap (Sub.trans (Sub.refl _) s180_.sub) (cl223_ 0 _ rfl)) rfl ?_
                          obtain ⟨r228_, hr229_, hx203_⟩ := Option.bind_eq_some_iff.1 hx203_
                          refine s_call (tronagelaw12_subset_sim k214_ k226_ s180_ hr229_) ?_
                          rintro _ h230_ ⟨f231_, t40, le233_, rfl, rfl, s232_⟩
                          refine ⟨t40, rfl, ?_⟩
                          obtain rfl := Option.some.inj hx203_
                          exact s_out ((!t40), ()) rfl ⟨f231_, le233_, rfl, s232_⟩
                        · obtain rfl := Option.some.inj hx203_
                          exact s_out (false, ()) rfl ⟨f178_, (Sub.refl _), rfl, s180_⟩
                      · obtain rfl := Option.some.inj hx203_
                        exact s_out (false, ()) rfl ⟨f178_, (Sub.refl _), rfl, s180_⟩
                    · rintro z35 h236_ ⟨f237_, le238_, rfl, s239_⟩
                      try dsimp only at he156_
                      refine s_cond he156_ rfl (fun hb240_ he156_ => ?_) (fun hb240_ he156_ => ?_)
                      · obtain rfl := Option.some.inj he156_
                        obtain rfl := hb157_ _ rfl
                        try dsimp only at he29_
                        obtain rfl := Option.some.inj he29_
                        obtain rfl := hb30_ _ rfl
                        try dsimp only at hd
                        obtain rfl := Option.some.inj hd
                        exact around_ret (meetB_ret (around_ret (meetB_ret (finOf_back ⟨f237_, false, (((((((le10_.trans le16_).trans le22_).trans le32_).trans le151_).trans le159_).trans le179_).trans le238_), rfl, rfl, s239_⟩))))
                      · obtain rfl := Option.some.inj he156_
                        exact s_next ((IntKind.wrap .i64 (z27.1 + (1 : Int))), z27.2.1, ()) _ rfl rfl ⟨f237_, ((le159_.trans le179_).trans le238_), rfl, s239_⟩
                  · obtain rfl := Option.some.inj he156_
                    obtain rfl := hb157_ _ rfl
                    exact around_brk (meetB_brk (z27.1, z27.2.1, ()) rfl ⟨f178_, (le159_.trans le179_), rfl, s180_⟩)
            · rintro z26 h242_ ⟨f243_, le244_, rfl, s245_⟩
              try dsimp only at he29_
              obtain rfl := Option.some.inj he29_
              exact s_next ((IntKind.wrap .i64 (z5.1 + (1 : Int))), z26.2.1, ()) _ rfl rfl ⟨f243_, ((le32_.trans le151_).trans le244_), hw35_, rfl, s245_⟩
        · rintro _ z5 h252_ _ ⟨f249_, le250_, rfl, rfl, s251_⟩ hge253_ hr254_
          subst hr254_
          refine t_false (by rw [n24_]; exact decide_eq_false (Int.not_lt.2 hge253_)) ?_
          exact around_brk (meetB_brk (z5.1, z5.2.1, ()) rfl ⟨f249_, le250_, rfl, s251_⟩)
      · rintro z4 h255_ ⟨f256_, le257_, rfl, s258_⟩
        try dsimp only at hd
        obtain ⟨r260_, hr261_, hd⟩ := Option.bind_eq_some_iff.1 hd
        refine s_call (solved_sim (gk.mono (((le10_.trans le16_).trans le22_).trans le257_)) (k1_.mono (((le10_.trans le16_).trans le22_).trans le257_)) (k25_.mono le257_) s258_ hr261_) ?_
        rintro _ h262_ ⟨f263_, t41, d266_, le265_, rfl, rfl, k268_, s264_⟩
        refine ⟨t41, rfl, ?_⟩
        try dsimp only at hd
        have n267_ := k268_.length
        obtain ⟨g269_, hx270_, hd⟩ := Option.bind_eq_some_iff.1 hd
        refine s_join (fun (y : Bool × Unit) w_ g => ∃ ψ : Snap, Sub f263_ ψ ∧ y.1 = g ∧ St ψ (F) w_) (g := g269_) ?_ ?_
        · refine s_cond hx270_ rfl (fun hb278_ hx270_ => ?_) (fun hb278_ hx270_ => ?_)
          · refine s_cond hx270_ rfl (fun hb277_ hx270_ => ?_) (fun hb277_ hx270_ => ?_)
            · obtain ⟨r271_, hr272_, hx270_⟩ := Option.bind_eq_some_iff.1 hx270_
              refine s_call (tronageref01_Lists_sim (k25_.mono (le257_.trans le265_)) k268_ s264_ hr272_) ?_
              rintro _ h273_ ⟨f274_, t43, le276_, rfl, rfl, s275_⟩
              refine ⟨t43, rfl, ?_⟩
              obtain rfl := Option.some.inj hx270_
              exact s_out (t43, ()) rfl ⟨f274_, le276_, rfl, s275_⟩
            · obtain rfl := Option.some.inj hx270_
              exact s_out (false, ()) rfl ⟨f263_, (Sub.refl _), rfl, s264_⟩
          · obtain rfl := Option.some.inj hx270_
            exact s_out (false, ()) rfl ⟨f263_, (Sub.refl _), rfl, s264_⟩
        · rintro z42 h279_ ⟨f280_, le281_, rfl, s282_⟩
          try dsimp only at hd
          obtain rfl := Option.some.inj hd
          exact finOf_back ⟨f280_, z42.1, (((((le10_.trans le16_).trans le22_).trans le257_).trans le265_).trans le281_), rfl, rfl, s282_⟩

noncomputable def tronagelaw12_DigraphLeast_D (edges_0 : List (List Int)) (base_1 : List (List Int)) (x_2 : Int) : Option Bool :=
  (tronagelaw12_awake_D).bind fun t1 =>
  (tronagelaw12_few_D edges_0 base_1).bind fun t2 =>
  cond (!t2)
  (some t1)
  ((forS (σ := List (List Int)) (0 : Int) (((List.length base_1) : Nat) : Int) ([] : List (List Int)) fun i_z4 z4 =>
      (loop (σ := (Int × List Int)) (β := List Int) ((0 : Int), ([] : List Int)) fun z6 =>
        (idx base_1 i_z4).bind fun e57 =>
        cond (decide (z6.1 < (((List.length e57) : Nat) : Int)))
        ((idx base_1 i_z4).bind fun e69 =>
          (idx e69 z6.1).bind fun e81 =>
          (cond (e81 != x_2)
          ((idx base_1 i_z4).bind fun e93 =>
            (idx e93 z6.1).bind fun e105 =>
            (app z6.2 ([e105] : List Int)).bind fun t19 =>
            some t19)
          (some z6.2)).bind fun z13 =>
          some (Step.next ((IntKind.wrap .i64 (z6.1 + (1 : Int))), z13)))
        (some (Step.done z6.2))).bind fun z5 =>
      (app z4 ([z5] : List (List Int))).bind fun t21 =>
      some t21).bind fun z3 =>
    (solvedD edges_0 base_1 (50 : Int)).bind fun t22 =>
    (solvedD edges_0 z3 (50 : Int)).bind fun t23 =>
    (cond (!t22.2)
    (some true)
    (some (!t23.2))).bind fun z24 =>
    cond z24
    (some false)
    ((forN (σ := Unit) (β := Bool) (0 : Int) (((List.length t22.1) : Nat) : Int) () fun i_z26 z26 =>
        (loop (σ := (Int × List Int)) (β := List Int) ((0 : Int), ([] : List Int)) fun z28 =>
          (idx t22.1 i_z26).bind fun e240 =>
          cond (decide (z28.1 < (((List.length e240) : Nat) : Int)))
          ((idx t22.1 i_z26).bind fun e252 =>
            (idx e252 z28.1).bind fun e264 =>
            (cond (e264 != x_2)
            ((idx t22.1 i_z26).bind fun e276 =>
              (idx e276 z28.1).bind fun e288 =>
              (app z28.2 ([e288] : List Int)).bind fun t41 =>
              some t41)
            (some z28.2)).bind fun z35 =>
            some (Step.next ((IntKind.wrap .i64 (z28.1 + (1 : Int))), z35)))
          (some (Step.done z28.2))).bind fun z27 =>
        (idx t23.1 i_z26).bind fun e327 =>
        (tronageref01_Ints_D e327 z27).bind fun t44 =>
        cond (!t44)
        (some (Step.done false))
        (some (Step.next ()))).bind fun e_z25 => match e_z25 with
      | .next z25 =>
        some t1
      | .done q354 => some q354))
theorem tronagelaw12_DigraphLeast_sim {φ : Snap} {h : Heap} {F : List Chk} {edges_0 : Slc} {d_edges_0 : List (List Int)} {base_1 : Slc} {d_base_1 : List (List Int)} {x_2 : Int} (gk : Glob φ) (k1_ : Ro.SliceIs (Ro.list (Ro.int .i64)) φ edges_0 d_edges_0) (k3_ : Ro.SliceIs (Ro.list (Ro.int .i64)) φ base_1 d_base_1) (s0 : St φ (F) h) {r : Bool} (hd : tronagelaw12_DigraphLeast_D d_edges_0 d_base_1 x_2 = some r) :
    CallsH Tryd.prog 6 [(.slice edges_0.1 edges_0.2.1 edges_0.2.2), (.slice base_1.1 base_1.2.1 base_1.2.2), (.int .i64 x_2)] h (Back fun v h' => ∃ ψ : Snap, ∃ y : Bool, Sub φ ψ ∧ v = ((.one (.atom .bool)) : Sh).val y ∧ y = r ∧ St ψ (F) h') := by
  refine calls_of mixed Tryd.func6 ?_
  rw [tronagelaw12_DigraphLeast_den]
  unfold tronagelaw12_DigraphLeast_T
  unfold tronagelaw12_DigraphLeast_D at hd
  have n2_ : edges_0.2.1 = List.length d_edges_0 := k1_.length
  have n4_ : base_1.2.1 = List.length d_base_1 := k3_.length
  obtain ⟨r5_, hr6_, hd⟩ := Option.bind_eq_some_iff.1 hd
  refine s_call (tronagelaw12_awake_sim gk  s0 hr6_) ?_
  rintro _ h7_ ⟨f8_, t1, le10_, rfl, rfl, s9_⟩
  refine ⟨t1, rfl, ?_⟩
  obtain ⟨r11_, hr12_, hd⟩ := Option.bind_eq_some_iff.1 hd
  refine s_call (tronagelaw12_few_sim (k1_.mono le10_) (k3_.mono le10_) s9_ hr12_) ?_
  rintro _ h13_ ⟨f14_, t2, le16_, rfl, rfl, s15_⟩
  refine ⟨t2, rfl, ?_⟩
  refine s_cond hd rfl (fun hb356_ hd => ?_) (fun hb356_ hd => ?_)
  · obtain rfl := Option.some.inj hd
    exact finOf_back ⟨f14_, t1, (le10_.trans le16_), rfl, rfl, s15_⟩
  · have s19_ := s15_.nil 28 (Ro.list (Ro.int .i64))
    obtain ⟨g17_, hx18_, hd⟩ := Option.bind_eq_some_iff.1 hd
    refine s_block (fun (y : Int × (Option Addr × Nat × Nat) × Unit) w_ g => ∃ ψ : Snap, ∃ l20_ : List (List Int), Sub f14_ ψ ∧ l20_ = g ∧ St ψ (⟨Rep.row 28 (Ro.list (Ro.int .i64)), [.slice y.2.1.1 y.2.1.2.1 y.2.1.2.2], l20_⟩ :: F) w_) (g := g17_) ?_ ?_
    · refine s_forS hx18_ (fun i22_ (y : Int × (Option Addr × Nat × Nat) × Unit) w_ g => ∃ ψ : Snap, ∃ l21_ : List (List Int), Sub f14_ ψ ∧ y.1 = i22_ ∧ l21_ = g ∧ St ψ (⟨Rep.row 28 (Ro.list (Ro.int .i64)), [.slice y.2.1.1 y.2.1.2.1 y.2.1.2.2], l21_⟩ :: F) w_) ((0 : Int), ((none, 0, 0) : Slc), ()) rfl ⟨f14_, ([] : List (List Int)), (Sub.refl _), rfl, rfl, s19_⟩ ?_ ?_
      · rintro _ z4 h28_ _ _ ⟨f25_, d29_, le26_, rfl, rfl, s27_⟩ he23_ h132_ h233_ hw31_
        try dsimp only at he23_ h132_ h233_ hw31_
        have n30_ := s27_.rowLen
        refine t_true (by rw [n4_]; exact decide_eq_true h233_) ?_
        have s36_ := s27_.nil 3 (Ro.int .i64)
        have s37_ := s36_.at1
        have s38_ := s37_.at1
        obtain ⟨g34_, hx35_, he23_⟩ := Option.bind_eq_some_iff.1 he23_
        refine s_block (fun (y : Int × (Option Addr × Nat × Nat) × Unit) w_ g => ∃ ψ : Snap, ∃ l39_ : List Int, Sub f25_ ψ ∧ l39_ = g ∧ St ψ (⟨Rep.row 3 (Ro.int .i64), [.slice y.2.1.1 y.2.1.2.1 y.2.1.2.2], l39_⟩ :: ⟨Rep.row 28 (Ro.list (Ro.int .i64)), [.slice z4.2.1.1 z4.2.1.2.1 z4.2.1.2.2], d29_⟩ :: F) w_) (g := g34_) ?_ ?_
        · refine s_loop hx35_ (fun (y : Int × (Option Addr × Nat × Nat) × Unit) w_ g => ∃ ψ : Snap, ∃ l40_ : List Int, Sub f25_ ψ ∧ (y.1, l40_) = g ∧ St ψ (⟨Rep.row 3 (Ro.int .i64), [.slice y.2.1.1 y.2.1.2.1 y.2.1.2.2], l40_⟩ :: ⟨Rep.row 28 (Ro.list (Ro.int .i64)), [.slice z4.2.1.1 z4.2.1.2.1 z4.2.1.2.2], d29_⟩ :: F) w_) ((0 : Int), ((none, 0, 0) : Slc), ()) rfl ⟨f25_, ([] : List Int), (Sub.refl _), rfl, s38_⟩ ?_
          · rintro z6 h46_ _ _ ⟨f43_, d47_, le44_, rfl, s45_⟩ he41_ hb42_
            try dsimp only at he41_
            have n48_ := s45_.rowLen
            obtain ⟨x49_, hx50_, he41_⟩ := Option.bind_eq_some_iff.1 he41_
            obtain ⟨a51_, cs52_, ea53_, hi54_, q55_, cl56_⟩ := (k3_.mono (((le10_.trans le16_).trans le26_).trans le44_)).get hx50_
            refine t_deref _ ea53_ (t_chk hi54_ ?_)
            obtain ⟨t58_, rfl, k59_⟩ := q55_
            have n60_ := k59_.length
            refine s_load (x := t58_) (cellS_heap (Sub.trans (Sub.refl _) s45_.sub) (cl56_ 0 _ rfl)) rfl ?_
            refine s_cond he41_ (by rw [n60_] <;> rfl) (fun hb136_ he41_ => ?_) (fun hb136_ he41_ => ?_)
            · obtain ⟨x61_, hx62_, he41_⟩ := Option.bind_eq_some_iff.1 he41_
              obtain ⟨a63_, cs64_, ea65_, hi66_, q67_, cl68_⟩ := (k3_.mono (((le10_.trans le16_).trans le26_).trans le44_)).get hx62_
              refine t_deref _ ea65_ (t_chk hi66_ ?_)
              obtain ⟨t70_, rfl, k71_⟩ := q67_
              have n72_ := k71_.length
              refine s_load (x := t70_) (cellS_heap (Sub.trans (Sub.refl _) s45_.sub) (cl68_ 0 _ rfl)) rfl ?_
              obtain ⟨x73_, hx74_, he41_⟩ := Option.bind_eq_some_iff.1 he41_
              obtain ⟨a75_, cs76_, ea77_, hi78_, q79_, cl80_⟩ := k71_.get hx74_
              refine t_deref _ ea77_ (t_chk hi78_ ?_)
              obtain rfl := q79_
              refine s_load (x := x73_) (cellS_heap (Sub.trans (Sub.refl _) s45_.sub) (cl80_ 0 _ rfl)) rfl ?_
              obtain ⟨g82_, hx83_, he41_⟩ := Option.bind_eq_some_iff.1 he41_
              refine s_join (fun (y : (Option Addr × Nat × Nat) × Unit) w_ g => ∃ ψ : Snap, ∃ l84_ : List Int, Sub f43_ ψ ∧ l84_ = g ∧ St ψ (⟨Rep.row 3 (Ro.int .i64), [.slice y.1.1 y.1.2.1 y.1.2.2], l84_⟩ :: ⟨Rep.row 28 (Ro.list (Ro.int .i64)), [.slice z4.2.1.1 z4.2.1.2.1 z4.2.1.2.2], d29_⟩ :: F) w_) (g := g82_) ?_ ?_
              · refine s_cond hx83_ rfl (fun hb123_ hx83_ => ?_) (fun hb123_ hx83_ => ?_)
                · obtain ⟨x85_, hx86_, hx83_⟩ := Option.bind_eq_some_iff.1 hx83_
                  obtain ⟨a87_, cs88_, ea89_, hi90_, q91_, cl92_⟩ := (k3_.mono (((le10_.trans le16_).trans le26_).trans le44_)).get hx86_
                  refine t_deref _ ea89_ (t_chk hi90_ ?_)
                  obtain ⟨t94_, rfl, k95_⟩ := q91_
                  have n96_ := k95_.length
                  refine s_load (x := t94_) (cellS_heap (Sub.trans (Sub.refl _) s45_.sub) (cl92_ 0 _ rfl)) rfl ?_
                  obtain ⟨x97_, hx98_, hx83_⟩ := Option.bind_eq_some_iff.1 hx83_
                  obtain ⟨a99_, cs100_, ea101_, hi102_, q103_, cl104_⟩ := k95_.get hx98_
                  refine t_deref _ ea101_ (t_chk hi102_ ?_)
                  obtain rfl := q103_
                  refine s_load (x := x97_) (cellS_heap (Sub.trans (Sub.refl _) s45_.sub) (cl104_ 0 _ rfl)) rfl ?_
                  refine s_new (vs := [.int .i64 x97_]) s45_ ?_
                  intro r18 h107_ s106_
                  have cw108_ := St.cells s106_
                  have s110_ := s106_.tail
                  obtain ⟨y112_, hy113_, hx83_⟩ := Option.bind_eq_some_iff.1 hx83_
                  refine s_append (r := (Ro.int .i64)) (ms := ([x97_] : List Int)) appT_28_28 s110_ rfl cw108_ (.cons (a := [_]) rfl .nil) rfl hy113_ ?_
                  intro t19 h114_ s115_
                  have n116_ := s115_.rowLen
                  have s118_ := s115_.at1
                  have s119_ := s118_.at1
                  obtain rfl := Option.some.inj hx83_
                  exact s_out (t19, ()) rfl ⟨f43_, y112_, (Sub.refl _), rfl, s119_⟩
                · have s121_ := s45_.at1
                  have s122_ := s121_.at1
                  obtain rfl := Option.some.inj hx83_
                  exact s_out (z6.2.1, ()) rfl ⟨f43_, d47_, (Sub.refl _), rfl, s122_⟩
              · rintro z13 h124_ ⟨f125_, d128_, le126_, rfl, s127_⟩
                try dsimp only at he41_
                have n129_ := s127_.rowLen
                have s131_ := s127_.at1
                have s132_ := s131_.at1
                obtain rfl := Option.some.inj he41_
                exact s_next ((IntKind.wrap .i64 (z6.1 + (1 : Int))), z13.1, ()) _ rfl rfl ⟨f125_, d128_, (le44_.trans le126_), rfl, s132_⟩
            · have s134_ := s45_.at1
              have s135_ := s134_.at1
              obtain rfl := Option.some.inj he41_
              obtain rfl := hb42_ _ rfl
              exact around_brk (meetB_brk (z6.1, z6.2.1, ()) rfl ⟨f43_, d47_, le44_, rfl, s135_⟩)
        · rintro z5 h137_ ⟨f138_, d141_, le139_, rfl, s140_⟩
          try dsimp only at he23_
          have n142_ := s140_.rowLen
          refine s_new (vs := [.slice z5.2.1.1 z5.2.1.2.1 z5.2.1.2.2]) s140_ ?_
          intro r20 h145_ s144_
          have s148_ := s144_.at1
          obtain ⟨f149_, le150_, k151_, s152_⟩ := St.freezeRow (t := z5.2.1) s148_
          have cw146_ := St.cells s152_
          have s153_ := s152_.tail
          obtain ⟨y155_, hy156_, he23_⟩ := Option.bind_eq_some_iff.1 he23_
          refine s_append (r := (Ro.list (Ro.int .i64))) (ms := ([d141_] : List (List Int))) appT_22_22 s153_ rfl cw146_ (.cons (a := [_]) ⟨z5.2.1, rfl, k151_⟩ .nil) rfl hy156_ ?_
          intro t21 h157_ s158_
          have n159_ := s158_.rowLen
          obtain rfl := Option.some.inj he23_
          exact s_next ((IntKind.wrap .i64 (z4.1 + (1 : Int))), t21, ()) _ rfl rfl ⟨f149_, y155_, ((le26_.trans le139_).trans le150_), hw31_, rfl, s158_⟩
      · rintro _ z4 h164_ ⟨f161_, d165_, le162_, rfl, rfl, s163_⟩ hge167_
        have n166_ := s163_.rowLen
        refine t_false (by rw [n4_]; exact decide_eq_false (Int.not_lt.2 hge167_)) ?_
        exact around_brk (meetB_brk (z4.1, z4.2.1, ()) rfl ⟨f161_, d165_, le162_, rfl, s163_⟩)
    · rintro z3 h170_ ⟨f171_, d174_, le172_, rfl, s173_⟩
      try dsimp only at hd
      have n175_ := s173_.rowLen
      obtain ⟨r177_, hr178_, hd⟩ := Option.bind_eq_some_iff.1 hd
      refine s_call (solved_sim (gk.mono ((le10_.trans le16_).trans le172_)) (k1_.mono ((le10_.trans le16_).trans le172_)) (k3_.mono ((le10_.trans le16_).trans le172_)) s173_ hr178_) ?_
      rintro _ h179_ ⟨f180_, t22, d183_, le182_, rfl, rfl, k185_, s181_⟩
      refine ⟨t22, rfl, ?_⟩
      try dsimp only at hd
      have n184_ := k185_.length
      obtain ⟨f187_, le188_, k189_, s190_⟩ := St.freezeRow (t := z3.2.1) s181_
      obtain ⟨r191_, hr192_, hd⟩ := Option.bind_eq_some_iff.1 hd
      refine s_call (solved_sim (gk.mono ((((le10_.trans le16_).trans le172_).trans le182_).trans le188_)) (k1_.mono ((((le10_.trans le16_).trans le172_).trans le182_).trans le188_)) k189_ s190_ hr192_) ?_
      rintro _ h193_ ⟨f194_, t23, d197_, le196_, rfl, rfl, k199_, s195_⟩
      refine ⟨t23, rfl, ?_⟩
      try dsimp only at hd
      have n198_ := k199_.length
      obtain ⟨g200_, hx201_, hd⟩ := Option.bind_eq_some_iff.1 hd
      refine s_join (fun (y : Bool × Unit) w_ g => ∃ ψ : Snap, Sub f194_ ψ ∧ y.1 = g ∧ St ψ (F) w_) (g := g200_) ?_ ?_
      · refine s_cond hx201_ rfl (fun hb202_ hx201_ => ?_) (fun hb202_ hx201_ => ?_)
        · obtain rfl := Option.some.inj hx201_
          exact s_out (true, ()) rfl ⟨f194_, (Sub.refl _), rfl, s195_⟩
        · obtain rfl := Option.some.inj hx201_
          exact s_out ((!t23.2.1), ()) rfl ⟨f194_, (Sub.refl _), rfl, s195_⟩
      · rintro z24 h203_ ⟨f204_, le205_, rfl, s206_⟩
        try dsimp only at hd
        refine s_cond hd rfl (fun hb355_ hd => ?_) (fun hb355_ hd => ?_)
        · obtain rfl := Option.some.inj hd
          exact finOf_back ⟨f204_, false, ((((((le10_.trans le16_).trans le172_).trans le182_).trans le188_).trans le196_).trans le205_), rfl, rfl, s206_⟩
        · obtain ⟨g207_, hx208_, hd⟩ := Option.bind_eq_some_iff.1 hd
          refine s_block (fun (y : Int × Bool × Unit) w_ g => ∃ ψ : Snap, Sub f204_ ψ ∧ Step.next () = g ∧ St ψ (F) w_) (g := g207_) ?_ ?_
          · refine s_forN hx208_ (fun i209_ (y : Int × Bool × Unit) w_ g => ∃ ψ : Snap, Sub f204_ ψ ∧ y.1 = i209_ ∧ () = g ∧ St ψ (F) w_) ((0 : Int), false, ()) rfl ⟨f204_, (Sub.refl _), rfl, rfl, s206_⟩ ?_ ?_
            · rintro _ z26 h215_ _ _ ⟨f212_, le213_, rfl, rfl, s214_⟩ he210_ h1217_ h2218_ hw216_ hb211_
              try dsimp only at he210_ h1217_ h2218_ hw216_
              refine t_true (by rw [n184_]; exact decide_eq_true h2218_) ?_
              have s221_ := s214_.nil 3 (Ro.int .i64)
              obtain ⟨g219_, hx220_, he210_⟩ := Option.bind_eq_some_iff.1 he210_
              refine s_block (fun (y : Int × (Option Addr × Nat × Nat) × Unit) w_ g => ∃ ψ : Snap, ∃ l222_ : List Int, Sub f212_ ψ ∧ l222_ = g ∧ St ψ (⟨Rep.row 3 (Ro.int .i64), [.slice y.2.1.1 y.2.1.2.1 y.2.1.2.2], l222_⟩ :: F) w_) (g := g219_) ?_ ?_
              · refine s_loop hx220_ (fun (y : Int × (Option Addr × Nat × Nat) × Unit) w_ g => ∃ ψ : Snap, ∃ l223_ : List Int, Sub f212_ ψ ∧ (y.1, l223_) = g ∧ St ψ (⟨Rep.row 3 (Ro.int .i64), [.slice y.2.1.1 y.2.1.2.1 y.2.1.2.2], l223_⟩ :: F) w_) ((0 : Int), ((none, 0, 0) : Slc), ()) rfl ⟨f212_, ([] : List Int), (Sub.refl _), rfl, s221_⟩ ?_
                · rintro z28 h229_ _ _ ⟨f226_, d230_, le227_, rfl, s228_⟩ he224_ hb225_
                  try dsimp only at he224_
                  have n231_ := s228_.rowLen
                  obtain ⟨x232_, hx233_, he224_⟩ := Option.bind_eq_some_iff.1 he224_
                  obtain ⟨a234_, cs235_, ea236_, hi237_, q238_, cl239_⟩ := (k185_.mono ((((le188_.trans le196_).trans le205_).trans le213_).trans le227_)).get hx233_
                  refine t_deref _ ea236_ (t_chk hi237_ ?_)
                  obtain ⟨t241_, rfl, k242_⟩ := q238_
                  have n243_ := k242_.length
                  refine s_load (x := t241_) (cellS_heap (Sub.trans (Sub.refl _) s228_.sub) (cl239_ 0 _ rfl)) rfl ?_
                  refine s_cond he224_ (by rw [n243_] <;> rfl) (fun hb311_ he224_ => ?_) (fun hb311_ he224_ => ?_)
                  · obtain ⟨x244_, hx245_, he224_⟩ := Option.bind_eq_some_iff.1 he224_
                    obtain ⟨a246_, cs247_, ea248_, hi249_, q250_, cl251_⟩ := (k185_.mono ((((le188_.trans le196_).trans le205_).trans le213_).trans le227_)).get hx245_
                    refine t_deref _ ea248_ (t_chk hi249_ ?_)
                    obtain ⟨t253_, rfl, k254_⟩ := q250_
                    have n255_ := k254_.length
                    refine s_load (x := t253_) (cellS_heap (Sub.trans (Sub.refl _) s228_.sub) (cl251_ 0 _ rfl)) rfl ?_
                    obtain ⟨x256_, hx257_, he224_⟩ := Option.bind_eq_some_iff.1 he224_
                    obtain ⟨a258_, cs259_, ea260_, hi261_, q262_, cl263_⟩ := k254_.get hx257_
                    refine t_deref _ ea260_ (t_chk hi261_ ?_)
                    obtain rfl := q262_
                    refine s_load (x := x256_) (cellS_heap (Sub.trans (Sub.refl _) s228_.sub) (cl263_ 0 _ rfl)) rfl ?_
                    obtain ⟨g265_, hx266_, he224_⟩ := Option.bind_eq_some_iff.1 he224_
                    refine s_join (fun (y : (Option Addr × Nat × Nat) × Unit) w_ g => ∃ ψ : Snap, ∃ l267_ : List Int, Sub f226_ ψ ∧ l267_ = g ∧ St ψ (⟨Rep.row 3 (Ro.int .i64), [.slice y.1.1 y.1.2.1 y.1.2.2], l267_⟩ :: F) w_) (g := g265_) ?_ ?_
                    · refine s_cond hx266_ rfl (fun hb302_ hx266_ => ?_) (fun hb302_ hx266_ => ?_)
                      · obtain ⟨x268_, hx269_, hx266_⟩ := Option.bind_eq_some_iff.1 hx266_
                        obtain ⟨a270_, cs271_, ea272_, hi273_, q274_, cl275_⟩ := (k185_.mono ((((le188_.trans le196_).trans le205_).trans le213_).trans le227_)).get hx269_
                        refine t_deref _ ea272_ (t_chk hi273_ ?_)
                        obtain ⟨t277_, rfl, k278_⟩ := q274_
                        have n279_ := k278_.length
                        refine s_load (x := t277_) (cellS_heap (Sub.trans (Sub.refl _) s228_.sub) (cl275_ 0 _ rfl)) rfl ?_
                        obtain ⟨x280_, hx281_, hx266_⟩ := Option.bind_eq_some_iff.1 hx266_
                        obtain ⟨a282_, cs283_, ea284_, hi285_, q286_, cl287_⟩ := k278_.get hx281_
                        refine t_deref _ ea284_ (t_chk hi285_ ?_)
                        obtain rfl := q286_
                        refine s_load (x := x280_) (cellS_heap (Sub.trans (Sub.refl _) s228_.sub) (cl287_ 0 _ rfl)) rfl ?_
                        refine s_new (vs := [.int .i64 x280_]) s228_ ?_
                        intro r40 h290_ s289_
                        have cw291_ := St.cells s289_
                        have s293_ := s289_.tail
                        obtain ⟨y295_, hy296_, hx266_⟩ := Option.bind_eq_some_iff.1 hx266_
                        refine s_append (r := (Ro.int .i64)) (ms := ([x280_] : List Int)) appT_28_28 s293_ rfl cw291_ (.cons (a := [_]) rfl .nil) rfl hy296_ ?_
                        intro t41 h297_ s298_
                        have n299_ := s298_.rowLen
                        obtain rfl := Option.some.inj hx266_
                        exact s_out (t41, ()) rfl ⟨f226_, y295_, (Sub.refl _), rfl, s298_⟩
                      · obtain rfl := Option.some.inj hx266_
                        exact s_out (z28.2.1, ()) rfl ⟨f226_, d230_, (Sub.refl _), rfl, s228_⟩
                    · rintro z35 h303_ ⟨f304_, d307_, le305_, rfl, s306_⟩
                      try dsimp only at he224_
                      have n308_ := s306_.rowLen
                      obtain rfl := Option.some.inj he224_
                      exact s_next ((IntKind.wrap .i64 (z28.1 + (1 : Int))), z35.1, ()) _ rfl rfl ⟨f304_, d307_, (le227_.trans le305_), rfl, s306_⟩
                  · obtain rfl := Option.some.inj he224_
                    obtain rfl := hb225_ _ rfl
                    exact around_brk (meetB_brk (z28.1, z28.2.1, ()) rfl ⟨f226_, d230_, le227_, rfl, s228_⟩)
              · rintro z27 h312_ ⟨f313_, d316_, le314_, rfl, s315_⟩
                try dsimp only at he210_
                have n317_ := s315_.rowLen
                obtain ⟨x319_, hx320_, he210_⟩ := Option.bind_eq_some_iff.1 he210_
                obtain ⟨a321_, cs322_, ea323_, hi324_, q325_, cl326_⟩ := (k199_.mono ((le205_.trans le213_).trans le314_)).get hx320_
                refine t_deref _ ea323_ (t_chk hi324_ ?_)
                obtain ⟨t328_, rfl, k329_⟩ := q325_
                have n330_ := k329_.length
                refine s_load (x := t328_) (cellS_heap (Sub.trans (Sub.refl _) s315_.sub) (cl326_ 0 _ rfl)) rfl ?_
                obtain ⟨f332_, le333_, k334_, s335_⟩ := St.freezeRow (t := z27.2.1) s315_
                obtain ⟨r336_, hr337_, he210_⟩ := Option.bind_eq_some_iff.1 he210_
                refine s_call (tronageref01_Ints_sim (k329_.mono le333_) k334_ s335_ hr337_) ?_
                rintro _ h338_ ⟨f339_, t44, le341_, rfl, rfl, s340_⟩
                refine ⟨t44, rfl, ?_⟩
                refine s_cond he210_ rfl (fun hb342_ he210_ => ?_) (fun hb342_ he210_ => ?_)
                · obtain rfl := Option.some.inj he210_
                  obtain rfl := hb211_ _ rfl
                  try dsimp only at hd
                  obtain rfl := Option.some.inj hd
                  exact around_ret (meetB_ret (finOf_back ⟨f339_, false, ((((((((((le10_.trans le16_).trans le172_).trans le182_).trans le188_).trans le196_).trans le205_).trans le213_).trans le314_).trans le333_).trans le341_), rfl, rfl, s340_⟩))
                · obtain rfl := Option.some.inj he210_
                  exact s_next ((IntKind.wrap .i64 (z26.1 + (1 : Int))), z26.2.1, ()) _ rfl rfl ⟨f339_, (((le213_.trans le314_).trans le333_).trans le341_), hw216_, rfl, s340_⟩
            · rintro _ z26 h346_ _ ⟨f343_, le344_, rfl, rfl, s345_⟩ hge347_ hr348_
              subst hr348_
              refine t_false (by rw [n184_]; exact decide_eq_false (Int.not_lt.2 hge347_)) ?_
              exact around_brk (meetB_brk (z26.1, z26.2.1, ()) rfl ⟨f343_, le344_, rfl, s345_⟩)
          · rintro z25 h349_ ⟨f350_, le351_, rfl, s352_⟩
            try dsimp only at hd
            obtain rfl := Option.some.inj hd
            exact finOf_back ⟨f350_, t1, (((((((le10_.trans le16_).trans le172_).trans le182_).trans le188_).trans le196_).trans le205_).trans le351_), rfl, rfl, s352_⟩

noncomputable def tronagelaw12_DigraphShared_D (edges_0 : List (List Int)) (base_1 : List (List Int)) : Option Bool :=
  (tronagelaw12_awake_D).bind fun t1 =>
  (tronagelaw12_few_D edges_0 base_1).bind fun t2 =>
  (cond (!t2)
  (some true)
  (some ((((List.length base_1) : Nat) : Int) != (((List.length edges_0) : Nat) : Int)))).bind fun z3 =>
  cond z3
  (some t1)
  ((solvedD edges_0 base_1 (50 : Int)).bind fun t4 =>
    (partsD edges_0).bind fun t5 =>
    (loopsD edges_0).bind fun t6 =>
    cond (!t4.2)
    (some false)
    ((mkRow (((List.length edges_0) : Nat) : Int) (0 : Int)).bind fun t7 =>
      (forN (σ := List Int) (β := Bool) (0 : Int) (((List.length t5) : Nat) : Int) t7 fun i_z9 z9 =>
        (loop (σ := (Int × List Int)) (β := Step (List Int) Bool) ((0 : Int), z9) fun z11 =>
          (idx t5 i_z9).bind fun e92 =>
          cond (decide (z11.1 < (((List.length e92) : Nat) : Int)))
          ((idx t5 i_z9).bind fun e104 =>
            (idx e104 z11.1).bind fun e116 =>
            (cond (decide (e116 < (0 : Int)))
            (some true)
            (cond (decide (e116 ≥ (((List.length edges_0) : Nat) : Int)))
              (some true)
              ((idx t4.1 e116).bind fun e127 =>
                (idx t5 i_z9).bind fun e139 =>
                (idx e139 (0 : Int)).bind fun e151 =>
                (idx t4.1 e151).bind fun e160 =>
                (tronageref01_Ints_D e127 e160).bind fun t27 =>
                cond (!t27)
                (some true)
                ((idx t5 i_z9).bind fun e178 =>
                  cond (decide ((((List.length e178) : Nat) : Int) > (1 : Int)))
                  ((tronageref01_In_D t6 e116).bind fun t30 =>
                    some (!t30))
                  (some false))))).bind fun z18 =>
            cond z18
            (some (Step.done (Step.done false)))
            ((idx z11.2 e116).bind fun e205 =>
              (setI z11.2 e116 (IntKind.wrap .i64 (e205 + (1 : Int)))).bind fun m218 =>
              some (Step.next ((IntKind.wrap .i64 (z11.1 + (1 : Int))), m218))))
          (some (Step.done (Step.next z11.2)))).bind fun e_z10 => match e_z10 with
        | .next z10 =>
          some (Step.next z10)
        | .done q229 => some (Step.done q229)).bind fun e_z8 => match e_z8 with
      | .next z8 =>
        (forN (σ := Unit) (β := Bool) (0 : Int) (((List.length z8) : Nat) : Int) () fun i_z35 z35 =>
          (idx z8 i_z35).bind fun e265 =>
          cond (e265 != (1 : Int))
          (some (Step.done false))
          (some (Step.next ()))).bind fun e_z34 => match e_z34 with
        | .next z34 =>
          some t1
        | .done q280 => some q280
      | .done q281 => some q281))
theorem tronagelaw12_DigraphShared_sim {φ : Snap} {h : Heap} {F : List Chk} {edges_0 : Slc} {d_edges_0 : List (List Int)} {base_1 : Slc} {d_base_1 : List (List Int)} (gk : Glob φ) (k1_ : Ro.SliceIs (Ro.list (Ro.int .i64)) φ edges_0 d_edges_0) (k3_ : Ro.SliceIs (Ro.list (Ro.int .i64)) φ base_1 d_base_1) (s0 : St φ (F) h) {r : Bool} (hd : tronagelaw12_DigraphShared_D d_edges_0 d_base_1 = some r) :
    CallsH Tryd.prog 7 [(.slice edges_0.1 edges_0.2.1 edges_0.2.2), (.slice base_1.1 base_1.2.1 base_1.2.2)] h (Back fun v h' => ∃ ψ : Snap, ∃ y : Bool, Sub φ ψ ∧ v = ((.one (.atom .bool)) : Sh).val y ∧ y = r ∧ St ψ (F) h') := by
  refine calls_of mixed Tryd.func7 ?_
  rw [tronagelaw12_DigraphShared_den]
  unfold tronagelaw12_DigraphShared_T
  unfold tronagelaw12_DigraphShared_D at hd
  have n2_ : edges_0.2.1 = List.length d_edges_0 := k1_.length
  have n4_ : base_1.2.1 = List.length d_base_1 := k3_.length
  obtain ⟨r5_, hr6_, hd⟩ := Option.bind_eq_some_iff.1 hd
  refine s_call (tronagelaw12_awake_sim gk  s0 hr6_) ?_
  rintro _ h7_ ⟨f8_, t1, le10_, rfl, rfl, s9_⟩
  refine ⟨t1, rfl, ?_⟩
  obtain ⟨r11_, hr12_, hd⟩ := Option.bind_eq_some_iff.1 hd
  refine s_call (tronagelaw12_few_sim (k1_.mono le10_) (k3_.mono le10_) s9_ hr12_) ?_
  rintro _ h13_ ⟨f14_, t2, le16_, rfl, rfl, s15_⟩
  refine ⟨t2, rfl, ?_⟩
  obtain ⟨g17_, hx18_, hd⟩ := Option.bind_eq_some_iff.1 hd
  refine s_join (fun (y : Bool × Unit) w_ g => ∃ ψ : Snap, Sub f14_ ψ ∧ y.1 = g ∧ St ψ (F) w_) (g := g17_) ?_ ?_
  · refine s_cond hx18_ rfl (fun hb19_ hx18_ => ?_) (fun hb19_ hx18_ => ?_)
    · obtain rfl := Option.some.inj hx18_
      exact s_out (true, ()) rfl ⟨f14_, (Sub.refl _), rfl, s15_⟩
    · obtain rfl := Option.some.inj hx18_
      exact s_out ((((base_1.2.1 : Nat) : Int) != ((edges_0.2.1 : Nat) : Int)), ()) rfl ⟨f14_, (Sub.refl _), (by rw [n4_, n2_]), s15_⟩
  · rintro z3 h20_ ⟨f21_, le22_, rfl, s23_⟩
    try dsimp only at hd
    refine s_cond hd rfl (fun hb283_ hd => ?_) (fun hb283_ hd => ?_)
    · obtain rfl := Option.some.inj hd
      exact finOf_back ⟨f21_, t1, ((le10_.trans le16_).trans le22_), rfl, rfl, s23_⟩
    · obtain ⟨r24_, hr25_, hd⟩ := Option.bind_eq_some_iff.1 hd
      refine s_call (solved_sim (gk.mono ((le10_.trans le16_).trans le22_)) (k1_.mono ((le10_.trans le16_).trans le22_)) (k3_.mono ((le10_.trans le16_).trans le22_)) s23_ hr25_) ?_
      rintro _ h26_ ⟨f27_, t4, d30_, le29_, rfl, rfl, k32_, s28_⟩
      refine ⟨t4, rfl, ?_⟩
      try dsimp only at hd
      have n31_ := k32_.length
      obtain ⟨r33_, hr34_, hd⟩ := Option.bind_eq_some_iff.1 hd
      refine s_call (parts_simD (k1_.mono (((le10_.trans le16_).trans le22_).trans le29_)) s28_ hr34_) ?_
      rintro _ h35_ ⟨f36_, t5, d39_, le38_, rfl, rfl, k41_, s37_⟩
      refine ⟨t5, rfl, ?_⟩
      have n40_ := k41_.length
      obtain ⟨r42_, hr43_, hd⟩ := Option.bind_eq_some_iff.1 hd
      refine s_call (loops_sim (k1_.mono ((((le10_.trans le16_).trans le22_).trans le29_).trans le38_)) s37_ hr43_) ?_
      rintro _ h44_ ⟨f45_, t6, d48_, le47_, rfl, rfl, k50_, s46_⟩
      refine ⟨t6, rfl, ?_⟩
      have n49_ := k50_.length
      refine s_cond hd rfl (fun hb282_ hd => ?_) (fun hb282_ hd => ?_)
      · obtain rfl := Option.some.inj hd
        exact finOf_back ⟨f45_, false, (((((le10_.trans le16_).trans le22_).trans le29_).trans le38_).trans le47_), rfl, rfl, s46_⟩
      · obtain ⟨y51_, hy52_, hd⟩ := Option.bind_eq_some_iff.1 hd
        refine s_make (r := (Ro.int .i64)) (x := (0 : Int)) makeT_28 s46_ rfl (by rw [n2_]) hy52_ ?_
        intro t7 h53_ s54_
        have n55_ := s54_.rowLen
        obtain ⟨g56_, hx57_, hd⟩ := Option.bind_eq_some_iff.1 hd
        refine s_block (fun (y : Int × Bool × Unit) w_ g => ∃ ψ : Snap, ∃ l58_ : List Int, Sub f45_ ψ ∧ Step.next l58_ = g ∧ St ψ (⟨Rep.row 3 (Ro.int .i64), [.slice t7.1 t7.2.1 t7.2.2], l58_⟩ :: F) w_) (g := g56_) ?_ ?_
        · refine s_forN hx57_ (fun i60_ (y : Int × Bool × Unit) w_ g => ∃ ψ : Snap, ∃ l59_ : List Int, Sub f45_ ψ ∧ y.1 = i60_ ∧ l59_ = g ∧ St ψ (⟨Rep.row 3 (Ro.int .i64), [.slice t7.1 t7.2.1 t7.2.2], l59_⟩ :: F) w_) ((0 : Int), false, ()) rfl ⟨f45_, y51_, (Sub.refl _), rfl, rfl, s54_⟩ ?_ ?_
          · rintro _ z9 h66_ _ _ ⟨f63_, d67_, le64_, rfl, rfl, s65_⟩ he61_ h170_ h271_ hw69_ hb62_
            try dsimp only at he61_ h170_ h271_ hw69_
            have n68_ := s65_.rowLen
            refine t_true (by rw [n40_]; exact decide_eq_true h271_) ?_
            obtain ⟨g72_, hx73_, he61_⟩ := Option.bind_eq_some_iff.1 he61_
            refine s_block (fun (y : Int × Bool × Unit) w_ g => ∃ ψ : Snap, ∃ l74_ : List Int, Sub f63_ ψ ∧ Step.next l74_ = g ∧ St ψ (⟨Rep.row 3 (Ro.int .i64), [.slice t7.1 t7.2.1 t7.2.2], l74_⟩ :: F) w_) (g := g72_) ?_ ?_
            · refine s_loop hx73_ (fun (y : Int × Bool × Unit) w_ g => ∃ ψ : Snap, ∃ l75_ : List Int, Sub f63_ ψ ∧ (y.1, l75_) = g ∧ St ψ (⟨Rep.row 3 (Ro.int .i64), [.slice t7.1 t7.2.1 t7.2.2], l75_⟩ :: F) w_) ((0 : Int), z9.2.1, ()) rfl ⟨f63_, d67_, (Sub.refl _), rfl, s65_⟩ ?_
              · rintro z11 h81_ _ _ ⟨f78_, d82_, le79_, rfl, s80_⟩ he76_ hb77_
                try dsimp only at he76_
                have n83_ := s80_.rowLen
                obtain ⟨x84_, hx85_, he76_⟩ := Option.bind_eq_some_iff.1 he76_
                obtain ⟨a86_, cs87_, ea88_, hi89_, q90_, cl91_⟩ := (k41_.mono ((le47_.trans le64_).trans le79_)).get hx85_
                refine t_deref _ ea88_ (t_chk hi89_ ?_)
                obtain ⟨t93_, rfl, k94_⟩ := q90_
                have n95_ := k94_.length
                refine s_load (x := t93_) (cellS_heap (Sub.trans (Sub.refl _) s80_.sub) (cl91_ 0 _ rfl)) rfl ?_
                refine s_cond he76_ (by rw [n95_] <;> rfl) (fun hb221_ he76_ => ?_) (fun hb221_ he76_ => ?_)
                · obtain ⟨x96_, hx97_, he76_⟩ := Option.bind_eq_some_iff.1 he76_
                  obtain ⟨a98_, cs99_, ea100_, hi101_, q102_, cl103_⟩ := (k41_.mono ((le47_.trans le64_).trans le79_)).get hx97_
                  refine t_deref _ ea100_ (t_chk hi101_ ?_)
                  obtain ⟨t105_, rfl, k106_⟩ := q102_
                  have n107_ := k106_.length
                  refine s_load (x := t105_) (cellS_heap (Sub.trans (Sub.refl _) s80_.sub) (cl103_ 0 _ rfl)) rfl ?_
                  obtain ⟨x108_, hx109_, he76_⟩ := Option.bind_eq_some_iff.1 he76_
                  obtain ⟨a110_, cs111_, ea112_, hi113_, q114_, cl115_⟩ := k106_.get hx109_
                  refine t_deref _ ea112_ (t_chk hi113_ ?_)
                  obtain rfl := q114_
                  refine s_load (x := x108_) (cellS_heap (Sub.trans (Sub.refl _) s80_.sub) (cl115_ 0 _ rfl)) rfl ?_
                  obtain ⟨g117_, hx118_, he76_⟩ := Option.bind_eq_some_iff.1 he76_
                  refine s_join (fun (y : Bool × Unit) w_ g => ∃ ψ : Snap, Sub f78_ ψ ∧ y.1 = g ∧ St ψ (⟨Rep.row 3 (Ro.int .i64), [.slice t7.1 t7.2.1 t7.2.2], d82_⟩ :: F) w_) (g := g117_) ?_ ?_
                  · refine s_cond hx118_ rfl (fun hb191_ hx118_ => ?_) (fun hb191_ hx118_ => ?_)
                    · obtain rfl := Option.some.inj hx118_
                      exact s_out (true, ()) rfl ⟨f78_, (Sub.refl _), rfl, s80_⟩
                    · refine s_cond hx118_ (by rw [n2_] <;> rfl) (fun hb190_ hx118_ => ?_) (fun hb190_ hx118_ => ?_)
                      · obtain rfl := Option.some.inj hx118_
                        exact s_out (true, ()) rfl ⟨f78_, (Sub.refl _), rfl, s80_⟩
                      · obtain ⟨x119_, hx120_, hx118_⟩ := Option.bind_eq_some_iff.1 hx118_
                        obtain ⟨a121_, cs122_, ea123_, hi124_, q125_, cl126_⟩ := (k32_.mono (((le38_.trans le47_).trans le64_).trans le79_)).get hx120_
                        refine t_deref _ ea123_ (t_chk hi124_ ?_)
                        obtain ⟨t128_, rfl, k129_⟩ := q125_
                        have n130_ := k129_.length
                        refine s_load (x := t128_) (cellS_heap (Sub.trans (Sub.refl _) s80_.sub) (cl126_ 0 _ rfl)) rfl ?_
                        obtain ⟨x131_, hx132_, hx118_⟩ := Option.bind_eq_some_iff.1 hx118_
                        obtain ⟨a133_, cs134_, ea135_, hi136_, q137_, cl138_⟩ := (k41_.mono ((le47_.trans le64_).trans le79_)).get hx132_
                        refine t_deref _ ea135_ (t_chk hi136_ ?_)
                        obtain ⟨t140_, rfl, k141_⟩ := q137_
                        have n142_ := k141_.length
                        refine s_load (x := t140_) (cellS_heap (Sub.trans (Sub.refl _) s80_.sub) (cl138_ 0 _ rfl)) rfl ?_
                        obtain ⟨x143_, hx144_, hx118_⟩ := Option.bind_eq_some_iff.1 hx118_
                        obtain ⟨a145_, cs146_, ea147_, hi148_, q149_, cl150_⟩ := k141_.get hx144_
                        refine t_deref _ ea147_ (t_chk hi148_ ?_)
                        obtain rfl := q149_
                        refine s_load (x := x143_) (cellS_heap (Sub.trans (Sub.refl _) s80_.sub) (cl150_ 0 _ rfl)) rfl ?_
                        obtain ⟨x152_, hx153_, hx118_⟩ := Option.bind_eq_some_iff.1 hx118_
                        obtain ⟨a154_, cs155_, ea156_, hi157_, q158_, cl159_⟩ := (k32_.mono (((le38_.trans le47_).trans le64_).trans le79_)).get hx153_
                        refine t_deref _ ea156_ (t_chk hi157_ ?_)
                        obtain ⟨t161_, rfl, k162_⟩ := q158_
                        have n163_ := k162_.length
                        refine s_load (x := t161_) (cellS_heap (Sub.trans (Sub.refl _) s80_.sub) (cl159_ 0 _ rfl)) rfl ?_
                        obtain ⟨r164_, hr165_, hx118_⟩ := Option.bind_eq_some_iff.1 hx118_
                        refine s_call (tronageref01_Ints_sim k129_ k162_ s80_ hr165_) ?_
                        rintro _ h166_ ⟨f167_, t27, le169_, rfl, rfl, s168_⟩
                        refine ⟨t27, rfl, ?_⟩
                        refine s_cond hx118_ rfl (fun hb189_ hx118_ => ?_) (fun hb189_ hx118_ => ?_)
                        · obtain rfl := Option.some.inj hx118_
                          exact s_out (true, ()) rfl ⟨f167_, le169_, rfl, s168_⟩
                        · obtain ⟨x170_, hx171_, hx118_⟩ := Option.bind_eq_some_iff.1 hx118_
                          obtain ⟨a172_, cs173_, ea174_, hi175_, q176_, cl177_⟩ := (k41_.mono (((le47_.trans le64_).trans le79_).trans le169_)).get hx171_
                          refine t_deref _ ea174_ (t_chk hi175_ ?_)
                          obtain ⟨t179_, rfl, k180_⟩ := q176_
                          have n181_ := k180_.length
                          refine s_load (x := t179_) (cellS_heap (Sub.trans (Sub.refl _) s168_.sub) (cl177_ 0 _ rfl)) rfl ?_
                          refine s_cond hx118_ (by rw [n181_] <;> rfl) (fun hb188_ hx118_ => ?_) (fun hb188_ hx118_ => ?_)
                          · obtain ⟨r182_, hr183_, hx118_⟩ := Option.bind_eq_some_iff.1 hx118_
                            refine s_call (tronageref01_In_sim (k50_.mono ((le64_.trans le79_).trans le169_)) s168_ hr183_) ?_
                            rintro _ h184_ ⟨f185_, t30, le187_, rfl, rfl, s186_⟩
                            refine ⟨t30, rfl, ?_⟩
                            obtain rfl := Option.some.inj hx118_
                            exact s_out ((!t30), ()) rfl ⟨f185_, (le169_.trans le187_), rfl, s186_⟩
                          · obtain rfl := Option.some.inj hx118_
                            exact s_out (false, ()) rfl ⟨f167_, le169_, rfl, s168_⟩
                  · rintro z18 h192_ ⟨f193_, le194_, rfl, s195_⟩
                    try dsimp only at he76_
                    refine s_cond he76_ rfl (fun hb220_ he76_ => ?_) (fun hb220_ he76_ => ?_)
                    · obtain rfl := Option.some.inj he76_
                      obtain rfl := hb77_ _ rfl
                      try dsimp only at he61_
                      obtain rfl := Option.some.inj he61_
                      obtain rfl := hb62_ _ rfl
                      try dsimp only at hd
                      obtain rfl := Option.some.inj hd
                      have s196_ := s195_.tail
                      exact around_ret (meetB_ret (around_ret (meetB_ret (finOf_back ⟨f193_, false, ((((((((le10_.trans le16_).trans le22_).trans le29_).trans le38_).trans le47_).trans le64_).trans le79_).trans le194_), rfl, rfl, s196_⟩))))
                    · obtain ⟨x197_, hx198_, he76_⟩ := Option.bind_eq_some_iff.1 he76_
                      obtain ⟨a199_, cs200_, ea201_, hi202_, q203_, cl204_⟩ := (s195_).get hx198_
                      refine t_deref _ ea201_ (t_chk hi202_ ?_)
                      obtain rfl := q203_
                      refine s_load (x := x197_) (cl204_ 0 _ rfl) rfl ?_
                      obtain ⟨y208_, hy209_, he76_⟩ := Option.bind_eq_some_iff.1 he76_
                      obtain ⟨a213_, ea215_, q214_⟩ := s195_.there hy209_
                      refine t_deref _ ea215_ (t_chk q214_ (s_set s195_ hy209_ rfl ea215_ ?_))
                      intro h217_ s216_
                      have n219_ := s216_.rowLen
                      obtain rfl := Option.some.inj he76_
                      exact s_next ((IntKind.wrap .i64 (z11.1 + (1 : Int))), z11.2.1, ()) _ rfl rfl ⟨f193_, y208_, (le79_.trans le194_), rfl, s216_⟩
                · obtain rfl := Option.some.inj he76_
                  obtain rfl := hb77_ _ rfl
                  exact around_brk (meetB_brk (z11.1, z11.2.1, ()) rfl ⟨f78_, d82_, le79_, rfl, s80_⟩)
            · rintro z10 h222_ ⟨f223_, d226_, le224_, rfl, s225_⟩
              try dsimp only at he61_
              have n227_ := s225_.rowLen
              obtain rfl := Option.some.inj he61_
              exact s_next ((IntKind.wrap .i64 (z9.1 + (1 : Int))), z10.2.1, ()) _ rfl rfl ⟨f223_, d226_, (le64_.trans le224_), hw69_, rfl, s225_⟩
          · rintro _ z9 h233_ _ ⟨f230_, d234_, le231_, rfl, rfl, s232_⟩ hge236_ hr237_
            subst hr237_
            have n235_ := s232_.rowLen
            refine t_false (by rw [n40_]; exact decide_eq_false (Int.not_lt.2 hge236_)) ?_
            exact around_brk (meetB_brk (z9.1, z9.2.1, ()) rfl ⟨f230_, d234_, le231_, rfl, s232_⟩)
        · rintro z8 h238_ ⟨f239_, d242_, le240_, rfl, s241_⟩
          try dsimp only at hd
          have n243_ := s241_.rowLen
          obtain ⟨g245_, hx246_, hd⟩ := Option.bind_eq_some_iff.1 hd
          refine s_block (fun (y : Int × Bool × Unit) w_ g => ∃ ψ : Snap, Sub f239_ ψ ∧ Step.next () = g ∧ St ψ (⟨Rep.row 3 (Ro.int .i64), [.slice t7.1 t7.2.1 t7.2.2], d242_⟩ :: F) w_) (g := g245_) ?_ ?_
          · refine s_forN hx246_ (fun i247_ (y : Int × Bool × Unit) w_ g => ∃ ψ : Snap, Sub f239_ ψ ∧ y.1 = i247_ ∧ () = g ∧ St ψ (⟨Rep.row 3 (Ro.int .i64), [.slice t7.1 t7.2.1 t7.2.2], d242_⟩ :: F) w_) ((0 : Int), z8.2.1, ()) rfl ⟨f239_, (Sub.refl _), rfl, rfl, s241_⟩ ?_ ?_
            · rintro _ z35 h253_ _ _ ⟨f250_, le251_, rfl, rfl, s252_⟩ he248_ h1255_ h2256_ hw254_ hb249_
              try dsimp only at he248_ h1255_ h2256_ hw254_
              refine t_true (by rw [n243_]; exact decide_eq_true h2256_) ?_
              obtain ⟨x257_, hx258_, he248_⟩ := Option.bind_eq_some_iff.1 he248_
              obtain ⟨a259_, cs260_, ea261_, hi262_, q263_, cl264_⟩ := (s252_).get hx258_
              refine t_deref _ ea261_ (t_chk hi262_ ?_)
              obtain rfl := q263_
              refine s_load (x := x257_) (cl264_ 0 _ rfl) rfl ?_
              refine s_cond he248_ rfl (fun hb267_ he248_ => ?_) (fun hb267_ he248_ => ?_)
              · obtain rfl := Option.some.inj he248_
                obtain rfl := hb249_ _ rfl
                try dsimp only at hd
                obtain rfl := Option.some.inj hd
                have s266_ := s252_.tail
                exact around_ret (meetB_ret (finOf_back ⟨f250_, false, (((((((le10_.trans le16_).trans le22_).trans le29_).trans le38_).trans le47_).trans le240_).trans le251_), rfl, rfl, s266_⟩))
              · obtain rfl := Option.some.inj he248_
                exact s_next ((IntKind.wrap .i64 (z35.1 + (1 : Int))), z35.2.1, ()) _ rfl rfl ⟨f250_, le251_, hw254_, rfl, s252_⟩
            · rintro _ z35 h271_ _ ⟨f268_, le269_, rfl, rfl, s270_⟩ hge272_ hr273_
              subst hr273_
              refine t_false (by rw [n243_]; exact decide_eq_false (Int.not_lt.2 hge272_)) ?_
              exact around_brk (meetB_brk (z35.1, z35.2.1, ()) rfl ⟨f268_, le269_, rfl, s270_⟩)
          · rintro z34 h274_ ⟨f275_, le276_, rfl, s277_⟩
            try dsimp only at hd
            obtain rfl := Option.some.inj hd
            have s279_ := s277_.tail
            exact finOf_back ⟨f275_, t1, (((((((le10_.trans le16_).trans le22_).trans le29_).trans le38_).trans le47_).trans le240_).trans le276_), rfl, rfl, s279_⟩

end Go.Proofs.YtbpbfoemghcfaaaDoor

/-
  DIGRAPH, PLAIN: what the law's solved answers; comparisons of lists.
  Conditions: at most a thousand places, a width from 0 to a thousand.
-/
namespace Go.Proofs.YtbpbfoemghcfaaaDoor
open Go Go.Eng
set_option linter.unusedVariables false

/-- A list that is put together, one thing behind the other. -/
theorem forS_list {α : Type} {f : Int → List α → Option (List α)} {n : Nat} (hn : n ≤ 9223372036854775807) (P : Nat → α → Prop) (hs : ∀ (k : Nat) (acc : List α), k < n → acc.length = k → ∃ x, f (k : Int) acc = some (acc ++ [x]) ∧ P k x) :
    ∃ r, forS 0 (n : Int) ([] : List α) f = some r ∧ r.length = n ∧ ∀ (k : Nat) (x : α), r[k]? = some x → P k x := by
  obtain ⟨r, h1, h2, h3⟩ := forS_inv (f := f) (n := n) (fun k acc => acc.length = k ∧ ∀ (j : Nat) (x : α), acc[j]? = some x → P j x) hn (s := []) ⟨rfl, fun j x h => by simp at h⟩ (fun k acc hk ⟨g1, g2⟩ => by
    obtain ⟨x, e1, e2⟩ := hs k acc hk g1
    refine ⟨_, e1, by simp [g1], fun j y hj => ?_⟩
    rcases Nat.lt_trichotomy j acc.length with g | g | g
    · rw [List.getElem?_append_left g] at hj; exact g2 j y hj
    · subst g
      rw [List.getElem?_append_right (Nat.le_refl _), Nat.sub_self] at hj
      cases hj
      rw [g1]; exact e2
    · rw [List.getElem?_eq_none (by simp; omega)] at hj; cases hj)
  exact ⟨r, h1, h2, h3⟩
theorem app1 {α : Type} {l : List α} (h : l.length < 1073741824) (x : α) : app l [x] = some (l ++ [x]) := app_ok (by simp; omega)
/-! ## comparisons -/
theorem ints_refl {l : List Int} (h : l.length ≤ 9223372036854775807) : tronageref01_Ints_D l l = some true := by
  unfold tronageref01_Ints_D
  rw [show ((l.length : Int) != (l.length : Int)) = false by simp, cond_false]
  obtain ⟨s, e, _⟩ := forN_all (f := fun i_z2 (z2 : Unit) => (idx l i_z2).bind fun e25 => (idx l i_z2).bind fun e34 => cond (e25 != e34) (some (Step.done false)) (some (Step.next ()))) (β := Bool) (fun _ _ => True) h (s := ()) trivial (fun k s hk _ => ⟨(), by
    rw [idx_lt hk]
    simp, trivial⟩)
  rw [e]
  rfl
theorem lists_refl {l : List (List Int)} (h : l.length ≤ 9223372036854775807) (hh : ∀ x ∈ l, x.length ≤ 9223372036854775807) : tronageref01_Lists_D l l = some true := by
  unfold tronageref01_Lists_D
  rw [show ((l.length : Int) != (l.length : Int)) = false by simp, cond_false]
  obtain ⟨s, e, _⟩ := forN_all (f := fun i_z2 (z2 : Unit) => (idx l i_z2).bind fun e25 => (idx l i_z2).bind fun e37 => (tronageref01_Ints_D e25 e37).bind fun t7 => cond (!t7) (some (Step.done false)) (some (Step.next ()))) (β := Bool) (fun _ _ => True) h (s := ()) trivial (fun k s hk _ => ⟨(), by
    rw [idx_lt hk]
    simp only [Option.bind_some]
    rw [ints_refl (hh _ (List.getElem_mem hk))]
    rfl, trivial⟩)
  rw [e]
  rfl
theorem in_ok {l : List Int} (h : l.length ≤ 9223372036854775807) (x : Int) : tronageref01_In_D l x = some (decide (x ∈ l)) := by
  unfold tronageref01_In_D
  rcases forN_inv (f := fun i_z2 (z2 : Unit) => (idx l i_z2).bind fun e23 => cond (e23 == x) (some (Step.done true)) (some (Step.next ()))) (fun k _ => x ∉ l.take k) (fun b => b = true ∧ x ∈ l) h (s := ()) (by simp) (fun k s hk hI => by
    rw [idx_lt hk, Option.bind_some]
    by_cases e : l[k] = x
    · rw [show (l[k] == x) = true by simp [e]]
      exact .inr ⟨true, rfl, rfl, by rw [← e]; exact List.getElem_mem hk⟩
    · rw [show (l[k] == x) = false by simp [e]]
      refine .inl ⟨(), rfl, ?_⟩
      rw [List.take_succ_eq_append_getElem hk]
      intro hm
      rcases List.mem_append.1 hm with g | g
      · exact hI g
      · exact e (List.mem_singleton.1 g).symm) with ⟨s, e, hI⟩ | ⟨b, e, rfl, hx⟩
  · rw [List.take_length] at hI
    rw [e, decide_eq_false hI]; rfl
  · rw [e, decide_eq_true hx]; rfl
theorem contains_ok {l : List Int} (h : l.length ≤ 9223372036854775807) (x : Int) : slices_Contains_int_int_D l x = some (decide (x ∈ l)) := by
  unfold slices_Contains_int_int_D slices_Index_int_int_D
  rcases forN_inv (f := fun i_z2 (z2 : Unit) => (idx l i_z2).bind fun e23 => cond (x == e23) (some (Step.done i_z2)) (some (Step.next ()))) (fun k _ => x ∉ l.take k) (fun (b : Int) => 0 ≤ b ∧ x ∈ l) h (s := ()) (by simp) (fun k s hk hI => by
    rw [idx_lt hk, Option.bind_some]
    by_cases e : x = l[k]
    · rw [show (x == l[k]) = true by simp [e]]
      exact .inr ⟨(k : Int), rfl, by omega, by rw [e]; exact List.getElem_mem hk⟩
    · rw [show (x == l[k]) = false by simp [e]]
      refine .inl ⟨(), rfl, ?_⟩
      rw [List.take_succ_eq_append_getElem hk]
      intro hm
      rcases List.mem_append.1 hm with g | g
      · exact hI g
      · exact e (List.mem_singleton.1 g)) with ⟨s, e, hI⟩ | ⟨b, e, hb, hx⟩
  · rw [List.take_length] at hI
    rw [e, decide_eq_false hI]; rfl
  · rw [e, decide_eq_true hx]
    show some (decide (b ≥ 0)) = _
    rw [decide_eq_true (show b ≥ 0 from hb)]
theorem subset_ok {l m : List Int} (h : l.length ≤ 9223372036854775807) (h' : m.length ≤ 9223372036854775807) (hs : ∀ x ∈ l, x ∈ m) : tronagelaw12_subset_D l m = some true := by
  unfold tronagelaw12_subset_D
  obtain ⟨s, e, _⟩ := forN_all (f := fun i_z2 (z2 : Unit) => (idx l i_z2).bind fun e25 => (tronageref01_In_D m e25).bind fun t5 => cond (!t5) (some (Step.done false)) (some (Step.next ()))) (β := Bool) (fun _ _ => True) h (s := ()) trivial (fun k s hk _ => ⟨(), by
    rw [idx_lt hk, Option.bind_some, in_ok h', decide_eq_true (hs _ (List.getElem_mem hk))]
    rfl, trivial⟩)
  rw [e]
  rfl
/-- Few: as many as the law looks at. -/
structure Few (ll base : List (List Int)) : Prop where
  e : ll.length ≤ 25
  b : base.length ≤ 25
  el : ∀ l ∈ ll, l.length ≤ 10
  bl : ∀ l ∈ base, l.length ≤ 10
theorem few_ok (ll base : List (List Int)) : ∃ b, tronagelaw12_few_D ll base = some b ∧ (b = true → Few ll base) := by
  unfold tronagelaw12_few_D
  by_cases h1 : (ll.length : Int) > 25
  · rw [decide_eq_true h1]; exact ⟨false, rfl, fun h => by cases h⟩
  · rw [decide_eq_false h1]
    by_cases h2 : (base.length : Int) > 25
    · rw [decide_eq_true h2]; exact ⟨false, rfl, fun h => by cases h⟩
    · rw [decide_eq_false h2]
      simp only [cond_false, Option.bind_some]
      have key : ∀ l : List (List Int), (l.length : Int) ≤ 25 → (∃ s, (forN (σ := Unit) (β := Bool) (0 : Int) ((l.length : Nat) : Int) () fun i_z3 z3 => (idx l i_z3).bind fun e32 => cond (decide (((e32.length : Nat) : Int) > (10 : Int))) (some (Step.done false)) (some (Step.next ()))) = some (.next s) ∧ ∀ x ∈ l, x.length ≤ 10) ∨
          ∃ b, (forN (σ := Unit) (β := Bool) (0 : Int) ((l.length : Nat) : Int) () fun i_z3 z3 => (idx l i_z3).bind fun e32 => cond (decide (((e32.length : Nat) : Int) > (10 : Int))) (some (Step.done false)) (some (Step.next ()))) = some (.done b) ∧ b = false := fun l hl => by
        rcases forN_inv (f := fun i_z3 (z3 : Unit) => (idx l i_z3).bind fun e32 => cond (decide (((e32.length : Nat) : Int) > (10 : Int))) (some (Step.done false)) (some (Step.next ()))) (fun k _ => ∀ x ∈ l.take k, x.length ≤ 10) (fun (b : Bool) => b = false) (n := l.length) (by omega) (s := ()) (by simp) (fun k s hk hI => by
          rw [idx_lt hk, Option.bind_some]
          by_cases e : ((l[k].length : Nat) : Int) > 10
          · rw [decide_eq_true e]; exact .inr ⟨false, rfl, rfl⟩
          · rw [decide_eq_false e]
            refine .inl ⟨(), rfl, fun x hx => ?_⟩
            rw [List.take_succ_eq_append_getElem hk] at hx
            rcases List.mem_append.1 hx with g | g
            · exact hI x g
            · rw [List.mem_singleton.1 g]; omega) with ⟨s, e, hI⟩ | ⟨b, e, hb⟩
        · rw [List.take_length] at hI
          exact .inl ⟨s, e, hI⟩
        · exact .inr ⟨b, e, hb⟩
      rcases key ll (by omega) with ⟨s, e, hI⟩ | ⟨b, e, rfl⟩
      · rw [e]
        simp only [Option.bind_some]
        rcases key base (by omega) with ⟨s', e', hI'⟩ | ⟨b, e', rfl⟩
        · rw [e']; exact ⟨true, rfl, fun _ => ⟨by omega, by omega, hI, hI'⟩⟩
        · rw [e']; exact ⟨false, rfl, fun h => by cases h⟩
      · rw [e]; exact ⟨false, rfl, fun h => by cases h⟩
/-! ## solved -/
theorem bitsS_len (s : SetD) : (bitsS s).length ≤ 64 * s.2.length := bitsU_len _ _
theorem bitsS_short {s : SetD} (H : OkS s) : (bitsS s).length ≤ 1073741824 := by
  have h1 := bitsS_len s
  have h2 := H.len
  have h3 := H.hi
  omega
theorem clip_id {n : Int} (h0 : 0 ≤ n) (h1 : n ≤ 1000) : clip n = n := by unfold clip; rw [if_neg (by omega), if_neg (by omega)]
def bz (base : List (List Int)) (z : Int) : List Int := (idx base z).getD []
theorem idx_bz {base : List (List Int)} {z : Int} (h0 : 0 ≤ z) (h1 : z < (base.length : Int)) : idx base z = some (bz base z) := by
  have : idx base z = some base[z.toNat] := idx_get h0 (by omega)
  unfold bz
  rw [this]; rfl
theorem bz_out {base : List (List Int)} {z : Int} (h : z < 0 ∨ (base.length : Int) ≤ z) : bz base z = [] := by
  unfold bz idx
  split
  · rw [List.getElem?_eq_none (by omega)]; rfl
  · rfl
theorem gv_out {a : List SetD} {v : Int} (h : v < 0 ∨ (a.length : Int) ≤ v) : gv a v = (0, []) := by
  unfold gv idx
  split
  · rw [List.getElem?_eq_none (by omega)]; rfl
  · rfl
theorem gv_at {a : List SetD} {k : Nat} {s : SetD} (h : a[k]? = some s) : gv a (k : Int) = s := by
  unfold gv
  rw [idx_nat, h]; rfl
theorem mem_none (j : Int) : mem ((0, []) : SetD) j = false := by
  unfold mem bitS
  simp
theorem sets_ok {base : List (List Int)} {wide : Int} (h0 : 0 ≤ wide) (h1 : wide ≤ 1000) (hb : base.length ≤ 1000) (hbl : ∀ l ∈ base, l.length ≤ 1073741824) :
    ∃ B, setsD base wide = some B ∧ B.length = base.length ∧ ∀ (k : Nat) (s : SetD), B[k]? = some s → OkS s ∧ s.1 = wide ∧ ∀ j, mem s j = (decide (0 ≤ j ∧ j < wide) && (bz base k).contains j) := by
  unfold setsD
  refine forS_list (by omega) (fun k s => OkS s ∧ s.1 = wide ∧ ∀ j, mem s j = (decide (0 ≤ j ∧ j < wide) && (bz base k).contains j)) fun k acc hk ha => ?_
  rw [idx_bz (by omega) (by omega), Option.bind_some]
  have hl : (bz base (k : Int)).length ≤ 1073741824 := by
    unfold bz
    rw [idx_lt hk]
    exact hbl _ (List.getElem_mem hk)
  obtain ⟨s, e, g1, g2, g3⟩ := of_ok wide (bz base (k : Int)) (by omega)
  rw [clip_id h0 h1] at g2 g3
  rw [e, Option.bind_some, app1 (by omega)]
  exact ⟨s, rfl, g1, g2, g3⟩
theorem solve_ok {ll : List (List Int)} {B : List SetD} {wide : Int} (h0 : 0 ≤ wide) (h1 : wide ≤ 1000) (hb : B.length ≤ 1000) (hll : ∀ l ∈ ll, l.length ≤ 1073741824) (hB : ∀ (k : Nat) (s : SetD), B[k]? = some s → OkS s ∧ s.1 = wide) :
    ∃ r, solveD ll B = some r ∧ r.length = B.length ∧ ∀ (k : Nat) (s : SetD), r[k]? = some s → OkS s ∧ s.1 = wide ∧ ∀ j, mem s j = true ↔ Full ll (B.length : Int) B k j := by
  unfold solveD
  have hget : ∀ k (hk : k < B.length), OkS B[k] ∧ B[k].1 = wide := fun k hk => hB k _ (List.getElem?_eq_getElem hk)
  have hgv : ∀ v : Int, 0 ≤ v → v < (B.length : Int) → OkS (gv B v) ∧ (gv B v).1 = wide := fun v g0 g1 => by
    have := hget v.toNat (by omega)
    rw [← gv_at (List.getElem?_eq_getElem (show v.toNat < B.length by omega)), Int.toNat_of_nonneg g0] at this
    exact this
  obtain ⟨w, ew, hw⟩ := forS_inv (f := fun i (w : Int) => (idx B i).bind fun s => some (if s.1 > w then s.1 else w)) (n := B.length) (fun k (w : Int) => 0 ≤ w ∧ w ≤ wide ∧ (0 < k → w = wide)) (by omega) (s := 0) ⟨by omega, by omega, by omega⟩ (fun k w hk ⟨g0, g1, g2⟩ => by
    rw [idx_lt hk, Option.bind_some, (hget k hk).2]
    refine ⟨_, rfl, ?_⟩
    split
    · exact ⟨by omega, by omega, fun _ => rfl⟩
    · exact ⟨by omega, by omega, by omega⟩)
  rw [ew, Option.bind_some]
  obtain ⟨all, ea, la, pa⟩ := forS_list (f := fun i (acc : List SetD) => (idx B i).bind fun s => (listD s).bind fun l => (bitset_Of_D w l).bind fun s' => app acc [s']) (n := B.length) (by omega) (fun k s => OkS s ∧ s.1 = wide ∧ ∀ j, mem s j = mem (gv B k) j) (fun k acc hk ha => by
    have hk' := hget k hk
    have hwe : w = wide := hw.2.2 (by omega)
    rw [idx_lt hk, Option.bind_some, listD_ok hk'.1, Option.bind_some]
    obtain ⟨s, e, g1, g2, g3⟩ := of_ok w (bitsS B[k]) (by have := bitsS_short hk'.1; omega)
    rw [hwe, clip_id h0 h1] at g2 g3
    refine ⟨s, by rw [e, Option.bind_some, app1 (by omega)], g1, g2, fun j => ?_⟩
    rw [g3, gv_at (List.getElem?_eq_getElem hk)]
    by_cases hm : mem B[k] j = true
    · have h2 := mem_lt hk'.1 hm
      rw [hk'.2] at h2
      rw [decide_eq_true h2, hm, Bool.true_and]
      exact List.contains_iff_mem.2 ((mem_bitsS hk'.1 j).2 hm)
    · have hn : (bitsS B[k]).contains j = false := by
        rw [Bool.eq_false_iff]
        intro hc
        exact hm ((mem_bitsS hk'.1 j).1 (List.contains_iff_mem.1 hc))
      rw [hn, Bool.and_false]
      rw [Bool.not_eq_true] at hm
      exact hm.symm)
  rw [ea, Option.bind_some]
  have hall : ∀ v : Int, 0 ≤ v → v < (B.length : Int) → OkS (gv all v) ∧ (gv all v).1 = wide ∧ ∀ j, mem (gv all v) j = mem (gv B v) j := fun v g0 g1 => by
    have hlt : v.toNat < all.length := by omega
    have := pa v.toNat _ (List.getElem?_eq_getElem hlt)
    rw [← gv_at (List.getElem?_eq_getElem hlt), Int.toNat_of_nonneg g0] at this
    exact this
  have hS : SetsI ll (B.length : Int) wide B all := ⟨by omega, fun v g0 g1 => ⟨(hall v g0 g1).1, (hall v g0 g1).2.1⟩, fun v j g0 g1 h => by rw [(hall v g0 g1).2.2]; exact h, fun v j g0 g1 h => ⟨v, .refl _, by rw [← (hall v g0 g1).2.2]; exact h⟩⟩
  obtain ⟨⟨low, stk, fin⟩, est, hI, hD⟩ := walk_spec (solveTold (ll := ll) (n := (B.length : Int)) (wide := wide) (B := B) (by omega)) (by omega) (by omega) hll (a := all) ⟨hS, fun v hv => hv.elim⟩ (fuel := B.length) (by omega)
  dsimp only at hI hD
  have hfin : ∀ v : Int, 0 ≤ v → v < (B.length : Int) → ∀ j, mem (gv fin v) j = true ↔ Full ll (B.length : Int) B v j := fun v g0 g1 j => ⟨hI.sound v j g0 g1, hD v ⟨g0, g1⟩ g0 g1 j⟩
  rw [est, Option.bind_some]
  have lf := hI.len
  refine forS_list (by omega) (fun k s => OkS s ∧ s.1 = wide ∧ ∀ j, mem s j = true ↔ Full ll (B.length : Int) B k j) fun k acc hk ha => ?_
  have hk' := hget k hk
  obtain ⟨f1, f2⟩ := hI.ok (k : Int) (by omega) (by omega)
  dsimp only
  rw [idx_lt hk, Option.bind_some, idx_gv (by omega) (by omega), Option.bind_some, listD_ok f1, Option.bind_some, hk'.2]
  obtain ⟨s, e, g1, g2, g3⟩ := of_ok wide (bitsS (gv fin (k : Int))) (by have := bitsS_short f1; omega)
  rw [clip_id h0 h1] at g2 g3
  refine ⟨s, by rw [e, Option.bind_some, app1 (by omega)], g1, g2, fun j => ?_⟩
  rw [g3, ← hfin (k : Int) (by omega) (by omega)]
  constructor
  · intro h
    rw [Bool.and_eq_true] at h
    exact (mem_bitsS f1 j).1 (List.contains_iff_mem.1 h.2)
  · intro h
    have h2 := mem_lt f1 h
    rw [f2] at h2
    rw [decide_eq_true h2, Bool.true_and]
    exact List.contains_iff_mem.2 ((mem_bitsS f1 j).2 h)
/-- What a place is to get, as the law hands it in. -/
def Gets (ll base : List (List Int)) (wide i j : Int) : Prop := 0 ≤ j ∧ j < wide ∧ ∃ z, Reach ll (base.length : Int) i z ∧ j ∈ bz base z
theorem solved_ok {ll base : List (List Int)} {wide : Int} (h0 : 0 ≤ wide) (h1 : wide ≤ 1000) (hb : base.length ≤ 1000) (hll : ∀ l ∈ ll, l.length ≤ 1073741824) (hbl : ∀ l ∈ base, l.length ≤ 1073741824) :
    ∃ o, solvedD ll base wide = some (o, true) ∧ o.length = base.length ∧ ∀ (k : Nat) (l : List Int), o[k]? = some l → l.Pairwise (· < ·) ∧ l.length ≤ 1073741824 ∧ ∀ j, j ∈ l ↔ Gets ll base wide k j := by
  obtain ⟨B, eB, lB, pB⟩ := sets_ok h0 h1 hb hbl
  obtain ⟨r, er, lr, pr⟩ := solve_ok (ll := ll) (B := B) h0 h1 (by omega) hll fun k s hs => ⟨(pB k s hs).1, (pB k s hs).2.1⟩
  unfold solvedD
  rw [eB, Option.bind_some, er, Option.bind_some, show ((r.length : Int) != (base.length : Int)) = false by simp; omega, cond_false]
  obtain ⟨o, eo, lo, po⟩ := forS_list (f := fun i (acc : List (List Int)) => (idx r i).bind fun s => (listD s).bind fun l => app acc [l]) (n := r.length) (by omega) (fun k l => l.Pairwise (· < ·) ∧ l.length ≤ 1073741824 ∧ ∀ j, j ∈ l ↔ Gets ll base wide k j) (fun k acc hk ha => by
    obtain ⟨p1, p2, p3⟩ := pr k _ (List.getElem?_eq_getElem hk)
    refine ⟨bitsS r[k], by rw [idx_lt hk, Option.bind_some, listD_ok p1, Option.bind_some, app1 (by omega)], bitsS_up _, bitsS_short p1, fun j => ?_⟩
    rw [mem_bitsS p1, p3, lB]
    constructor
    · rintro ⟨z, hz1, hz2⟩
      by_cases hz : 0 ≤ z ∧ z < (base.length : Int)
      · have hlt : z.toNat < B.length := by omega
        have h3 := (pB z.toNat _ (List.getElem?_eq_getElem hlt)).2.2 j
        rw [← gv_at (List.getElem?_eq_getElem hlt), Int.toNat_of_nonneg hz.1] at h3
        rw [h3, Bool.and_eq_true] at hz2
        have h4 := of_decide_eq_true hz2.1
        exact ⟨h4.1, h4.2, z, hz1, List.contains_iff_mem.1 hz2.2⟩
      · rw [gv_out (by omega), mem_none] at hz2; cases hz2
    · rintro ⟨g0, g1, z, hz1, hz2⟩
      refine ⟨z, hz1, ?_⟩
      by_cases hz : 0 ≤ z ∧ z < (base.length : Int)
      · have hlt : z.toNat < B.length := by omega
        have h3 := (pB z.toNat _ (List.getElem?_eq_getElem hlt)).2.2 j
        rw [← gv_at (List.getElem?_eq_getElem hlt), Int.toNat_of_nonneg hz.1] at h3
        rw [h3, decide_eq_true ⟨g0, g1⟩, Bool.true_and]
        exact List.contains_iff_mem.2 hz2
      · rw [bz_out (by omega)] at hz2; cases hz2)
  rw [eo]
  exact ⟨o, rfl, by omega, po⟩
end Go.Proofs.YtbpbfoemghcfaaaDoor

/-
  DIGRAPH, PLAIN: the document's Reach and Solve.
  Conditions: at most a thousand places.
-/
namespace Go.Proofs.YtbpbfoemghcfaaaDoor
open Go Go.Eng
set_option linter.unusedVariables false

def bv (r : List Bool) (v : Int) : Bool := (idx r v).getD false
theorem idx_bv {r : List Bool} {v : Int} (h0 : 0 ≤ v) (h1 : v < (r.length : Int)) : idx r v = some (bv r v) := by
  have : idx r v = some r[v.toNat] := idx_get h0 (by omega)
  unfold bv
  rw [this]; rfl
theorem bv_set {r : List Bool} {x : Int} {e : Bool} (h0 : 0 ≤ x) (h1 : x < (r.length : Int)) (v : Int) : bv (r.set x.toNat e) v = if v = x then e else bv r v := by
  by_cases hv : v = x
  · subst hv
    rw [if_pos rfl]
    unfold bv idx
    rw [if_pos h0, List.getElem?_set, if_pos rfl, if_pos (by omega)]
    rfl
  · rw [if_neg hv]
    unfold bv idx
    split
    · rw [List.getElem?_set, if_neg (by omega)]
    · rfl
theorem bv_replicate (n : Nat) (v : Int) : bv (List.replicate n false) v = false := by
  unfold bv idx
  split
  · rw [List.getElem?_replicate]
    split <;> rfl
  · rfl
theorem bv_out {r : List Bool} {v : Int} (h : v < 0 ∨ (r.length : Int) ≤ v) : bv r v = false := by
  unfold bv idx
  split
  · rw [List.getElem?_eq_none (by omega)]; rfl
  · rfl
theorem from_iff {ll : List (List Int)} {n x y : Int} (h0 : 0 ≤ x) : y ∈ fromD ll x n ↔ y ∈ bz ll x ∧ 0 ≤ y ∧ y < n := by
  unfold fromD
  by_cases h : x ≥ (ll.length : Int)
  · rw [if_pos h, bz_out (.inr h)]; simp
  · rw [if_neg h, List.mem_filter]
    have : bz ll x = ll[x.toNat]?.getD [] := by unfold bz idx; rw [if_pos h0]
    rw [this]
    unfold outOf
    simp
theorem count_flip : ∀ {r : List Bool} {i : Nat}, r[i]? = some false → (r.set i true).count false + 1 = r.count false := by
  intro r
  induction r with
  | nil => intro i h; simp at h
  | cons y r ih =>
    intro i h
    cases i with
    | zero =>
      simp only [List.getElem?_cons_zero, Option.some.injEq] at h
      subst h
      rw [List.set_cons_zero, List.count_cons, List.count_cons]
      simp
    | succ i =>
      have := ih (i := i) (by simpa using h)
      rw [List.set_cons_succ, List.count_cons, List.count_cons]
      omega
section
variable (ll : List (List Int)) (n at_ : Int)
structure ReachI (out : List Bool) : Prop where
  len : (out.length : Int) = n
  self : bv out at_ = true
  sound : ∀ v, bv out v = true → Reach ll n at_ v
/-- What a round knows of the places that it went through. -/
structure RoundI (out0 : List Bool) (P : Int → Int → Prop) (more : Bool) (out : List Bool) : Prop where
  inv : ReachI ll n at_ out
  none : more = false → out = out0 ∧ ∀ v w, P v w → bv out v = true → bv out w = true
  some : more = true → out.count false < out0.count false
variable {ll n at_}
theorem w64i {n : Nat} (h : n < 1000000000000) : IntKind.wrap .i64 ((n : Int) + 1) = ((n + 1 : Nat) : Int) := by
  rw [w64 (by omega) (by omega)]; omega
theorem reach_ok (hn0 : 0 ≤ at_) (hn1 : at_ < n) (hn : n ≤ 1000) (hll : ∀ l ∈ ll, l.length ≤ 1073741824) (hle : ll.length ≤ 1073741824) : ∃ r, tronageref12_Reach_D ll n at_ = some r ∧ (r.length : Int) = n ∧ ∀ v, bv r v = true ↔ Reach ll n at_ v := by
  unfold tronageref12_Reach_D
  have hmk : mkRow n false = some (List.replicate n.toNat false) := by unfold mkRow; rw [if_pos ⟨by omega, by omega⟩]
  rw [hmk, Option.bind_some, setI_ok hn0 (by simp; omega), Option.bind_some]
  have h0 : ReachI ll n at_ ((List.replicate n.toNat false).set at_.toNat true) := by
    have hs := fun v => bv_set (r := List.replicate n.toNat false) (x := at_) (e := true) hn0 (by simp; omega) v
    refine ⟨by simp; omega, by rw [hs, if_pos rfl], fun v hv => ?_⟩
    rw [hs] at hv
    split at hv
    · rename_i e; rw [e]; exact .refl _
    · rw [bv_replicate] at hv; cases hv
  have hlp := loop_inv (f := fun (z4 : Bool × List Bool) => cond z4.1
    ((loop (σ := (Int × Bool × List Bool)) (β := (Bool × List Bool)) ((0 : Int), false, z4.2) fun z6 =>
        (cond (decide (z6.1 < n))
        (some (decide (z6.1 < (((List.length ll) : Nat) : Int))))
        (some false)).bind fun z7 =>
        cond z7
        ((loop (σ := (Int × Bool × List Bool)) (β := (Bool × List Bool)) ((0 : Int), z6.2.1, z6.2.2) fun z9 =>
            (idx ll z6.1).bind fun e74 =>
            cond (decide (z9.1 < (((List.length e74) : Nat) : Int)))
            ((idx ll z6.1).bind fun e86 =>
              (idx e86 z9.1).bind fun e98 =>
              ((idx z9.2.2 z6.1).bind fun e109 =>
              cond e109
              (cond (decide (e98 ≥ (0 : Int)))
                (cond (decide (e98 < n))
                  ((idx z9.2.2 e98).bind fun e118 =>
                    some (!e118))
                  (some false))
                (some false))
              (some false)).bind fun z16 =>
              (cond z16
              ((setI z9.2.2 e98 true).bind fun m141 =>
                some (true, m141))
              (some (z9.2.1, z9.2.2))).bind fun z21 =>
              some (Step.next ((IntKind.wrap .i64 (z9.1 + (1 : Int))), z21.1, z21.2)))
            (some (Step.done (z9.2.1, z9.2.2)))).bind fun z8 =>
          some (Step.next ((IntKind.wrap .i64 (z6.1 + (1 : Int))), z8.1, z8.2)))
        (some (Step.done (z6.2.1, z6.2.2)))).bind fun z5 =>
      some (Step.next (z5.1, z5.2)))
    (some (Step.done z4.2)))
    (fun z => ReachI ll n at_ z.2 ∧ (z.1 = false → ∀ v w, w ∈ fromD ll v n → bv z.2 v = true → bv z.2 w = true)) (fun z => z.2.count false * 2 + z.1.toNat) (fun b => ReachI ll n at_ b ∧ ∀ v w, w ∈ fromD ll v n → bv b v = true → bv b w = true) (fun z4 ⟨hI, hc⟩ => by
      obtain ⟨more4, out4⟩ := z4
      cases more4 with
      | false => exact .inr ⟨out4, rfl, hI, hc rfl⟩
      | true =>
        left
        dsimp only at hI ⊢
        rw [cond_true]
        have hmid := loop_inv (f := fun (z6 : Int × Bool × List Bool) => (cond (decide (z6.1 < n))
            (some (decide (z6.1 < (((List.length ll) : Nat) : Int))))
            (some false)).bind fun z7 =>
            cond z7
            ((loop (σ := (Int × Bool × List Bool)) (β := (Bool × List Bool)) ((0 : Int), z6.2.1, z6.2.2) fun z9 =>
                (idx ll z6.1).bind fun e74 =>
                cond (decide (z9.1 < (((List.length e74) : Nat) : Int)))
                ((idx ll z6.1).bind fun e86 =>
                  (idx e86 z9.1).bind fun e98 =>
                  ((idx z9.2.2 z6.1).bind fun e109 =>
                  cond e109
                  (cond (decide (e98 ≥ (0 : Int)))
                    (cond (decide (e98 < n))
                      ((idx z9.2.2 e98).bind fun e118 =>
                        some (!e118))
                      (some false))
                    (some false))
                  (some false)).bind fun z16 =>
                  (cond z16
                  ((setI z9.2.2 e98 true).bind fun m141 =>
                    some (true, m141))
                  (some (z9.2.1, z9.2.2))).bind fun z21 =>
                  some (Step.next ((IntKind.wrap .i64 (z9.1 + (1 : Int))), z21.1, z21.2)))
                (some (Step.done (z9.2.1, z9.2.2)))).bind fun z8 =>
              some (Step.next ((IntKind.wrap .i64 (z6.1 + (1 : Int))), z8.1, z8.2)))
            (some (Step.done (z6.2.1, z6.2.2))))
          (fun z => ∃ i : Nat, z.1 = (i : Int) ∧ i ≤ n.toNat ∧ RoundI ll n at_ out4 (fun v w => 0 ≤ v ∧ v < (i : Int) ∧ w ∈ fromD ll v n) z.2.1 z.2.2) (fun z => (n - z.1).toNat)
          (fun b => RoundI ll n at_ out4 (fun v w => w ∈ fromD ll v n) b.1 b.2) (fun z6 ⟨i, ei, hi, R⟩ => by
            obtain ⟨i6, more6, out6⟩ := z6
            dsimp only at ei R
            subst ei
            dsimp only
            by_cases hin : (i : Int) < n ∧ (i : Int) < (ll.length : Int)
            · left
              rw [decide_eq_true hin.1, cond_true, decide_eq_true hin.2, Option.bind_some, cond_true]
              have hil : i < ll.length := by omega
              have hlen := hll _ (List.getElem_mem hil)
              have hin3 := loop_inv (f := fun (z9 : Int × Bool × List Bool) => (idx ll (i : Int)).bind fun e74 =>
                  cond (decide (z9.1 < (((List.length e74) : Nat) : Int)))
                  ((idx ll (i : Int)).bind fun e86 =>
                    (idx e86 z9.1).bind fun e98 =>
                    ((idx z9.2.2 (i : Int)).bind fun e109 =>
                    cond e109
                    (cond (decide (e98 ≥ (0 : Int)))
                      (cond (decide (e98 < n))
                        ((idx z9.2.2 e98).bind fun e118 =>
                          some (!e118))
                        (some false))
                      (some false))
                    (some false)).bind fun z16 =>
                    (cond z16
                    ((setI z9.2.2 e98 true).bind fun m141 =>
                      some (true, m141))
                    (some (z9.2.1, z9.2.2))).bind fun z21 =>
                    some (Step.next ((IntKind.wrap .i64 (z9.1 + (1 : Int))), z21.1, z21.2)))
                  (some (Step.done (z9.2.1, z9.2.2))))
                (fun z => ∃ k : Nat, z.1 = (k : Int) ∧ k ≤ ll[i].length ∧ RoundI ll n at_ out4 (fun v w => (0 ≤ v ∧ v < (i : Int) ∧ w ∈ fromD ll v n) ∨ (v = (i : Int) ∧ w ∈ ll[i].take k ∧ 0 ≤ w ∧ w < n)) z.2.1 z.2.2) (fun z => (ll[i].length - z.1).toNat)
                (fun b => RoundI ll n at_ out4 (fun v w => 0 ≤ v ∧ v < ((i + 1 : Nat) : Int) ∧ w ∈ fromD ll v n) b.1 b.2) (fun z9 ⟨k, ek, hk, R⟩ => by
                  obtain ⟨k9, more9, out9⟩ := z9
                  dsimp only at ek R
                  subst ek
                  dsimp only
                  have hol := R.inv.len
                  rw [idx_lt hil, Option.bind_some]
                  by_cases hkl : k < ll[i].length
                  · left
                    rw [decide_eq_true (by omega), cond_true, Option.bind_some, idx_lt hkl, Option.bind_some]
                    rw [idx_bv (r := out9) (v := (i : Int)) (by omega) (by omega), Option.bind_some]
                    obtain ⟨to, hto⟩ : ∃ to, ll[i][k] = to := ⟨_, rfl⟩
                    rw [hto]
                    have hstay : (bv out9 (i : Int) = true → 0 ≤ to → to < n → bv out9 to = true) → RoundI ll n at_ out4 (fun v w => (0 ≤ v ∧ v < (i : Int) ∧ w ∈ fromD ll v n) ∨ (v = (i : Int) ∧ w ∈ ll[i].take (k + 1) ∧ 0 ≤ w ∧ w < n)) more9 out9 := fun hh => by
                      refine ⟨R.inv, fun hm => ⟨(R.none hm).1, fun v w hP hv => ?_⟩, R.some⟩
                      rcases hP with hP | ⟨e1, e2, e3, e4⟩
                      · exact (R.none hm).2 v w (.inl hP) hv
                      · rw [List.take_succ_eq_append_getElem hkl] at e2
                        rcases List.mem_append.1 e2 with g | g
                        · exact (R.none hm).2 v w (.inr ⟨e1, g, e3, e4⟩) hv
                        · have g := List.mem_singleton.1 g
                          rw [hto] at g
                          subst g
                          subst e1
                          exact hh hv e3 e4
                    have hfin : ∀ (m : Bool) (o : List Bool), RoundI ll n at_ out4 (fun v w => (0 ≤ v ∧ v < (i : Int) ∧ w ∈ fromD ll v n) ∨ (v = (i : Int) ∧ w ∈ ll[i].take (k + 1) ∧ 0 ≤ w ∧ w < n)) m o →
                        ∃ s' : Int × Bool × List Bool, some (Step.next (β := Bool × List Bool) ((IntKind.wrap .i64 ((k : Int) + (1 : Int))), m, o)) = some (Step.next s') ∧ (∃ k : Nat, s'.1 = (k : Int) ∧ k ≤ ll[i].length ∧ RoundI ll n at_ out4 (fun v w => (0 ≤ v ∧ v < (i : Int) ∧ w ∈ fromD ll v n) ∨ (v = (i : Int) ∧ w ∈ ll[i].take k ∧ 0 ≤ w ∧ w < n)) s'.2.1 s'.2.2) ∧ ((ll[i].length : Int) - s'.1).toNat < ((ll[i].length : Int) - (k : Int)).toNat := fun m o H => by
                      rw [w64i (by omega)]
                      exact ⟨_, rfl, ⟨k + 1, rfl, hkl, H⟩, by dsimp only; omega⟩
                    cases hbi : bv out9 (i : Int) with
                    | false =>
                      simp only [cond_false, Option.bind_some]
                      exact hfin _ _ (hstay fun h => by rw [hbi] at h; cases h)
                    | true =>
                      by_cases h1 : to ≥ 0
                      · by_cases h2 : to < n
                        · rw [decide_eq_true h1, decide_eq_true h2]
                          simp only [cond_true]
                          rw [idx_bv (r := out9) h1 (by omega)]
                          simp only [Option.bind_some]
                          cases hbt : bv out9 to with
                          | true =>
                            simp only [Bool.not_true, cond_false, Option.bind_some]
                            exact hfin _ _ (hstay fun _ _ _ => hbt)
                          | false =>
                            simp only [Bool.not_false, cond_true]
                            rw [setI_ok h1 (by omega)]
                            simp only [Option.bind_some]
                            have hs := fun v => bv_set (r := out9) (x := to) (e := true) h1 (by omega) v
                            have hfl : out9[to.toNat]? = some false := by
                              have := idx_bv (r := out9) h1 (by omega)
                              unfold idx at this
                              rw [if_pos h1, hbt] at this
                              exact this
                            have hcf := count_flip hfl
                            have hmem : to ∈ ll[i] := by rw [← hto]; exact List.getElem_mem hkl
                            have hbz : bz ll (i : Int) = ll[i] := by unfold bz; rw [idx_lt hil]; rfl
                            refine hfin _ _ ⟨⟨by simp; omega, ?_, fun v hv => ?_⟩, fun h => (by cases h), fun _ => ?_⟩
                            · rw [hs]; split
                              · rfl
                              · exact R.inv.self
                            · rw [hs] at hv
                              split at hv
                              · rename_i e
                                rw [e]
                                exact (R.inv.sound _ hbi).trans (.one ((from_iff (by omega)).2 ⟨by rw [hbz]; exact hmem, h1, h2⟩))
                              · exact R.inv.sound v hv
                            · cases hm : more9 with
                              | false => have := (R.none hm).1; rw [← this]; omega
                              | true => have := R.some hm; omega
                        · rw [decide_eq_true h1, decide_eq_false h2]
                          simp only [cond_true, cond_false, Option.bind_some]
                          exact hfin _ _ (hstay fun _ _ h => absurd h h2)
                      · rw [decide_eq_false h1]
                        simp only [cond_true, cond_false, Option.bind_some]
                        exact hfin _ _ (hstay fun _ h _ => absurd h h1)
                  · right
                    rw [decide_eq_false (by omega), cond_false]
                    refine ⟨_, rfl, R.inv, fun hm => ⟨(R.none hm).1, fun v w ⟨g0, g1, g2⟩ hv => ?_⟩, R.some⟩
                    by_cases hvi : v = (i : Int)
                    · have hbz : bz ll (i : Int) = ll[i] := by unfold bz; rw [idx_lt hil]; rfl
                      subst hvi
                      obtain ⟨e1, e2, e3⟩ := (from_iff (by omega)).1 g2
                      rw [hbz] at e1
                      exact (R.none hm).2 _ w (.inr ⟨rfl, by rw [List.take_of_length_le (by omega)]; exact e1, e2, e3⟩) hv
                    · exact (R.none hm).2 v w (.inl ⟨g0, by omega, g2⟩) hv) (s := ((0 : Int), more6, out6)) ⟨0, rfl, Nat.zero_le _, R.inv, fun hm => ⟨(R.none hm).1, fun v w hP hv => by
                      rcases hP with hP | ⟨_, e2, _⟩
                      · exact (R.none hm).2 v w hP hv
                      · simp at e2⟩, R.some⟩
              obtain ⟨b, eb, hb⟩ := hin3
              rw [eb, Option.bind_some, w64i (by omega)]
              exact ⟨_, rfl, ⟨i + 1, rfl, by omega, hb⟩, by dsimp only; omega⟩
            · right
              have hz7 : (cond (decide ((i : Int) < n)) (some (decide ((i : Int) < (((List.length ll) : Nat) : Int)))) (some false)) = some false := by
                by_cases h1 : (i : Int) < n
                · rw [decide_eq_true h1, cond_true, decide_eq_false fun h2 => hin ⟨h1, h2⟩]
                · rw [decide_eq_false h1, cond_false]
              rw [hz7, Option.bind_some, cond_false]
              refine ⟨_, rfl, R.inv, fun hm => ⟨(R.none hm).1, fun v w hw hv => ?_⟩, R.some⟩
              have hv1 : 0 ≤ v ∧ v < n := by
                have hol := R.inv.len
                dsimp only at hol hv
                rcases Int.lt_or_le v 0 with g | g
                · rw [bv_out (.inl g)] at hv; cases hv
                · refine ⟨g, ?_⟩
                  rcases Int.lt_or_le v n with g' | g'
                  · exact g'
                  · rw [bv_out (.inr (by omega))] at hv; cases hv
              by_cases hvi : v < (i : Int)
              · exact (R.none hm).2 v w ⟨hv1.1, hvi, hw⟩ hv
              · have := ((from_iff hv1.1).1 hw).1
                rw [bz_out (.inr (by omega))] at this
                cases this) (s := ((0 : Int), false, out4)) ⟨0, rfl, Nat.zero_le _, hI, fun _ => ⟨rfl, fun v w hP => by omega⟩, fun h => by cases h⟩
        obtain ⟨b, eb, hb⟩ := hmid
        rw [eb, Option.bind_some]
        refine ⟨_, rfl, ⟨hb.inv, fun hm => (hb.none hm).2⟩, ?_⟩
        dsimp only
        cases hm : b.1 with
        | false => have := (hb.none hm).1; rw [this]; simp
        | true => have := hb.some hm; simp; omega) (s := (true, (List.replicate n.toNat false).set at_.toNat true)) ⟨h0, fun h => by cases h⟩
  obtain ⟨r, er, hr, hc⟩ := hlp
  rw [er]
  refine ⟨r, rfl, hr.len, fun v => ⟨hr.sound v, fun h => ?_⟩⟩
  exact h.closed (D := fun v => bv r v = true) (fun v w hv hw => hc v w hw hv) hr.self
end
end Go.Proofs.YtbpbfoemghcfaaaDoor

/-
  DIGRAPH, PLAIN: the document's Solve, Parts and Loops; the program's Parts and Loops are the same.
  Conditions: at most a thousand places.
-/
namespace Go.Proofs.YtbpbfoemghcfaaaDoor
open Go Go.Eng
set_option linter.unusedVariables false

theorem forS_filter {f : Int → List Int → Option (List Int)} {n : Nat} (hn : n ≤ 1000000000) (p : Nat → Prop) (hs : ∀ (k : Nat) (acc : List Int), k < n → acc.length ≤ k → (p k ∧ f (k : Int) acc = some (acc ++ [(k : Int)])) ∨ (¬ p k ∧ f (k : Int) acc = some acc)) :
    ∃ l, forS 0 (n : Int) ([] : List Int) f = some l ∧ l.Pairwise (· < ·) ∧ (∀ j, j ∈ l ↔ ∃ k : Nat, k < n ∧ j = (k : Int) ∧ p k) ∧ l.length ≤ n := by
  obtain ⟨l, h1, h2, h3, h4⟩ := forS_inv (f := f) (n := n) (fun k acc => acc.length ≤ k ∧ acc.Pairwise (· < ·) ∧ ∀ j, j ∈ acc ↔ ∃ i : Nat, i < k ∧ j = (i : Int) ∧ p i) (by omega) (s := []) ⟨Nat.le_refl _, .nil, fun j => by simp⟩ (fun k acc hk ⟨g1, g2, g3⟩ => by
    rcases hs k acc hk g1 with ⟨hp, e⟩ | ⟨hp, e⟩
    · refine ⟨_, e, by simp; omega, ?_, fun j => ?_⟩
      · rw [List.pairwise_append]
        refine ⟨g2, by simp, fun a ha b hb => ?_⟩
        obtain ⟨i, hi, rfl, _⟩ := (g3 a).1 ha
        rw [List.mem_singleton.1 hb]
        omega
      · rw [List.mem_append, g3, List.mem_singleton]
        constructor
        · rintro (⟨i, hi, e, h⟩ | e)
          · exact ⟨i, by omega, e, h⟩
          · exact ⟨k, by omega, e, hp⟩
        · rintro ⟨i, hi, ej, h⟩
          by_cases hik : i = k
          · subst hik; exact .inr ej
          · exact .inl ⟨i, by omega, ej, h⟩
    · refine ⟨_, e, by omega, g2, fun j => ?_⟩
      rw [g3]
      constructor
      · rintro ⟨i, hi, e, h⟩; exact ⟨i, by omega, e, h⟩
      · rintro ⟨i, hi, e, h⟩
        by_cases hik : i = k
        · subst hik; exact absurd h hp
        · exact ⟨i, by omega, e, h⟩)
  exact ⟨l, h1, h3, h4, h2⟩
theorem refSolve_ok {ll base : List (List Int)} {at_ wide : Int} (h0 : 0 ≤ wide) (h1 : wide ≤ 1000) (a0 : 0 ≤ at_) (a1 : at_ < (base.length : Int)) (hb : base.length ≤ 1000) (hll : ∀ l ∈ ll, l.length ≤ 1073741824) (hle : ll.length ≤ 1073741824) (hbl : ∀ l ∈ base, l.length ≤ 1073741824) :
    ∃ l, tronageref12_Solve_D ll base at_ wide = some l ∧ l.Pairwise (· < ·) ∧ (∀ j, j ∈ l ↔ Gets ll base wide at_ j) := by
  obtain ⟨r, er, lr, pr⟩ := reach_ok (ll := ll) a0 a1 (by omega) hll hle
  unfold tronageref12_Solve_D
  have hw : (if wide > 0 then wide else 0) = wide := by split <;> omega
  have hmk : mkRow wide false = some (List.replicate wide.toNat false) := by unfold mkRow; rw [if_pos ⟨by omega, by omega⟩]
  rw [er, Option.bind_some, hw, hmk, Option.bind_some]
  obtain ⟨has, eh, lh, ph⟩ := forS_inv (f := fun i_z4 (z4 : List Bool) =>
    (loop (σ := (Int × List Bool)) (β := List Bool) ((0 : Int), z4) fun z6 =>
      (idx base i_z4).bind fun e56 =>
      cond (decide (z6.1 < (((List.length e56) : Nat) : Int)))
      (((idx r i_z4).bind fun e70 =>
        cond e70
        ((idx base i_z4).bind fun e79 =>
          (idx e79 z6.1).bind fun e91 =>
          cond (decide (e91 ≥ (0 : Int)))
          ((idx base i_z4).bind fun e100 =>
            (idx e100 z6.1).bind fun e112 =>
            some (decide (e112 < wide)))
          (some false))
        (some false)).bind fun z9 =>
        (cond z9
        ((idx base i_z4).bind fun e130 =>
          (idx e130 z6.1).bind fun e142 =>
          (setI z6.2 e142 true).bind fun m155 =>
          some m155)
        (some z6.2)).bind fun z20 =>
        some (Step.next ((IntKind.wrap .i64 (z6.1 + (1 : Int))), z20)))
      (some (Step.done z6.2))).bind fun z5 =>
    some z5) (n := base.length) (fun i (has : List Bool) => has.length = wide.toNat ∧ ∀ j, bv has j = true ↔ 0 ≤ j ∧ j < wide ∧ ∃ z : Nat, z < i ∧ bv r (z : Int) = true ∧ j ∈ bz base (z : Int)) (by omega) (s := List.replicate wide.toNat false)
    ⟨by simp, fun j => by rw [bv_replicate]; simp⟩ (fun i has hi ⟨g1, g2⟩ => by
      have hlen := hbl _ (List.getElem_mem hi)
      have hbz : bz base (i : Int) = base[i] := by unfold bz; rw [idx_lt hi]; rfl
      obtain ⟨Hr, hHr⟩ : ∃ Hr : Prop, (Hr ↔ bv r (i : Int) = true) := ⟨_, Iff.rfl⟩
      obtain ⟨b, eb, q1, q2⟩ := loop_inv (f := fun (z6 : Int × List Bool) =>
        (idx base (i : Int)).bind fun e56 =>
        cond (decide (z6.1 < (((List.length e56) : Nat) : Int)))
        (((idx r (i : Int)).bind fun e70 =>
          cond e70
          ((idx base (i : Int)).bind fun e79 =>
            (idx e79 z6.1).bind fun e91 =>
            cond (decide (e91 ≥ (0 : Int)))
            ((idx base (i : Int)).bind fun e100 =>
              (idx e100 z6.1).bind fun e112 =>
              some (decide (e112 < wide)))
            (some false))
          (some false)).bind fun z9 =>
          (cond z9
          ((idx base (i : Int)).bind fun e130 =>
            (idx e130 z6.1).bind fun e142 =>
            (setI z6.2 e142 true).bind fun m155 =>
            some m155)
          (some z6.2)).bind fun z20 =>
          some (Step.next (β := List Bool) ((IntKind.wrap .i64 (z6.1 + (1 : Int))), z20)))
        (some (Step.done z6.2)))
        (fun z => ∃ k : Nat, z.1 = (k : Int) ∧ k ≤ base[i].length ∧ z.2.length = wide.toNat ∧ ∀ j, bv z.2 j = true ↔ bv has j = true ∨ (Hr ∧ 0 ≤ j ∧ j < wide ∧ j ∈ base[i].take k)) (fun z => (base[i].length - z.1).toNat)
        (fun b => b.length = wide.toNat ∧ ∀ j, bv b j = true ↔ bv has j = true ∨ (Hr ∧ 0 ≤ j ∧ j < wide ∧ j ∈ base[i])) (fun z ⟨k, ek, hk, w1, w2⟩ => by
          obtain ⟨k6, has6⟩ := z
          dsimp only at ek w1 w2
          subst ek
          dsimp only
          rw [idx_lt hi, Option.bind_some]
          by_cases hkl : k < base[i].length
          · left
            rw [decide_eq_true (by omega), cond_true, idx_bv (r := r) (v := (i : Int)) (by omega) (by omega), Option.bind_some, Option.bind_some, idx_lt hkl, Option.bind_some]
            obtain ⟨x, hx⟩ : ∃ x, base[i][k] = x := ⟨_, rfl⟩
            rw [hx]
            have hmem : ∀ j, j ∈ base[i].take (k + 1) ↔ j ∈ base[i].take k ∨ j = x := fun j => by
              rw [List.take_succ_eq_append_getElem hkl, List.mem_append, List.mem_singleton, hx]
            have hfin : ∀ o : List Bool, o.length = wide.toNat → (∀ j, bv o j = true ↔ bv has j = true ∨ (Hr ∧ 0 ≤ j ∧ j < wide ∧ j ∈ base[i].take (k + 1))) →
                ∃ s' : Int × List Bool, some (Step.next (β := List Bool) ((IntKind.wrap .i64 ((k : Int) + (1 : Int))), o)) = some (Step.next s') ∧ (∃ k : Nat, s'.1 = (k : Int) ∧ k ≤ base[i].length ∧ s'.2.length = wide.toNat ∧ ∀ j, bv s'.2 j = true ↔ bv has j = true ∨ (Hr ∧ 0 ≤ j ∧ j < wide ∧ j ∈ base[i].take k)) ∧ ((base[i].length : Int) - s'.1).toNat < ((base[i].length : Int) - (k : Int)).toNat := fun o h1 h2 => by
              rw [w64i (by omega)]
              exact ⟨_, rfl, ⟨k + 1, rfl, hkl, h1, h2⟩, by dsimp only; omega⟩
            cases hri : bv r (i : Int) with
            | false =>
              simp only [cond_false, Option.bind_some]
              refine hfin _ w1 fun j => ?_
              rw [w2]
              have : ¬ Hr := fun h => by have := hHr.1 h; rw [hri] at this; cases this
              simp only [this, false_and]
            | true =>
              by_cases x0 : x ≥ 0
              · by_cases x1 : x < wide
                · rw [decide_eq_true x0]
                  simp only [cond_true, Option.bind_some, idx_lt hkl, hx]
                  rw [decide_eq_true x1]
                  simp only [cond_true]
                  rw [setI_ok x0 (by omega)]
                  simp only [Option.bind_some]
                  refine hfin _ (by rw [List.length_set]; exact w1) fun j => ?_
                  rw [bv_set x0 (by omega)]
                  by_cases hjx : j = x
                  · rw [if_pos hjx]
                    exact ⟨fun _ => .inr ⟨hHr.2 hri, by omega, by omega, (hmem j).2 (.inr hjx)⟩, fun _ => rfl⟩
                  · rw [if_neg hjx, w2, hmem]
                    constructor
                    · rintro (h | ⟨e1, e2, e3, e4⟩)
                      · exact .inl h
                      · exact .inr ⟨e1, e2, e3, .inl e4⟩
                    · rintro (h | ⟨e1, e2, e3, e4 | e4⟩)
                      · exact .inl h
                      · exact .inr ⟨e1, e2, e3, e4⟩
                      · exact absurd e4 hjx
                · rw [decide_eq_true x0]
                  simp only [cond_true, Option.bind_some, idx_lt hkl, hx]
                  rw [decide_eq_false x1]
                  simp only [cond_false, Option.bind_some]
                  refine hfin _ w1 fun j => ?_
                  rw [w2, hmem]
                  constructor
                  · rintro (h | ⟨e1, e2, e3, e4⟩)
                    · exact .inl h
                    · exact .inr ⟨e1, e2, e3, .inl e4⟩
                  · rintro (h | ⟨e1, e2, e3, e4 | e4⟩)
                    · exact .inl h
                    · exact .inr ⟨e1, e2, e3, e4⟩
                    · exact absurd (by rw [← e4]; exact e3) x1
              · rw [decide_eq_false x0]
                simp only [cond_true, cond_false, Option.bind_some]
                refine hfin _ w1 fun j => ?_
                rw [w2, hmem]
                constructor
                · rintro (h | ⟨e1, e2, e3, e4⟩)
                  · exact .inl h
                  · exact .inr ⟨e1, e2, e3, .inl e4⟩
                · rintro (h | ⟨e1, e2, e3, e4 | e4⟩)
                  · exact .inl h
                  · exact .inr ⟨e1, e2, e3, e4⟩
                  · exact absurd (by rw [← e4]; exact e2) x0
          · right
            rw [decide_eq_false (by omega), cond_false]
            refine ⟨_, rfl, w1, fun j => ?_⟩
            rw [w2, List.take_of_length_le (by omega)]) (s := ((0 : Int), has)) ⟨0, rfl, Nat.zero_le _, g1, fun j => by simp⟩
      refine ⟨b, by rw [eb]; rfl, q1, fun j => ?_⟩
      rw [q2, g2, hHr]
      constructor
      · rintro (⟨e1, e2, z, e3, e4, e5⟩ | ⟨e1, e2, e3, e4⟩)
        · exact ⟨e1, e2, z, by omega, e4, e5⟩
        · exact ⟨e2, e3, i, by omega, e1, by rw [hbz]; exact e4⟩
      · rintro ⟨e1, e2, z, e3, e4, e5⟩
        by_cases hz : z = i
        · subst hz
          exact .inr ⟨e4, e1, e2, by rw [← hbz]; exact e5⟩
        · exact .inl ⟨e1, e2, z, by omega, e4, e5⟩)
  rw [eh, Option.bind_some]
  have hwn : wide = ((wide.toNat : Nat) : Int) := by omega
  obtain ⟨l, el, l1, l2, l3⟩ := forS_filter (f := fun i_z27 (z27 : List Int) =>
    (idx has i_z27).bind fun e214 =>
    (cond e214
    ((app z27 ([i_z27] : List Int)).bind fun t32 =>
      some t32)
    (some z27)).bind fun z30 =>
    some z30) (n := wide.toNat) (by omega) (fun k => bv has (k : Int) = true) (fun k acc hk ha => by
      rw [idx_bv (r := has) (v := (k : Int)) (by omega) (by omega), Option.bind_some]
      cases hb : bv has (k : Int) with
      | true => left; refine ⟨rfl, ?_⟩; rw [cond_true, app1 (by omega)]; rfl
      | false => right; exact ⟨by simp, rfl⟩)
  rw [← hwn] at el
  rw [el]
  refine ⟨l, rfl, l1, fun j => ?_⟩
  rw [l2]
  constructor
  · rintro ⟨k, hk, rfl, hp⟩
    obtain ⟨e1, e2, z, e3, e4, e5⟩ := (ph _).1 hp
    exact ⟨e1, e2, z, (pr _).1 e4, e5⟩
  · rintro ⟨e1, e2, z, e3, e4⟩
    have hz : 0 ≤ z ∧ z < (base.length : Int) := by
      by_cases hz : 0 ≤ z ∧ z < (base.length : Int)
      · exact hz
      · rw [bz_out (by omega)] at e4; cases e4
    refine ⟨j.toNat, by omega, by omega, (ph _).2 ⟨by omega, by omega, z.toNat, by omega, (pr _).2 (by rw [Int.toNat_of_nonneg hz.1]; exact e3), ?_⟩⟩
    rw [Int.toNat_of_nonneg hz.1, Int.toNat_of_nonneg e1]
    exact e4
/-! ## parts -/
theorem parts_ok {ll : List (List Int)} (hn : ll.length ≤ 1000) (hll : ∀ l ∈ ll, l.length ≤ 1073741824) : ∃ a, partsD ll = some a ∧ AllParts ll (ll.length : Int) a ∧ a.length ≤ 1000 := by
  obtain ⟨⟨low, stk, out⟩, est, hI⟩ := walk_spec (partsTold (ll := ll) (n := (ll.length : Int)) (by omega)) (by omega) (by omega) hll (a := []) partsI_nil (fuel := ll.length) (by omega)
  dsimp only at hI
  have hI : PartsI ll (ll.length : Int) (fun v => 0 ≤ v ∧ v < (ll.length : Int)) out := hI
  have hsz := hI.size
  unfold partsD
  rw [est, Option.bind_some]
  dsimp only
  rw [need_ok ⟨heads_ok (by omega) hI, by omega⟩]
  exact ⟨_, rfl, sortH_parts hI, by rw [show (sortH out).length = out.length from List.length_mergeSort _]; omega⟩
theorem part_len {ll : List (List Int)} {n : Int} {p : List Int} (H : IsPart ll n p) : p.length ≤ n.toNat := by
  have hnd : p.Nodup := H.up.imp fun h => by omega
  have h := List.Nodup.length_le_of_subset (l₂ := (List.range n.toNat).map fun k : Nat => (k : Int)) hnd (fun v hv => by
    have := H.range v hv
    exact List.mem_map.2 ⟨v.toNat, List.mem_range.2 (by omega), by omega⟩)
  simpa using h
theorem refParts_ok {ll : List (List Int)} (hn : ll.length ≤ 1000) (hll : ∀ l ∈ ll, l.length ≤ 1073741824) : ∃ a, tronageref12_Parts_D ll = some a ∧ AllParts ll (ll.length : Int) a := by
  unfold tronageref12_Parts_D
  obtain ⟨R, eR, lR, pR⟩ := forS_list (f := fun i_z2 (z2 : List (List Bool)) =>
    (tronageref12_Reach_D ll (((List.length ll) : Nat) : Int) i_z2).bind fun t3 =>
    (app z2 ([t3] : List (List Bool))).bind fun t5 =>
    some t5) (n := ll.length) (by omega) (fun k r => (r.length : Int) = (ll.length : Int) ∧ ∀ v, bv r v = true ↔ Reach ll (ll.length : Int) k v) (fun k acc hk ha => by
      obtain ⟨r, er, lr, pr⟩ := reach_ok (ll := ll) (n := (ll.length : Int)) (at_ := (k : Int)) (by omega) (by omega) (by omega) hll (by omega)
      exact ⟨r, by rw [er, Option.bind_some, app1 (by omega)]; rfl, lr, pr⟩)
  rw [eR, Option.bind_some]
  have hR : ∀ k : Nat, k < ll.length → ∃ r, idx R (k : Int) = some r ∧ (r.length : Int) = (ll.length : Int) ∧ ∀ v, bv r v = true ↔ Reach ll (ll.length : Int) k v := fun k hk => by
    have hlt : k < R.length := by omega
    exact ⟨R[k], idx_lt hlt, pR k _ (List.getElem?_eq_getElem hlt)⟩
  have hmk : mkRow (((List.length ll) : Nat) : Int) false = some (List.replicate ll.length false) := by unfold mkRow; rw [if_pos ⟨by omega, by omega⟩, Int.toNat_natCast]
  rw [hmk, Option.bind_some]
  obtain ⟨⟨out, done⟩, eo, hout, hlen, hdone, hup, hhd, hall⟩ := forS_inv (f := fun i_z8 (z8 : List (List Int) × List Bool) =>
    ((idx z8.2 i_z8).bind fun e99 =>
    cond e99
    (some (z8.1, z8.2))
    ((forS (σ := (List Int × List Bool)) (0 : Int) (((List.length ll) : Nat) : Int) (([] : List Int), z8.2) fun i_z13 z13 =>
        ((idx R i_z8).bind fun e139 =>
        (idx e139 i_z13).bind fun e151 =>
        cond e151
        ((idx R i_z13).bind fun e160 =>
          (idx e160 i_z8).bind fun e172 =>
          some e172)
        (some false)).bind fun z14 =>
        (cond z14
        ((app z13.1 ([i_z13] : List Int)).bind fun t25 =>
          (setI z13.2 i_z13 true).bind fun m213 =>
          some (t25, m213))
        (some (z13.1, z13.2))).bind fun z23 =>
        some (z23.1, z23.2)).bind fun z12 =>
      (app z8.1 ([z12.1] : List (List Int))).bind fun t28 =>
      some (t28, z12.2))).bind fun z9 =>
    some (z9.1, z9.2)) (n := ll.length)
    (fun i (z : List (List Int) × List Bool) => (∀ p ∈ z.1, IsPart ll (ll.length : Int) p) ∧ z.2.length = ll.length ∧ (∀ v, bv z.2 v = true ↔ ∃ p ∈ z.1, v ∈ p) ∧ (z.1.map headI).Pairwise (· < ·) ∧ ((∀ p ∈ z.1, headI p < (i : Int)) ∧ z.1.length ≤ i) ∧ ∀ v : Int, 0 ≤ v → v < (i : Int) → bv z.2 v = true) (by omega) (s := (([] : List (List Int)), List.replicate ll.length false))
    ⟨fun p hp => (by cases hp), by simp, fun v => by rw [bv_replicate]; simp, .nil, ⟨fun p hp => (by cases hp), Nat.le_refl _⟩, fun v g0 g1 => by omega⟩ (fun i z hi ⟨q1, q2, q3, q4, ⟨q5, q5'⟩, q6⟩ => by
      obtain ⟨out, done⟩ := z
      dsimp only at q1 q2 q3 q4 q5 q5' q6 ⊢
      rw [idx_bv (r := done) (v := (i : Int)) (by omega) (by omega), Option.bind_some]
      cases hdi : bv done (i : Int) with
      | true =>
        rw [cond_true, Option.bind_some]
        refine ⟨_, rfl, q1, q2, q3, q4, ⟨fun p hp => by have := q5 p hp; omega, by dsimp only; omega⟩, fun v g0 g1 => ?_⟩
        by_cases hv : v = (i : Int)
        · rw [hv]; exact hdi
        · exact q6 v g0 (by omega)
      | false =>
        rw [cond_false]
        obtain ⟨ri, eri, lri, pri⟩ := hR i hi
        obtain ⟨⟨l, done2⟩, e2, w1, w2, w3, w4⟩ := forS_inv (f := fun i_z13 (z13 : List Int × List Bool) =>
          ((idx R (i : Int)).bind fun e139 =>
          (idx e139 i_z13).bind fun e151 =>
          cond e151
          ((idx R i_z13).bind fun e160 =>
            (idx e160 (i : Int)).bind fun e172 =>
            some e172)
          (some false)).bind fun z14 =>
          (cond z14
          ((app z13.1 ([i_z13] : List Int)).bind fun t25 =>
            (setI z13.2 i_z13 true).bind fun m213 =>
            some (t25, m213))
          (some (z13.1, z13.2))).bind fun z23 =>
          some (z23.1, z23.2)) (n := ll.length)
          (fun k (z : List Int × List Bool) => z.1.length ≤ k ∧ z.1.Pairwise (· < ·) ∧ (∀ j, j ∈ z.1 ↔ ∃ m : Nat, m < k ∧ j = (m : Int) ∧ Reach ll (ll.length : Int) i m ∧ Reach ll (ll.length : Int) m i) ∧ z.2.length = ll.length ∧ ∀ v, bv z.2 v = true ↔ bv done v = true ∨ v ∈ z.1) (by omega) (s := (([] : List Int), done))
          ⟨Nat.le_refl _, .nil, fun j => by simp, q2, fun v => by simp⟩ (fun k z hk ⟨u1, u2, u3, u4, u5⟩ => by
            obtain ⟨l, dn⟩ := z
            dsimp only at u1 u2 u3 u4 u5 ⊢
            obtain ⟨rk, erk, lrk, prk⟩ := hR k hk
            rw [eri, Option.bind_some, idx_bv (r := ri) (v := (k : Int)) (by omega) (by omega), Option.bind_some, erk, Option.bind_some, idx_bv (r := rk) (v := (i : Int)) (by omega) (by omega), Option.bind_some]
            by_cases hb : Reach ll (ll.length : Int) i k ∧ Reach ll (ll.length : Int) k i
            · rw [(pri _).2 hb.1, (prk _).2 hb.2, cond_true, Option.bind_some, cond_true, app1 (by omega), Option.bind_some, setI_ok (by omega) (by omega), Option.bind_some, Option.bind_some]
              refine ⟨_, rfl, by simp; omega, ?_, fun j => ?_, by simp; exact u4, fun v => ?_⟩
              · rw [List.pairwise_append]
                refine ⟨u2, by simp, fun a ha b hb' => ?_⟩
                obtain ⟨m, hm, rfl, _⟩ := (u3 a).1 ha
                rw [List.mem_singleton.1 hb']
                omega
              · rw [List.mem_append, u3, List.mem_singleton]
                constructor
                · rintro (⟨m, hm, e, h⟩ | e)
                  · exact ⟨m, by omega, e, h⟩
                  · exact ⟨k, by omega, e, hb⟩
                · rintro ⟨m, hm, e, h⟩
                  by_cases hmk : m = k
                  · subst hmk; exact .inr e
                  · exact .inl ⟨m, by omega, e, h⟩
              · rw [bv_set (by omega) (by omega), List.mem_append, List.mem_singleton]
                split
                · exact ⟨fun _ => .inr (.inr (by assumption)), fun _ => rfl⟩
                · rename_i hne
                  rw [u5]
                  exact ⟨fun h => h.imp id .inl, fun h => h.imp id fun g => g.elim id fun g => absurd g hne⟩
            · have hf : cond (bv ri (k : Int)) (some (bv rk (i : Int))) (some false) = some false := by
                cases h1 : bv ri (k : Int) with
                | false => rfl
                | true =>
                  cases h2 : bv rk (i : Int) with
                  | false => rfl
                  | true => exact absurd ⟨(pri _).1 h1, (prk _).1 h2⟩ hb
              rw [hf, Option.bind_some, cond_false, Option.bind_some]
              refine ⟨_, rfl, by dsimp only; omega, u2, fun j => ?_, u4, u5⟩
              rw [u3]
              constructor
              · rintro ⟨m, hm, e, h⟩; exact ⟨m, by omega, e, h⟩
              · rintro ⟨m, hm, e, h⟩
                by_cases hmk : m = k
                · subst hmk; exact absurd h hb
                · exact ⟨m, by omega, e, h⟩)
        dsimp only at w1 w2 w3 w4
        obtain ⟨w4, w5⟩ := w4
        have hml : ∀ j, j ∈ l ↔ (0 ≤ j ∧ j < (ll.length : Int)) ∧ Reach ll (ll.length : Int) i j ∧ Reach ll (ll.length : Int) j i := fun j => by
          rw [w3]
          constructor
          · rintro ⟨m, hm, rfl, h⟩; exact ⟨⟨by omega, by omega⟩, h⟩
          · rintro ⟨⟨g0, g1⟩, h⟩
            refine ⟨j.toNat, by omega, by omega, ?_⟩
            rw [Int.toNat_of_nonneg g0]; exact h
        have hrange : ∀ x y, Reach ll (ll.length : Int) x y → 0 ≤ x ∧ x < (ll.length : Int) → 0 ≤ y ∧ y < (ll.length : Int) := fun x y h => h.closed (D := fun v => 0 ≤ v ∧ v < (ll.length : Int)) (fun v w _ hw => from_range hw)
        have hii : (i : Int) ∈ l := (hml _).2 ⟨⟨by omega, by omega⟩, .refl _, .refl _⟩
        have hP : IsPart ll (ll.length : Int) l := ⟨fun h => (by rw [h] at hii; cases hii), w2, fun v hv => ((hml v).1 hv).1, fun v hv z => by
          obtain ⟨g1, g2, g3⟩ := (hml v).1 hv
          rw [hml]
          constructor
          · rintro ⟨_, k1, k2⟩; exact ⟨g3.trans k1, k2.trans g2⟩
          · rintro ⟨k1, k2⟩; exact ⟨hrange _ _ k1 g1, g2.trans k1, k2.trans g3⟩⟩
        have hnot : ∀ v ∈ l, ∀ p ∈ out, v ∉ p := fun v hv p hp hvp => by
          rw [part_eq hP (q1 p hp) hv hvp] at hii
          have := (q3 (i : Int)).2 ⟨p, hp, hii⟩
          rw [hdi] at this; cases this
        have hhead : headI l = (i : Int) := by
          have h1 := head_le w2 hii
          have h2 := head_mem hP.ne
          have h3 := hP.range _ h2
          rcases Int.lt_or_le (headI l) (i : Int) with g | g
          · obtain ⟨p, hp, hv⟩ := (q3 _).1 (q6 _ h3.1 g)
            exact absurd hv (hnot _ h2 p hp)
          · omega
        rw [e2, Option.bind_some]
        dsimp only
        rw [app1 (by omega), Option.bind_some, Option.bind_some]
        refine ⟨_, rfl, fun p hp => ?_, w4, fun v => ?_, ?_, ⟨fun p hp => ?_, by simp; omega⟩, fun v g0 g1 => ?_⟩
        · rcases List.mem_append.1 hp with h | h
          · exact q1 p h
          · rw [List.mem_singleton.1 h]; exact hP
        · rw [w5, q3]
          constructor
          · rintro (⟨p, hp, hv⟩ | h)
            · exact ⟨p, List.mem_append_left _ hp, hv⟩
            · exact ⟨l, by simp, h⟩
          · rintro ⟨p, hp, hv⟩
            rcases List.mem_append.1 hp with h | h
            · exact .inl ⟨p, h, hv⟩
            · rw [List.mem_singleton.1 h] at hv; exact .inr hv
        · rw [List.map_append, List.pairwise_append]
          refine ⟨q4, by simp, fun a ha b hb => ?_⟩
          obtain ⟨p, hp, rfl⟩ := List.mem_map.1 ha
          simp only [List.map_cons, List.map_nil, List.mem_singleton] at hb
          rw [hb, hhead]
          exact q5 p hp
        · rcases List.mem_append.1 hp with h | h
          · have := q5 p h; omega
          · rw [List.mem_singleton.1 h, hhead]; omega
        · rw [w5]
          by_cases hv : v = (i : Int)
          · rw [hv]; exact .inr hii
          · exact .inl (q6 v g0 (by omega)))
  rw [eo]
  refine ⟨out, rfl, hout, fun v => ?_, hup⟩
  rw [← hdone]
  constructor
  · rintro ⟨g0, g1⟩; exact hall v g0 g1
  · intro h
    obtain ⟨p, hp, hv⟩ := (hdone v).1 h
    exact (hout p hp).range v hv
/-! ## loops -/
/-- A place comes back to itself. -/
def Comes (ll : List (List Int)) (i : Int) : Prop := 0 ≤ i ∧ i < (ll.length : Int) ∧ ∃ to, to ∈ fromD ll i (ll.length : Int) ∧ Reach ll (ll.length : Int) to i
theorem flat_mem {P : List (List Int)} {v : Int} : v ∈ P.flatten ↔ ∃ p ∈ P, v ∈ p := by simp
theorem loops_ok {ll : List (List Int)} (hn : ll.length ≤ 1000) (hll : ∀ l ∈ ll, l.length ≤ 1073741824) : ∃ o, loopsD ll = some o ∧ o.Pairwise (· < ·) ∧ (∀ j, j ∈ o ↔ Comes ll j) ∧ o.length ≤ 1000 := by
  obtain ⟨a, ea, ha, la⟩ := parts_ok hn hll
  unfold loopsD
  rw [ea, Option.bind_some]
  have hdis : ∀ (i j : Nat) (hi : i < a.length) (hj : j < a.length), i ≠ j → ∀ v ∈ a[i], v ∉ a[j] := fun i j hi hj hij v h1 h2 => by
    have e := part_eq (ha.parts _ (List.getElem_mem hi)) (ha.parts _ (List.getElem_mem hj)) h1 h2
    have h3 := List.pairwise_iff_getElem.1 ha.up
    rcases Nat.lt_trichotomy i j with g | g | g
    · have := h3 i j (by simp [hi]) (by simp [hj]) g
      rw [List.getElem_map, List.getElem_map, e] at this
      omega
    · exact hij g
    · have := h3 j i (by simp [hj]) (by simp [hi]) g
      rw [List.getElem_map, List.getElem_map, e] at this
      omega
  -- which parts count
  obtain ⟨o, eo, o1, o2, o3⟩ := forS_inv (f := fun i (acc : List Int) =>
    (idx a i).bind fun l =>
    (cond (decide ((l.length : Int) > (1 : Int))) (some true) ((idx l 0).bind fun x => (idx ll x).bind fun e => slices_Contains_int_int_D e x)).bind fun b =>
    cond b (app acc l) (some acc)) (n := a.length) (fun k (acc : List Int) => acc.Nodup ∧ (∀ v, v ∈ acc ↔ Comes ll v ∧ ∃ p ∈ a.take k, v ∈ p) ∧ acc.length ≤ 1000) (by omega) (s := []) ⟨.nil, fun v => by simp, by simp⟩ (fun k acc hk ⟨g1, g2, g3⟩ => by
      have hP := ha.parts _ (List.getElem_mem hk)
      have hpl := part_len hP
      rw [idx_lt hk, Option.bind_some]
      have hb : ∃ b, (cond (decide ((a[k].length : Int) > (1 : Int))) (some true) ((idx a[k] 0).bind fun x => (idx ll x).bind fun e => slices_Contains_int_int_D e x)) = some b ∧ (b = true → ∀ v ∈ a[k], Comes ll v) ∧ (b = false → ∀ v ∈ a[k], ¬ Comes ll v) := by
        by_cases hlen : (a[k].length : Int) > 1
        · rw [decide_eq_true hlen]
          refine ⟨true, rfl, fun _ v hv => ?_, fun h => by cases h⟩
          have hr := hP.range v hv
          have : ∃ w ∈ a[k], w ≠ v := by
            have h0 : a[k][0]'(by omega) ∈ a[k] := List.getElem_mem _
            have h1 : a[k][1]'(by omega) ∈ a[k] := List.getElem_mem _
            have h2 := List.pairwise_iff_getElem.1 hP.up 0 1 (by omega) (by omega) (by omega)
            by_cases e : a[k][0]'(by omega) = v
            · exact ⟨_, h1, by omega⟩
            · exact ⟨_, h0, e⟩
          obtain ⟨w, hw, hne⟩ := this
          obtain ⟨k1, k2⟩ := (hP.scc v hv w).1 hw
          refine ⟨hr.1, hr.2, ?_⟩
          cases k1 with
          | refl => exact absurd rfl hne
          | step h1 h2 => exact ⟨_, h1, h2.trans k2⟩
        · rw [decide_eq_false hlen]
          have hne := hP.ne
          obtain ⟨x, hx⟩ : ∃ x, a[k] = [x] := by
            match hak : a[k] with
            | [] => exact absurd hak hne
            | [x] => exact ⟨x, rfl⟩
            | x :: y :: r => rw [hak] at hlen; simp at hlen; omega
          have hr := hP.range x (by rw [hx]; simp)
          rw [hx]
          rw [show idx [x] 0 = some x from rfl, Option.bind_some, idx_bz hr.1 hr.2, Option.bind_some]
          have hbl : (bz ll x).length ≤ 1073741824 := by
            have := idx_bz hr.1 hr.2
            exact hll _ (List.mem_of_getElem? (idx_some this).2.2)
          rw [contains_ok (by omega), cond_false]
          have hcm : x ∈ bz ll x ↔ Comes ll x := by
            constructor
            · intro h
              exact ⟨hr.1, hr.2, x, (from_iff hr.1).2 ⟨h, hr⟩, .refl _⟩
            · rintro ⟨_, _, to, h1, h2⟩
              have h3 : to ∈ a[k] := (hP.scc x (by rw [hx]; simp) to).2 ⟨.one h1, h2⟩
              rw [hx] at h3
              have h3 := List.mem_singleton.1 h3
              subst h3
              exact ((from_iff hr.1).1 h1).1
          refine ⟨_, rfl, fun h v hv => ?_, fun h v hv => ?_⟩
          · rw [List.mem_singleton.1 hv]; exact hcm.1 (of_decide_eq_true h)
          · rw [List.mem_singleton.1 hv]; exact fun g => of_decide_eq_false h (hcm.2 g)
      obtain ⟨b, eb, hb1, hb2⟩ := hb
      rw [eb, Option.bind_some]
      cases b with
      | true =>
        have hnd : (acc ++ a[k]).Nodup := by
          rw [List.nodup_append]
          refine ⟨g1, hP.up.imp fun h => by omega, fun x hx y hy e => ?_⟩
          subst e
          obtain ⟨_, p, hp, hxp⟩ := (g2 x).1 hx
          obtain ⟨i, hi, rfl⟩ := List.mem_take_iff_getElem.1 hp
          exact hdis i k (by omega) hk (by omega) x hxp hy
        have hmem : ∀ v, v ∈ acc ++ a[k] ↔ Comes ll v ∧ ∃ p ∈ a.take (k + 1), v ∈ p := fun v => by
          rw [List.mem_append, g2]
          constructor
          · rintro (⟨h1, p, hp, hv⟩ | h)
            · exact ⟨h1, p, by rw [List.take_succ_eq_append_getElem hk]; exact List.mem_append_left _ hp, hv⟩
            · exact ⟨hb1 rfl v h, a[k], by rw [List.take_succ_eq_append_getElem hk]; exact List.mem_append_right _ (List.mem_singleton.2 rfl), h⟩
          · rintro ⟨h1, p, hp, hv⟩
            rw [List.take_succ_eq_append_getElem hk] at hp
            rcases List.mem_append.1 hp with h | h
            · exact .inl ⟨h1, p, h, hv⟩
            · rw [List.mem_singleton.1 h] at hv; exact .inr hv
        have hlen2 : (acc ++ a[k]).length ≤ 1000 := by
          have h := List.Nodup.length_le_of_subset (l₂ := (List.range ll.length).map fun k : Nat => (k : Int)) hnd (fun v hv => by
            obtain ⟨⟨c0, c1, _⟩, _⟩ := (hmem v).1 hv
            exact List.mem_map.2 ⟨v.toNat, List.mem_range.2 (by omega), by omega⟩)
          have h2 : ((List.range ll.length).map fun k : Nat => (k : Int)).length = ll.length := by simp
          omega
        refine ⟨acc ++ a[k], ?_, hnd, hmem, hlen2⟩
        rw [cond_true, app_ok (by rw [List.length_append] at hlen2; omega)]
      | false =>
        refine ⟨acc, rfl, g1, fun v => ?_, g3⟩
        rw [g2]
        constructor
        · rintro ⟨h1, p, hp, hv⟩
          exact ⟨h1, p, by rw [List.take_succ_eq_append_getElem hk]; exact List.mem_append_left _ hp, hv⟩
        · rintro ⟨h1, p, hp, hv⟩
          rw [List.take_succ_eq_append_getElem hk] at hp
          rcases List.mem_append.1 hp with h | h
          · exact ⟨h1, p, h, hv⟩
          · rw [List.mem_singleton.1 h] at hv; exact absurd h1 (hb2 rfl v hv))
  rw [List.take_length] at o2
  rw [eo, Option.bind_some, need_ok (by omega)]
  refine ⟨sortI o, rfl, sortI_up o1, fun j => ?_, by rw [show (sortI o).length = o.length from List.length_mergeSort _]; exact o3⟩
  rw [mem_sortI, o2]
  constructor
  · exact fun h => h.1
  · exact fun h => ⟨h, (ha.cover j).1 ⟨h.1, h.2.1⟩⟩
theorem refLoops_ok {ll : List (List Int)} (hn : ll.length ≤ 1000) (hll : ∀ l ∈ ll, l.length ≤ 1073741824) : ∃ o, tronageref12_Loops_D ll = some o ∧ o.Pairwise (· < ·) ∧ (∀ j, j ∈ o ↔ Comes ll j) := by
  unfold tronageref12_Loops_D
  obtain ⟨l, el, l1, l2, l3⟩ := forS_filter (f := fun i_z2 (z2 : List Int) =>
    (loop (σ := (Int × Bool)) (β := Bool) ((0 : Int), false) fun z4 =>
      (idx ll i_z2).bind fun e37 =>
      cond (decide (z4.1 < (((List.length e37) : Nat) : Int)))
      ((idx ll i_z2).bind fun e49 =>
        (idx e49 z4.1).bind fun e61 =>
        (cond (decide (e61 ≥ (0 : Int)))
        (some (decide (e61 < (((List.length ll) : Nat) : Int))))
        (some false)).bind fun z11 =>
        (cond z11
        ((tronageref12_Reach_D ll (((List.length ll) : Nat) : Int) e61).bind fun t13 =>
          (cond z4.2
          (some true)
          ((idx t13 i_z2).bind fun e90 =>
            some e90)).bind fun z14 =>
          some z14)
        (some z4.2)).bind fun z12 =>
        some (Step.next ((IntKind.wrap .i64 (z4.1 + (1 : Int))), z12)))
      (some (Step.done z4.2))).bind fun z3 =>
    (cond z3
    ((app z2 ([i_z2] : List Int)).bind fun t19 =>
      some t19)
    (some z2)).bind fun z17 =>
    some z17) (n := ll.length) (by omega) (fun k => Comes ll (k : Int)) (fun i acc hi ha => by
      have hlen := hll _ (List.getElem_mem hi)
      have hbz : bz ll (i : Int) = ll[i] := by unfold bz; rw [idx_lt hi]; rfl
      obtain ⟨b, eb, hb⟩ := loop_inv (f := fun (z4 : Int × Bool) =>
        (idx ll (i : Int)).bind fun e37 =>
        cond (decide (z4.1 < (((List.length e37) : Nat) : Int)))
        ((idx ll (i : Int)).bind fun e49 =>
          (idx e49 z4.1).bind fun e61 =>
          (cond (decide (e61 ≥ (0 : Int)))
          (some (decide (e61 < (((List.length ll) : Nat) : Int))))
          (some false)).bind fun z11 =>
          (cond z11
          ((tronageref12_Reach_D ll (((List.length ll) : Nat) : Int) e61).bind fun t13 =>
            (cond z4.2
            (some true)
            ((idx t13 (i : Int)).bind fun e90 =>
              some e90)).bind fun z14 =>
            some z14)
          (some z4.2)).bind fun z12 =>
          some (Step.next (β := Bool) ((IntKind.wrap .i64 (z4.1 + (1 : Int))), z12)))
        (some (Step.done z4.2)))
        (fun z => ∃ k : Nat, z.1 = (k : Int) ∧ k ≤ ll[i].length ∧ (z.2 = true ↔ ∃ to ∈ ll[i].take k, (0 ≤ to ∧ to < (ll.length : Int)) ∧ Reach ll (ll.length : Int) to i)) (fun z => (ll[i].length - z.1).toNat)
        (fun b => b = true ↔ ∃ to ∈ ll[i], (0 ≤ to ∧ to < (ll.length : Int)) ∧ Reach ll (ll.length : Int) to i) (fun z ⟨k, ek, hk, w⟩ => by
          obtain ⟨k4, b4⟩ := z
          dsimp only at ek w
          subst ek
          dsimp only
          rw [idx_lt hi, Option.bind_some]
          by_cases hkl : k < ll[i].length
          · left
            rw [decide_eq_true (by omega), cond_true, Option.bind_some, idx_lt hkl, Option.bind_some]
            obtain ⟨to, hto⟩ : ∃ to, ll[i][k] = to := ⟨_, rfl⟩
            rw [hto]
            have hfin : ∀ o : Bool, (o = true ↔ b4 = true ∨ ((0 ≤ to ∧ to < (ll.length : Int)) ∧ Reach ll (ll.length : Int) to i)) →
                ∃ s' : Int × Bool, some (Step.next (β := Bool) ((IntKind.wrap .i64 ((k : Int) + (1 : Int))), o)) = some (Step.next s') ∧ (∃ k : Nat, s'.1 = (k : Int) ∧ k ≤ ll[i].length ∧ (s'.2 = true ↔ ∃ to ∈ ll[i].take k, (0 ≤ to ∧ to < (ll.length : Int)) ∧ Reach ll (ll.length : Int) to i)) ∧ ((ll[i].length : Int) - s'.1).toNat < ((ll[i].length : Int) - (k : Int)).toNat := fun o h => by
              rw [w64i (by omega)]
              refine ⟨_, rfl, ⟨k + 1, rfl, hkl, ?_⟩, by dsimp only; omega⟩
              dsimp only
              rw [h, w, List.take_succ_eq_append_getElem hkl]
              constructor
              · rintro (⟨t, h1, h2⟩ | h2)
                · exact ⟨t, List.mem_append_left _ h1, h2⟩
                · exact ⟨to, List.mem_append_right _ (List.mem_singleton.2 hto.symm), h2⟩
              · rintro ⟨t, h1, h2⟩
                rcases List.mem_append.1 h1 with g | g
                · exact .inl ⟨t, g, h2⟩
                · have g := List.mem_singleton.1 g
                  rw [hto] at g
                  subst g
                  exact .inr h2
            by_cases t0 : to ≥ 0
            · by_cases t1 : to < (ll.length : Int)
              · obtain ⟨r, er, lr, pr⟩ := reach_ok (ll := ll) (n := (ll.length : Int)) (at_ := to) t0 t1 (by omega) hll (by omega)
                rw [decide_eq_true t0, cond_true, decide_eq_true t1, Option.bind_some, cond_true, er, Option.bind_some, idx_bv (r := r) (v := (i : Int)) (by omega) (by omega)]
                cases b4 with
                | true => exact hfin true ⟨fun _ => .inl rfl, fun _ => rfl⟩
                | false =>
                  refine hfin (bv r (i : Int)) ?_
                  rw [pr]
                  exact ⟨fun h => .inr ⟨⟨t0, t1⟩, h⟩, fun h => h.elim (fun g => by cases g) fun g => g.2⟩
              · rw [decide_eq_true t0, cond_true, decide_eq_false t1, Option.bind_some, cond_false]
                exact hfin b4 ⟨.inl, fun h => h.elim id fun g => absurd g.1.2 t1⟩
            · rw [decide_eq_false t0, cond_false, Option.bind_some, cond_false]
              exact hfin b4 ⟨.inl, fun h => h.elim id fun g => absurd g.1.1 t0⟩
          · right
            rw [decide_eq_false (by omega), cond_false]
            refine ⟨_, rfl, ?_⟩
            rw [w, List.take_of_length_le (by omega)]) (s := ((0 : Int), false)) ⟨0, rfl, Nat.zero_le _, by simp⟩
      rw [eb, Option.bind_some]
      have hc : b = true ↔ Comes ll (i : Int) := by
        rw [hb]
        constructor
        · rintro ⟨to, h1, h2, h3⟩
          exact ⟨by omega, by omega, to, (from_iff (by omega)).2 ⟨by rw [hbz]; exact h1, h2⟩, h3⟩
        · rintro ⟨_, _, to, h1, h2⟩
          obtain ⟨h3, h4⟩ := (from_iff (by omega)).1 h1
          exact ⟨to, by rw [← hbz]; exact h3, h4, h2⟩
      cases b with
      | true => left; refine ⟨hc.1 rfl, ?_⟩; rw [cond_true, app1 (by omega)]; rfl
      | false => right; exact ⟨fun h => (by have := hc.2 h; cases this), rfl⟩)
  rw [el]
  refine ⟨l, rfl, l1, fun j => ?_⟩
  rw [l2]
  constructor
  · rintro ⟨k, _, rfl, h⟩; exact h
  · intro h
    have h0 := h.1
    have h1 := h.2.1
    refine ⟨j.toNat, by omega, by omega, ?_⟩
    rw [Int.toNat_of_nonneg h0]
    exact h
end Go.Proofs.YtbpbfoemghcfaaaDoor

/-
  DIGRAPH, PLAIN: the chapter's examples; DigraphSolves, DigraphParts, DigraphCloses, DigraphLeast.
  Conditions: none.
-/
namespace Go.Proofs.YtbpbfoemghcfaaaDoor
open Go Go.Eng
set_option linter.unusedVariables false

/-! ## the examples -/
abbrev exE : List (List Int) := [[1], [0, 2], []]
theorem ex0 (y : Int) : y ∈ fromD exE 0 3 ↔ y = 1 := by
  rw [show fromD exE 0 3 = [1] by decide]; simp
theorem ex1 (y : Int) : y ∈ fromD exE 1 3 ↔ y = 0 ∨ y = 2 := by
  rw [show fromD exE 1 3 = [0, 2] by decide]; simp
theorem ex2 (y : Int) : y ∈ fromD exE 2 3 ↔ False := by
  rw [show fromD exE 2 3 = [] by decide]; simp
theorem exR {x y : Int} (hx : x = 0 ∨ x = 1) : Reach exE 3 x y ↔ y = 0 ∨ y = 1 ∨ y = 2 := by
  have s01 : Reach exE 3 0 1 := .one ((ex0 _).2 rfl)
  have s10 : Reach exE 3 1 0 := .one ((ex1 _).2 (.inl rfl))
  have s12 : Reach exE 3 1 2 := .one ((ex1 _).2 (.inr rfl))
  constructor
  · intro h
    exact h.closed (D := fun v => v = 0 ∨ v = 1 ∨ v = 2) (fun v w hv hw => by
      rcases hv with rfl | rfl | rfl
      · exact .inr (.inl ((ex0 _).1 hw))
      · rcases (ex1 _).1 hw with h | h
        · exact .inl h
        · exact .inr (.inr h)
      · exact ((ex2 _).1 hw).elim) (by omega)
  · rcases hx with rfl | rfl
    · rintro (rfl | rfl | rfl)
      · exact .refl _
      · exact s01
      · exact s01.trans s12
    · rintro (rfl | rfl | rfl)
      · exact s10
      · exact .refl _
      · exact s12
theorem exR2 {y : Int} : Reach exE 3 2 y ↔ y = 2 := by
  constructor
  · intro h
    exact h.closed (D := fun v => v = 2) (fun v w hv hw => by
      have hv : v = 2 := hv
      subst hv
      exact ((ex2 _).1 hw).elim) rfl
  · rintro rfl; exact .refl _
abbrev exB : List (List Int) := [[5], [6], [7]]
theorem exBz {z : Int} {j : Int} : j ∈ bz exB z ↔ (z = 0 ∧ j = 5) ∨ (z = 1 ∧ j = 6) ∨ (z = 2 ∧ j = 7) := by
  by_cases h : z = 0 ∨ z = 1 ∨ z = 2
  · rcases h with rfl | rfl | rfl
    · rw [show bz exB 0 = [5] by decide]; simp
    · rw [show bz exB 1 = [6] by decide]; simp
    · rw [show bz exB 2 = [7] by decide]; simp
  · rw [bz_out (by simp; omega)]
    simp
    omega
theorem three_ext {α : Type} {o : List α} {a b c : α} (h : o.length = 3) (h0 : o[0]? = some a) (h1 : o[1]? = some b) (h2 : o[2]? = some c) : o = [a, b, c] := by
  match o, h with
  | [x, y, z], _ =>
    simp at h0 h1 h2
    rw [h0, h1, h2]
theorem some_at {α : Type} {o : List α} {k : Nat} (h : k < o.length) : ∃ x, o[k]? = some x := ⟨o[k], List.getElem?_eq_getElem h⟩
theorem ex_parts : AllParts exE 3 [[0, 1], [2]] := by
  have h01 : ∀ v, v = 0 ∨ v = 1 → ∀ z, z ∈ ([0, 1] : List Int) ↔ Reach exE 3 v z ∧ Reach exE 3 z v := fun v hv z => by
    rw [exR hv]
    constructor
    · intro h
      have h : z = 0 ∨ z = 1 := by simpa using h
      exact ⟨by omega, (exR h).2 (by omega)⟩
    · rintro ⟨rfl | rfl | rfl, h⟩
      · simp
      · simp
      · have := exR2.1 h; omega
  refine ⟨?_, ?_, by decide⟩
  · intro p hp
    have hp : p = [0, 1] ∨ p = [2] := by simpa using hp
    rcases hp with rfl | rfl
    · refine ⟨by simp, by decide, by decide, fun v hv z => h01 v (by simpa using hv) z⟩
    · refine ⟨by simp, by decide, by decide, fun v hv z => ?_⟩
      have hv : v = 2 := by simpa using hv
      subst hv
      rw [exR2]
      constructor
      · intro h
        have h : z = 2 := by simpa using h
        rw [h]; exact ⟨rfl, .refl _⟩
      · rintro ⟨rfl, _⟩; simp
  · intro v
    constructor
    · rintro ⟨g0, g1⟩
      by_cases h : v = 2
      · exact ⟨[2], by simp, by simp [h]⟩
      · exact ⟨[0, 1], by simp, by simp; omega⟩
    · rintro ⟨p, hp, hv⟩
      have hp : p = [0, 1] ∨ p = [2] := by simpa using hp
      rcases hp with rfl | rfl
      · have hv : v = 0 ∨ v = 1 := by simpa using hv
        omega
      · have hv : v = 2 := by simpa using hv
        omega
theorem awake_ok : tronagelaw12_awake_D = some true := by
  unfold tronagelaw12_awake_D
  obtain ⟨o, eo, lo, po⟩ := solved_ok (ll := exE) (base := exB) (wide := 9) (by decide) (by decide) (by decide) (by decide) (by decide)
  have h012 : ∀ (k : Int) , k = 0 ∨ k = 1 → ∀ j, Gets exE exB 9 k j ↔ j ∈ ([5, 6, 7] : List Int) := fun k hk j => by
    unfold Gets
    rw [show ((exB.length : Nat) : Int) = 3 from rfl]
    constructor
    · rintro ⟨_, _, z, h1, h2⟩
      rcases exBz.1 h2 with ⟨_, rfl⟩ | ⟨_, rfl⟩ | ⟨_, rfl⟩ <;> simp
    · intro h
      have h : j = 5 ∨ j = 6 ∨ j = 7 := by simpa using h
      rcases h with rfl | rfl | rfl
      · exact ⟨by decide, by decide, 0, (exR hk).2 (by decide), exBz.2 (by decide)⟩
      · exact ⟨by decide, by decide, 1, (exR hk).2 (by decide), exBz.2 (by decide)⟩
      · exact ⟨by decide, by decide, 2, (exR hk).2 (by decide), exBz.2 (by decide)⟩
  have h2 : ∀ j, Gets exE exB 9 2 j ↔ j ∈ ([7] : List Int) := fun j => by
    unfold Gets
    rw [show ((exB.length : Nat) : Int) = 3 from rfl]
    constructor
    · rintro ⟨_, _, z, h1, h2⟩
      have := exR2.1 h1
      subst this
      rcases exBz.1 h2 with ⟨h, _⟩ | ⟨h, _⟩ | ⟨_, rfl⟩
      · cases h
      · cases h
      · simp
    · intro h
      have h : j = 7 := by simpa using h
      subst h
      exact ⟨by decide, by decide, 2, .refl _, exBz.2 (by decide)⟩
  have ho : o = [[5, 6, 7], [5, 6, 7], [7]] := by
    have lo' : o.length = 3 := lo
    obtain ⟨a, ha⟩ := some_at (o := o) (k := 0) (by omega)
    obtain ⟨b, hb⟩ := some_at (o := o) (k := 1) (by omega)
    obtain ⟨c, hc⟩ := some_at (o := o) (k := 2) (by omega)
    rw [three_ext lo' ha hb hc]
    have e1 : a = [5, 6, 7] := asc_ext (po 0 a ha).1 (by decide) fun j => ((po 0 a ha).2.2 j).trans (h012 0 (.inl rfl) j)
    have e2 : b = [5, 6, 7] := asc_ext (po 1 b hb).1 (by decide) fun j => ((po 1 b hb).2.2 j).trans (h012 1 (.inr rfl) j)
    have e3 : c = [7] := asc_ext (po 2 c hc).1 (by decide) fun j => ((po 2 c hc).2.2 j).trans (h2 j)
    rw [e1, e2, e3]
  obtain ⟨a, ea, ha, la⟩ := parts_ok (ll := exE) (by decide) (by decide)
  have ha' : a = [[0, 1], [2]] := parts_ext ha ex_parts
  obtain ⟨l, el, l1, l2, l3⟩ := loops_ok (ll := exE) (by decide) (by decide)
  have hl : l = [0, 1] := asc_ext l1 (by decide) fun j => by
    rw [l2]
    unfold Comes
    rw [show ((exE.length : Nat) : Int) = 3 from rfl]
    constructor
    · rintro ⟨g0, g1, to, h1, h2⟩
      by_cases h : j = 2
      · subst h; exact ((ex2 _).1 h1).elim
      · simp; omega
    · intro h
      have h : j = 0 ∨ j = 1 := by simpa using h
      rcases h with rfl | rfl
      · exact ⟨by decide, by decide, 1, (ex0 _).2 rfl, (exR (.inr rfl)).2 (by decide)⟩
      · exact ⟨by decide, by decide, 0, (ex1 _).2 (.inl rfl), (exR (.inl rfl)).2 (by decide)⟩
  rw [eo, Option.bind_some, ho, ea, el, ha', hl]
  dsimp only
  rw [cond_true, lists_refl (by decide) (by decide)]
  simp only [Option.bind_some, cond_true]
  rw [lists_refl (by decide) (by decide)]
  simp only [Option.bind_some, cond_true]
  rw [ints_refl (by decide)]
  rfl
theorem few_small {ll base : List (List Int)} (H : Few ll base) : (∀ l ∈ ll, l.length ≤ 1073741824) ∧ (∀ l ∈ base, l.length ≤ 1073741824) ∧ ll.length ≤ 1000 ∧ base.length ≤ 1000 :=
  ⟨fun l hl => by have := H.el l hl; omega, fun l hl => by have := H.bl l hl; omega, by have := H.e; omega, by have := H.b; omega⟩
/-! ## the laws -/
theorem solves_law (ll base : List (List Int)) (wide : Int) : tronagelaw12_DigraphSolves_D ll base wide = some true := by
  unfold tronagelaw12_DigraphSolves_D
  rw [awake_ok, Option.bind_some]
  obtain ⟨b, eb, hb⟩ := few_ok ll base
  rw [eb, Option.bind_some]
  cases b with
  | false => rfl
  | true =>
    by_cases w0 : wide < 0
    · rw [decide_eq_true w0]; rfl
    · by_cases w1 : wide > 100
      · rw [decide_eq_false w0, decide_eq_true w1]; rfl
      · rw [decide_eq_false w0, decide_eq_false w1]
        obtain ⟨s1, s2, s3, s4⟩ := few_small (hb rfl)
        obtain ⟨o, eo, lo, po⟩ := solved_ok (ll := ll) (base := base) (wide := wide) (by omega) (by omega) s4 s1 s2
        simp only [Bool.not_true, cond_false, Option.bind_some]
        rw [eo]
        simp only [Bool.not_true, cond_false, Option.bind_some]
        obtain ⟨s, es, _⟩ := forN_all (f := fun i_z6 (z6 : Unit) =>
          (idx o i_z6).bind fun e54 =>
          (tronageref12_Solve_D ll base i_z6 wide).bind fun t9 =>
          (tronageref01_Ints_D e54 t9).bind fun t10 =>
          cond (!t10)
          (some (Step.done false))
          (some (Step.next ()))) (β := Bool) (n := o.length) (fun _ _ => True) (by omega) (s := ()) trivial (fun k s hk _ => ⟨(), by
            obtain ⟨l, el, l1, l2⟩ := refSolve_ok (ll := ll) (base := base) (at_ := (k : Int)) (wide := wide) (by omega) (by omega) (by omega) (by omega) s4 s1 (by omega) s2
            obtain ⟨p1, p2, p3⟩ := po k _ (List.getElem?_eq_getElem hk)
            have e : o[k] = l := asc_ext p1 l1 fun j => (p3 j).trans (l2 j).symm
            rw [idx_lt hk, Option.bind_some, el, Option.bind_some, ← e, ints_refl (by omega)]
            rfl, trivial⟩)
        rw [es]
        rfl
theorem parts_law (ll : List (List Int)) : tronagelaw12_DigraphParts_D ll = some true := by
  unfold tronagelaw12_DigraphParts_D
  rw [awake_ok, Option.bind_some]
  obtain ⟨b, eb, hb⟩ := few_ok ll []
  rw [eb, Option.bind_some]
  cases b with
  | false => rfl
  | true =>
    obtain ⟨s1, s2, s3, s4⟩ := few_small (hb rfl)
    obtain ⟨a, ea, ha, la⟩ := parts_ok s3 s1
    obtain ⟨a', ea', ha'⟩ := refParts_ok s3 s1
    obtain ⟨l, el, l1, l2, l3⟩ := loops_ok s3 s1
    obtain ⟨l', el', l1', l2'⟩ := refLoops_ok s3 s1
    have e1 : a' = a := parts_ext ha' ha
    have e2 : l' = l := asc_ext l1' l1 fun j => (l2' j).trans (l2 j).symm
    simp only [Bool.not_true, cond_false]
    rw [ea, el, ea', el', e1, e2]
    simp only [Option.bind_some, cond_true]
    rw [lists_refl (by omega) (fun x hx => by have := part_len (ha.parts x hx); omega)]
    simp only [Option.bind_some, cond_true]
    rw [ints_refl (by omega)]
    rfl
theorem w64p {k : Nat} (h : k < 1000000000000) : IntKind.wrap .i64 ((k : Int) + (1 : Int)) = ((k + 1 : Nat) : Int) := w64i h
/-- A loop over a list that is never left. -/
theorem loop_over {β : Type} {f : Int → Option (Step Int (Step Unit β))} (n : Nat) (hn : n < 1000000000) (hs : ∀ k : Nat, k < n → f (k : Int) = some (Step.next ((k + 1 : Nat) : Int))) (he : f (n : Int) = some (Step.done (Step.next ()))) : loop (0 : Int) f = some (Step.next ()) := by
  obtain ⟨b, eb, hb⟩ := loop_inv (f := f) (fun z => ∃ k : Nat, z = (k : Int) ∧ k ≤ n) (fun z => (n - z).toNat) (fun b => b = Step.next ()) (fun z ⟨k, e, hk⟩ => by
    subst e
    by_cases h : k < n
    · exact .inl ⟨_, hs k h, ⟨k + 1, rfl, h⟩, by omega⟩
    · have : k = n := by omega
      subst this
      exact .inr ⟨_, he, rfl⟩) (s := (0 : Int)) ⟨0, rfl, Nat.zero_le _⟩
  rw [eb, hb]
theorem bz_lt {base : List (List Int)} {k : Nat} (h : k < base.length) : bz base (k : Int) = base[k] := by unfold bz; rw [idx_lt h]; rfl
theorem closes_law (ll base : List (List Int)) : tronagelaw12_DigraphCloses_D ll base = some true := by
  unfold tronagelaw12_DigraphCloses_D
  rw [awake_ok, Option.bind_some]
  obtain ⟨b, eb, hb⟩ := few_ok ll base
  rw [eb, Option.bind_some]
  cases b with
  | false => rfl
  | true =>
    obtain ⟨s1, s2, s3, s4⟩ := few_small (hb rfl)
    obtain ⟨o, eo, lo, po⟩ := solved_ok (ll := ll) (base := base) (wide := 50) (by decide) (by decide) s4 s1 s2
    have hol : ∀ l ∈ o, l.length ≤ 1073741824 := fun l hl => by
      obtain ⟨k, hk⟩ := List.getElem?_of_mem hl
      exact (po k l hk).2.1
    obtain ⟨m, em, lm, pm⟩ := solved_ok (ll := ll) (base := o) (wide := 50) (by decide) (by decide) (by omega) s1 hol
    have hget : ∀ k (hk : k < o.length), ∀ j, j ∈ o[k] ↔ Gets ll base 50 k j := fun k hk => (po k _ (List.getElem?_eq_getElem hk)).2.2
    have hmo : m = o := List.ext_getElem (by omega) fun k h1 h2 => by
      obtain ⟨q1, q2, q3⟩ := pm k _ (List.getElem?_eq_getElem h1)
      obtain ⟨p1, p2, p3⟩ := po k _ (List.getElem?_eq_getElem h2)
      refine asc_ext q1 p1 fun j => ?_
      rw [q3, p3]
      unfold Gets
      rw [lo]
      constructor
      · rintro ⟨g0, g1, z, hz1, hz2⟩
        have hz : 0 ≤ z ∧ z < (o.length : Int) := by
          by_cases hz : 0 ≤ z ∧ z < (o.length : Int)
          · exact hz
          · rw [bz_out (by omega)] at hz2; cases hz2
        have hlt : z.toNat < o.length := by omega
        rw [← Int.toNat_of_nonneg hz.1, bz_lt hlt, hget _ hlt, Int.toNat_of_nonneg hz.1] at hz2
        obtain ⟨_, _, z', h3, h4⟩ := hz2
        exact ⟨g0, g1, z', hz1.trans h3, h4⟩
      · rintro ⟨g0, g1, z, hz1, hz2⟩
        have hlt : k < o.length := h2
        refine ⟨g0, g1, k, .refl _, ?_⟩
        rw [bz_lt hlt, hget _ hlt]
        exact ⟨g0, g1, z, hz1, hz2⟩
    simp only [Bool.not_true, cond_false]
    rw [eo]
    simp only [Option.bind_some, Bool.not_true, cond_false]
    obtain ⟨s, es, _⟩ := forN_all (f := fun i_z5 (z5 : Unit) =>
        (loop (σ := Int) (β := Step Unit Bool) (0 : Int) fun z7 =>
          (idx base i_z5).bind fun e54 =>
          cond (decide (z7 < (((List.length e54) : Nat) : Int)))
          (((idx base i_z5).bind fun e68 =>
            (idx e68 z7).bind fun e80 =>
            cond (decide (e80 ≥ (0 : Int)))
            ((idx base i_z5).bind fun e89 =>
              (idx e89 z7).bind fun e101 =>
              cond (decide (e101 < (50 : Int)))
              ((idx o i_z5).bind fun e110 =>
                (idx base i_z5).bind fun e122 =>
                (idx e122 z7).bind fun e134 =>
                (tronageref01_In_D e110 e134).bind fun t25 =>
                some (!t25))
              (some false))
            (some false)).bind fun z10 =>
            cond z10
            (some (Step.done (Step.done false)))
            (some (Step.next (IntKind.wrap .i64 (z7 + (1 : Int))))))
          (some (Step.done (Step.next ())))).bind fun e_z6 => match e_z6 with
        | .next z6 =>
          (loop (σ := Int) (β := Step Unit Bool) (0 : Int) fun z27 =>
            (cond (decide (i_z5 < (((List.length ll) : Nat) : Int)))
            ((idx ll i_z5).bind fun e172 =>
              some (decide (z27 < (((List.length e172) : Nat) : Int))))
            (some false)).bind fun z28 =>
            cond z28
            ((idx ll i_z5).bind fun e189 =>
              (idx e189 z27).bind fun e201 =>
              (cond (decide (e201 ≥ (0 : Int)))
              (cond (decide (e201 < (((List.length o) : Nat) : Int)))
                ((idx o e201).bind fun e212 =>
                  (idx o i_z5).bind fun e224 =>
                  (tronagelaw12_subset_D e212 e224).bind fun t40 =>
                  some (!t40))
                (some false))
              (some false)).bind fun z35 =>
              cond z35
              (some (Step.done (Step.done false)))
              (some (Step.next (IntKind.wrap .i64 (z27 + (1 : Int))))))
            (some (Step.done (Step.next ())))).bind fun e_z26 => match e_z26 with
          | .next z26 =>
            some (Step.next ())
          | .done q247 => some (Step.done q247)
        | .done q248 => some (Step.done q248)) (β := Bool) (n := o.length) (fun _ _ => True) (by omega) (s := ()) trivial (fun i s hi _ => ⟨(), by
          have hib : i < base.length := by omega
          have hlb := s2 _ (List.getElem_mem hib)
          have hlo := hol _ (List.getElem_mem hi)
          rw [loop_over (base[i].length) (by have := (hb rfl).bl _ (List.getElem_mem hib); omega) (fun k hk => by
            rw [idx_lt hib]
            simp only [Option.bind_some]
            rw [decide_eq_true (by omega), cond_true, idx_lt hk]
            simp only [Option.bind_some]
            obtain ⟨x, hx⟩ : ∃ x, base[i][k] = x := ⟨_, rfl⟩
            rw [hx]
            have hm : x ∈ base[i] := by rw [← hx]; exact List.getElem_mem hk
            rw [w64p (by omega)]
            by_cases x0 : x ≥ 0
            · by_cases x1 : x < 50
              · rw [decide_eq_true x0, decide_eq_true x1, idx_lt hi]
                simp only [cond_true, Option.bind_some]
                rw [in_ok (by omega), decide_eq_true ((hget i hi x).2 ⟨x0, x1, i, .refl _, by rw [bz_lt hib]; exact hm⟩)]
                rfl
              · rw [decide_eq_true x0, decide_eq_false x1]; rfl
            · rw [decide_eq_false x0]; rfl) (by
            rw [idx_lt hib]
            simp only [Option.bind_some]
            rw [decide_eq_false (by omega), cond_false])]
          simp only [Option.bind_some]
          by_cases hil : i < ll.length
          · have hl10 := (hb rfl).el _ (List.getElem_mem hil)
            rw [loop_over (ll[i].length) (by omega) (fun k hk => by
              rw [decide_eq_true (by omega), cond_true, idx_lt hil]
              simp only [Option.bind_some]
              rw [decide_eq_true (by omega), cond_true, idx_lt hk]
              simp only [Option.bind_some]
              obtain ⟨x, hx⟩ : ∃ x, ll[i][k] = x := ⟨_, rfl⟩
              rw [hx]
              have hm : x ∈ ll[i] := by rw [← hx]; exact List.getElem_mem hk
              rw [w64p (by omega)]
              by_cases x0 : x ≥ 0
              · by_cases x1 : x < (o.length : Int)
                · have hxl : x.toNat < o.length := by omega
                  have hix : idx o x = some o[x.toNat] := idx_get x0 hxl
                  rw [decide_eq_true x0, decide_eq_true x1, idx_lt hi, hix]
                  simp only [cond_true, Option.bind_some]
                  rw [subset_ok (by have := hol _ (List.getElem_mem hxl); omega) (by omega) (fun j hj => by
                    rw [hget _ hxl, Int.toNat_of_nonneg x0] at hj
                    obtain ⟨g0, g1, z, h3, h4⟩ := hj
                    rw [hget i hi]
                    exact ⟨g0, g1, z, .step ((from_iff (by omega)).2 ⟨by rw [bz_lt hil]; exact hm, x0, by omega⟩) h3, h4⟩)]
                  rfl
                · rw [decide_eq_true x0, decide_eq_false x1]; rfl
              · rw [decide_eq_false x0]; rfl) (by
              rw [decide_eq_true (by omega), cond_true, idx_lt hil]
              simp only [Option.bind_some]
              rw [decide_eq_false (by omega), cond_false])]
            rfl
          · rw [loop_over 0 (by decide) (fun k hk => by omega) (by rw [decide_eq_false (by omega)]; rfl)]
            rfl, trivial⟩)
    refine (bind_some' es _).trans ?_
    dsimp only
    rw [em, hmo]
    simp only [Option.bind_some, cond_true]
    rw [lists_refl (by omega) (fun x hx => by have := hol x hx; omega)]
    rfl
/-- A list without a number, as the law makes it. -/
theorem loop_filter {l : List Int} {x : Int} (hl : l.length ≤ 1000000) {i : Int} {L : List (List Int)} (hi : idx L i = some l) :
    (loop (σ := (Int × List Int)) (β := List Int) ((0 : Int), ([] : List Int)) fun z6 =>
        (idx L i).bind fun e57 =>
        cond (decide (z6.1 < (((List.length e57) : Nat) : Int)))
        ((idx L i).bind fun e69 =>
          (idx e69 z6.1).bind fun e81 =>
          (cond (e81 != x)
          ((idx L i).bind fun e93 =>
            (idx e93 z6.1).bind fun e105 =>
            (app z6.2 ([e105] : List Int)).bind fun t19 =>
            some t19)
          (some z6.2)).bind fun z13 =>
          some (Step.next ((IntKind.wrap .i64 (z6.1 + (1 : Int))), z13)))
        (some (Step.done z6.2))) = some (l.filter fun y => y != x) := by
  obtain ⟨b, eb, hb⟩ := loop_inv (f := fun (z6 : Int × List Int) =>
        (idx L i).bind fun e57 =>
        cond (decide (z6.1 < (((List.length e57) : Nat) : Int)))
        ((idx L i).bind fun e69 =>
          (idx e69 z6.1).bind fun e81 =>
          (cond (e81 != x)
          ((idx L i).bind fun e93 =>
            (idx e93 z6.1).bind fun e105 =>
            (app z6.2 ([e105] : List Int)).bind fun t19 =>
            some t19)
          (some z6.2)).bind fun z13 =>
          some (Step.next (β := List Int) ((IntKind.wrap .i64 (z6.1 + (1 : Int))), z13)))
        (some (Step.done z6.2))) (fun z => ∃ k : Nat, z.1 = (k : Int) ∧ k ≤ l.length ∧ z.2 = (l.take k).filter fun y => y != x) (fun z => (l.length - z.1).toNat) (fun b => b = l.filter fun y => y != x) (fun z ⟨k, ek, hk, e2⟩ => by
      obtain ⟨k6, acc⟩ := z
      dsimp only at ek e2
      subst ek
      subst e2
      dsimp only
      rw [hi]
      simp only [Option.bind_some]
      by_cases hkl : k < l.length
      · left
        rw [decide_eq_true (by omega), cond_true, idx_lt hkl]
        simp only [Option.bind_some]
        rw [w64p (by omega)]
        have hfl : ((l.take k).filter fun y => y != x).length ≤ k := Nat.le_trans (List.length_filter_le _ _) (by rw [List.length_take]; omega)
        cases hx : (l[k] != x) with
        | true =>
          rw [cond_true, app1 (by omega)]
          refine ⟨_, rfl, ⟨k + 1, rfl, hkl, ?_⟩, by dsimp only; omega⟩
          dsimp only
          rw [List.take_succ_eq_append_getElem hkl, List.filter_append, List.filter_cons, hx, if_pos rfl, List.filter_nil]
        | false =>
          rw [cond_false]
          refine ⟨_, rfl, ⟨k + 1, rfl, hkl, ?_⟩, by dsimp only; omega⟩
          dsimp only
          rw [List.take_succ_eq_append_getElem hkl, List.filter_append, List.filter_cons, hx]
          simp
      · right
        rw [decide_eq_false (by omega), cond_false]
        exact ⟨_, rfl, by rw [List.take_of_length_le (by omega)]⟩) (s := ((0 : Int), ([] : List Int))) ⟨0, rfl, Nat.zero_le _, by simp⟩
  rw [eb, hb]
theorem least_law (ll base : List (List Int)) (x : Int) : tronagelaw12_DigraphLeast_D ll base x = some true := by
  unfold tronagelaw12_DigraphLeast_D
  rw [awake_ok, Option.bind_some]
  obtain ⟨b, eb, hb⟩ := few_ok ll base
  rw [eb, Option.bind_some]
  cases b with
  | false => rfl
  | true =>
    obtain ⟨s1, s2, s3, s4⟩ := few_small (hb rfl)
    simp only [Bool.not_true, cond_false]
    obtain ⟨less, el, ll2, pl⟩ := forS_list (f := fun i_z4 (z4 : List (List Int)) =>
      (loop (σ := (Int × List Int)) (β := List Int) ((0 : Int), ([] : List Int)) fun z6 =>
        (idx base i_z4).bind fun e57 =>
        cond (decide (z6.1 < (((List.length e57) : Nat) : Int)))
        ((idx base i_z4).bind fun e69 =>
          (idx e69 z6.1).bind fun e81 =>
          (cond (e81 != x)
          ((idx base i_z4).bind fun e93 =>
            (idx e93 z6.1).bind fun e105 =>
            (app z6.2 ([e105] : List Int)).bind fun t19 =>
            some t19)
          (some z6.2)).bind fun z13 =>
          some (Step.next ((IntKind.wrap .i64 (z6.1 + (1 : Int))), z13)))
        (some (Step.done z6.2))).bind fun z5 =>
      (app z4 ([z5] : List (List Int))).bind fun t21 =>
      some t21) (n := base.length) (by omega) (fun k l => l = (bz base k).filter fun y => y != x) (fun k acc hk ha => by
        refine ⟨_, ?_, rfl⟩
        have := (hb rfl).bl _ (List.getElem_mem hk)
        rw [loop_filter (by omega) (idx_lt hk), Option.bind_some, app1 (by omega), bz_lt hk]
        rfl)
    rw [el, Option.bind_some]
    have hless : ∀ z : Int, bz less z = (bz base z).filter fun y => y != x := fun z => by
      by_cases hz : 0 ≤ z ∧ z < (base.length : Int)
      · have hlt : z.toNat < less.length := by omega
        have := pl z.toNat _ (List.getElem?_eq_getElem hlt)
        rw [← bz_lt hlt, Int.toNat_of_nonneg hz.1] at this
        exact this
      · rw [bz_out (by omega), bz_out (by omega)]; rfl
    obtain ⟨o, eo, lo, po⟩ := solved_ok (ll := ll) (base := base) (wide := 50) (by decide) (by decide) s4 s1 s2
    obtain ⟨m, em, lm, pm⟩ := solved_ok (ll := ll) (base := less) (wide := 50) (by decide) (by decide) (by omega) s1 (fun l hl => by
      obtain ⟨k, hk⟩ := List.getElem?_of_mem hl
      rw [pl k l hk]
      refine Nat.le_trans (List.length_filter_le _ _) ?_
      have hk' : k < base.length := by have := lt_of_some hk; omega
      rw [bz_lt hk']
      exact s2 _ (List.getElem_mem hk'))
    rw [eo, Option.bind_some, em, Option.bind_some]
    simp only [Bool.not_true, cond_false, Option.bind_some]
    have hlen50 : ∀ (k : Nat) (l : List Int), o[k]? = some l → l.length ≤ 50 := fun k l hk => by
      obtain ⟨p1, p2, p3⟩ := po k l hk
      have hnd : l.Nodup := p1.imp fun h => by omega
      have h := List.Nodup.length_le_of_subset (l₂ := (List.range 50).map fun k : Nat => (k : Int)) hnd (fun v hv => by
        obtain ⟨g0, g1, _⟩ := (p3 v).1 hv
        exact List.mem_map.2 ⟨v.toNat, List.mem_range.2 (by omega), by omega⟩)
      simpa using h
    obtain ⟨s, es, _⟩ := forN_all (f := fun i_z26 (z26 : Unit) =>
        (loop (σ := (Int × List Int)) (β := List Int) ((0 : Int), ([] : List Int)) fun z28 =>
          (idx o i_z26).bind fun e240 =>
          cond (decide (z28.1 < (((List.length e240) : Nat) : Int)))
          ((idx o i_z26).bind fun e252 =>
            (idx e252 z28.1).bind fun e264 =>
            (cond (e264 != x)
            ((idx o i_z26).bind fun e276 =>
              (idx e276 z28.1).bind fun e288 =>
              (app z28.2 ([e288] : List Int)).bind fun t41 =>
              some t41)
            (some z28.2)).bind fun z35 =>
            some (Step.next ((IntKind.wrap .i64 (z28.1 + (1 : Int))), z35)))
          (some (Step.done z28.2))).bind fun z27 =>
        (idx m i_z26).bind fun e327 =>
        (tronageref01_Ints_D e327 z27).bind fun t44 =>
        cond (!t44)
        (some (Step.done false))
        (some (Step.next ()))) (β := Bool) (n := o.length) (fun _ _ => True) (by omega) (s := ()) trivial (fun k s hk _ => ⟨(), by
          have hkm : k < m.length := by omega
          obtain ⟨p1, p2, p3⟩ := po k _ (List.getElem?_eq_getElem hk)
          obtain ⟨q1, q2, q3⟩ := pm k _ (List.getElem?_eq_getElem hkm)
          have h50 := hlen50 k _ (List.getElem?_eq_getElem hk)
          have e : m[k] = o[k].filter fun y => y != x := asc_ext q1 (p1.filter _) fun j => by
            rw [q3, List.mem_filter, p3]
            unfold Gets
            rw [ll2]
            constructor
            · rintro ⟨g0, g1, z, h1, h2⟩
              rw [hless, List.mem_filter] at h2
              exact ⟨⟨g0, g1, z, h1, h2.1⟩, h2.2⟩
            · rintro ⟨⟨g0, g1, z, h1, h2⟩, h3⟩
              exact ⟨g0, g1, z, h1, by rw [hless, List.mem_filter]; exact ⟨h2, h3⟩⟩
          rw [loop_filter (by omega) (idx_lt hk), Option.bind_some, idx_lt hkm, Option.bind_some, e, ints_refl (by have := List.length_filter_le (fun y => y != x) o[k]; omega)]
          rfl, trivial⟩)
    rw [es]
    rfl
end Go.Proofs.YtbpbfoemghcfaaaDoor

/-
  DIGRAPH: the laws over heaps: what D tells is true, so the call answers true; the table of de Bruijn's numbers as the row lists it.
  Conditions: the arguments' cells are there.
-/
namespace Go.Proofs.YtbpbfoemghcfaaaDoor
open Go Go.Eng
set_option linter.unusedVariables false

theorem glob_of {W : World} (hL : laidMetH Tryd.prog Rows.digraphSolvesRow.laid W) : Glob (snap W.heap) := by
  rw [MakeChecks.laidMetH_plain _ _ _ (by kernel_rfl)] at hL
  have h1 : laidMet Tryd.prog (("math/bits.deBruijn64tab", Lib.tabData .u8 (Lib.deBruijn64tab.map fun (z : Nat) => (z : Int))) :: []) W := hL
  have hg : Tryd.prog.globalNamed "math/bits.deBruijn64tab" = some 0 := by kernel_rfl
  have h2 := Lib.tabIs_of_head hg (by kernel_rfl) Tryd.underlying90 Tryd.underlying5 (by kernel_rfl) (by kernel_rfl) h1
  unfold Lib.TabIs World.var? at h2
  rw [hg, Option.bind_some] at h2
  cases hb : W.heap[0]? with
  | none => rw [hb] at h2; cases h2
  | some o =>
    rw [hb] at h2
    cases o with
    | cells cs t f =>
      refine ⟨t, f, ?_⟩
      show W.heap[0]? = _
      rw [hb]
      have h3 := Option.some.inj h2
      rw [h3, List.map_map]
      rfl
    | _ => cases h2
section
variable {h : Heap}
theorem rows_in {n : Nat} {p : Option Addr} {len cap : Nat} (hr : Reads Tryd.prog h n 22 [.slice p len cap]) : ∃ l, Ro.SliceIs (Ro.list (Ro.int .i64)) (snap h) (p, len, cap) l := by
  obtain ⟨l, h1, _, h2⟩ := slice_of (readsTo_slice Tryd.underlying22 (by kernel_rfl) (readsTo_slice Tryd.underlying28 (by kernel_rfl) (readsTo_int Tryd.underlying3))) hr
  exact ⟨l, h1⟩
theorem solves {n m : Nat} {p q : Option Addr} {len cap len' cap' : Nat} {x : Int} (gk : Glob (snap h)) (hr : Reads Tryd.prog h n 22 [.slice p len cap]) (hm : Reads Tryd.prog h m 22 [.slice q len' cap']) :
    CallsH Tryd.prog 3 [.slice p len cap, .slice q len' cap', .int .i64 x] h (Back (Truth h)) := by
  obtain ⟨l, h1⟩ := rows_in hr
  obtain ⟨l', h1'⟩ := rows_in hm
  exact truth_of (tronagelaw12_DigraphSolves_sim gk h1 h1' (St.start h) (solves_law l l' x))
theorem parts {n : Nat} {p : Option Addr} {len cap : Nat} (gk : Glob (snap h)) (hr : Reads Tryd.prog h n 22 [.slice p len cap]) :
    CallsH Tryd.prog 4 [.slice p len cap] h (Back (Truth h)) := by
  obtain ⟨l, h1⟩ := rows_in hr
  exact truth_of (tronagelaw12_DigraphParts_sim gk h1 (St.start h) (parts_law l))
theorem closes {n m : Nat} {p q : Option Addr} {len cap len' cap' : Nat} (gk : Glob (snap h)) (hr : Reads Tryd.prog h n 22 [.slice p len cap]) (hm : Reads Tryd.prog h m 22 [.slice q len' cap']) :
    CallsH Tryd.prog 5 [.slice p len cap, .slice q len' cap'] h (Back (Truth h)) := by
  obtain ⟨l, h1⟩ := rows_in hr
  obtain ⟨l', h1'⟩ := rows_in hm
  exact truth_of (tronagelaw12_DigraphCloses_sim gk h1 h1' (St.start h) (closes_law l l'))
theorem leasts {n m : Nat} {p q : Option Addr} {len cap len' cap' : Nat} {x : Int} (gk : Glob (snap h)) (hr : Reads Tryd.prog h n 22 [.slice p len cap]) (hm : Reads Tryd.prog h m 22 [.slice q len' cap']) :
    CallsH Tryd.prog 6 [.slice p len cap, .slice q len' cap', .int .i64 x] h (Back (Truth h)) := by
  obtain ⟨l, h1⟩ := rows_in hr
  obtain ⟨l', h1'⟩ := rows_in hm
  exact truth_of (tronagelaw12_DigraphLeast_sim gk h1 h1' (St.start h) (least_law l l' x))
end
end Go.Proofs.YtbpbfoemghcfaaaDoor

/-
  DIGRAPH, PLAIN: DigraphShared.
  Conditions: none.
-/
namespace Go.Proofs.YtbpbfoemghcfaaaDoor
open Go Go.Eng
set_option linter.unusedVariables false

theorem lv_replicate (n : Nat) (v : Int) : lv (List.replicate n (0 : Int)) v = 0 := by
  unfold lv idx
  split
  · rw [List.getElem?_replicate]
    split <;> rfl
  · rfl
open Classical in
theorem shared_law (ll base : List (List Int)) : tronagelaw12_DigraphShared_D ll base = some true := by
  unfold tronagelaw12_DigraphShared_D
  rw [awake_ok, Option.bind_some]
  obtain ⟨b, eb, hb⟩ := few_ok ll base
  rw [eb, Option.bind_some]
  cases b with
  | false => rfl
  | true =>
    simp only [Bool.not_true, cond_false, Option.bind_some]
    cases hne : (((List.length base : Nat) : Int) != ((List.length ll : Nat) : Int)) with
    | true => rfl
    | false =>
      have hbl : base.length = ll.length := by simp at hne; omega
      rw [cond_false]
      obtain ⟨s1, s2, s3, s4⟩ := few_small (hb rfl)
      obtain ⟨o, eo, lo, po⟩ := solved_ok (ll := ll) (base := base) (wide := 50) (by decide) (by decide) s4 s1 s2
      obtain ⟨a, ea, ha, la⟩ := parts_ok s3 s1
      obtain ⟨lp, el, l1, l2, l3⟩ := loops_ok s3 s1
      rw [eo, Option.bind_some, ea, Option.bind_some, el, Option.bind_some]
      simp only [Bool.not_true, cond_false]
      have hmk : mkRow ((List.length ll : Nat) : Int) (0 : Int) = some (List.replicate ll.length 0) := by unfold mkRow; rw [if_pos ⟨by omega, by omega⟩, Int.toNat_natCast]
      rw [hmk, Option.bind_some]
      have hget : ∀ v : Int, 0 ≤ v → v < (ll.length : Int) → ∃ l, idx o v = some l ∧ l.Pairwise (· < ·) ∧ l.length ≤ 1073741824 ∧ ∀ j, j ∈ l ↔ Gets ll base 50 v j := fun v g0 g1 => by
        have hlt : v.toNat < o.length := by omega
        have := po v.toNat _ (List.getElem?_eq_getElem hlt)
        rw [Int.toNat_of_nonneg g0] at this
        exact ⟨_, idx_get g0 hlt, this⟩
      have hdis : ∀ (i j : Nat) (hi : i < a.length) (hj : j < a.length), i ≠ j → ∀ v ∈ a[i], v ∉ a[j] := fun i j hi hj hij v h1 h2 => by
        have e := part_eq (ha.parts _ (List.getElem_mem hi)) (ha.parts _ (List.getElem_mem hj)) h1 h2
        have h3 := List.pairwise_iff_getElem.1 ha.up
        rcases Nat.lt_trichotomy i j with g | g | g
        · have := h3 i j (by simp [hi]) (by simp [hj]) g
          rw [List.getElem_map, List.getElem_map, e] at this
          omega
        · exact hij g
        · have := h3 j i (by simp [hj]) (by simp [hi]) g
          rw [List.getElem_map, List.getElem_map, e] at this
          omega
      obtain ⟨seen, es, hs1, hs2⟩ := forN_all (f := fun i_z9 (z9 : List Int) =>
        (loop (σ := (Int × List Int)) (β := Step (List Int) Bool) ((0 : Int), z9) fun z11 =>
          (idx a i_z9).bind fun e92 =>
          cond (decide (z11.1 < (((List.length e92) : Nat) : Int)))
          ((idx a i_z9).bind fun e104 =>
            (idx e104 z11.1).bind fun e116 =>
            (cond (decide (e116 < (0 : Int)))
            (some true)
            (cond (decide (e116 ≥ (((List.length ll) : Nat) : Int)))
              (some true)
              ((idx o e116).bind fun e127 =>
                (idx a i_z9).bind fun e139 =>
                (idx e139 (0 : Int)).bind fun e151 =>
                (idx o e151).bind fun e160 =>
                (tronageref01_Ints_D e127 e160).bind fun t27 =>
                cond (!t27)
                (some true)
                ((idx a i_z9).bind fun e178 =>
                  cond (decide ((((List.length e178) : Nat) : Int) > (1 : Int)))
                  ((tronageref01_In_D lp e116).bind fun t30 =>
                    some (!t30))
                  (some false))))).bind fun z18 =>
            cond z18
            (some (Step.done (Step.done false)))
            ((idx z11.2 e116).bind fun e205 =>
              (setI z11.2 e116 (IntKind.wrap .i64 (e205 + (1 : Int)))).bind fun m218 =>
              some (Step.next ((IntKind.wrap .i64 (z11.1 + (1 : Int))), m218))))
          (some (Step.done (Step.next z11.2)))).bind fun e_z10 => match e_z10 with
        | .next z10 =>
          some (Step.next z10)
        | .done q229 => some (Step.done q229)) (β := Bool) (n := a.length)
        (fun i (seen : List Int) => seen.length = ll.length ∧ ∀ v, lv seen v = if ∃ p ∈ a.take i, v ∈ p then 1 else 0) (by omega) (s := List.replicate ll.length 0)
        ⟨by simp, fun v => by rw [lv_replicate, if_neg (by simp)]⟩ (fun i seen hi ⟨g1, g2⟩ => by
          have hP := ha.parts _ (List.getElem_mem hi)
          have hpl := part_len hP
          obtain ⟨b, eb', sq, q1, q2, q3⟩ := loop_inv (f := fun (z11 : Int × List Int) =>
            (idx a (i : Int)).bind fun e92 =>
            cond (decide (z11.1 < (((List.length e92) : Nat) : Int)))
            ((idx a (i : Int)).bind fun e104 =>
              (idx e104 z11.1).bind fun e116 =>
              (cond (decide (e116 < (0 : Int)))
              (some true)
              (cond (decide (e116 ≥ (((List.length ll) : Nat) : Int)))
                (some true)
                ((idx o e116).bind fun e127 =>
                  (idx a (i : Int)).bind fun e139 =>
                  (idx e139 (0 : Int)).bind fun e151 =>
                  (idx o e151).bind fun e160 =>
                  (tronageref01_Ints_D e127 e160).bind fun t27 =>
                  cond (!t27)
                  (some true)
                  ((idx a (i : Int)).bind fun e178 =>
                    cond (decide ((((List.length e178) : Nat) : Int) > (1 : Int)))
                    ((tronageref01_In_D lp e116).bind fun t30 =>
                      some (!t30))
                    (some false))))).bind fun z18 =>
              cond z18
              (some (Step.done (Step.done false)))
              ((idx z11.2 e116).bind fun e205 =>
                (setI z11.2 e116 (IntKind.wrap .i64 (e205 + (1 : Int)))).bind fun m218 =>
                some (Step.next ((IntKind.wrap .i64 (z11.1 + (1 : Int))), m218))))
            (some (Step.done (Step.next (β := Bool) z11.2))))
            (fun z => ∃ k : Nat, z.1 = (k : Int) ∧ k ≤ a[i].length ∧ z.2.length = ll.length ∧ ∀ v, lv z.2 v = if (∃ p ∈ a.take i, v ∈ p) ∨ v ∈ a[i].take k then 1 else 0) (fun z => (a[i].length - z.1).toNat)
            (fun b => ∃ s : List Int, b = Step.next s ∧ s.length = ll.length ∧ ∀ v, lv s v = if (∃ p ∈ a.take i, v ∈ p) ∨ v ∈ a[i] then 1 else 0) (fun z ⟨k, ek, hk, w1, w2⟩ => by
              obtain ⟨k11, sn⟩ := z
              dsimp only at ek w1 w2
              subst ek
              dsimp only
              rw [idx_lt hi]
              simp only [Option.bind_some]
              by_cases hkl : k < a[i].length
              · left
                obtain ⟨x, hx⟩ : ∃ x, a[i][k] = x := ⟨_, rfl⟩
                have hxm : x ∈ a[i] := by rw [← hx]; exact List.getElem_mem hkl
                obtain ⟨x0, x1⟩ := hP.range x hxm
                obtain ⟨y, hy⟩ : ∃ y, a[i][0]'(by omega) = y := ⟨_, rfl⟩
                have hym : y ∈ a[i] := by rw [← hy]; exact List.getElem_mem _
                obtain ⟨y0, y1⟩ := hP.range y hym
                obtain ⟨lx, ex, px1, px2, px3⟩ := hget x x0 x1
                obtain ⟨ly, ey, py1, py2, py3⟩ := hget y y0 y1
                have exy : lx = ly := asc_ext px1 py1 fun j => by
                  rw [px3, py3]
                  unfold Gets
                  rw [hbl]
                  have hxy := (hP.scc x hxm y).1 hym
                  constructor
                  · rintro ⟨c0, c1, z, c2, c3⟩; exact ⟨c0, c1, z, hxy.2.trans c2, c3⟩
                  · rintro ⟨c0, c1, z, c2, c3⟩; exact ⟨c0, c1, z, hxy.1.trans c2, c3⟩
                have h0 : idx a[i] 0 = some y := by rw [show (0 : Int) = ((0 : Nat) : Int) from rfl, idx_lt (show 0 < a[i].length by omega), hy]
                rw [decide_eq_true (by omega), cond_true, idx_lt hkl]
                simp only [Option.bind_some]
                rw [hx, decide_eq_false (by omega), cond_false, decide_eq_false (by omega), cond_false, ex, Option.bind_some, h0, Option.bind_some, ey, Option.bind_some, exy, ints_refl (by omega), Option.bind_some]
                have hin : (cond (decide (((a[i].length : Nat) : Int) > (1 : Int))) ((tronageref01_In_D lp x).bind fun t30 => some (!t30)) (some false)) = some false := by
                  by_cases hl : ((a[i].length : Nat) : Int) > 1
                  · rw [decide_eq_true hl, cond_true, in_ok (by omega), Option.bind_some]
                    have : x ∈ lp := by
                      rw [l2]
                      refine ⟨x0, x1, ?_⟩
                      have : ∃ w ∈ a[i], w ≠ x := by
                        have h0 : a[i][0]'(by omega) ∈ a[i] := List.getElem_mem _
                        have h1 : a[i][1]'(by omega) ∈ a[i] := List.getElem_mem _
                        have h2 := List.pairwise_iff_getElem.1 hP.up 0 1 (by omega) (by omega) (by omega)
                        by_cases e : a[i][0]'(by omega) = x
                        · exact ⟨_, h1, by omega⟩
                        · exact ⟨_, h0, e⟩
                      obtain ⟨w, hw, hwx⟩ := this
                      obtain ⟨k1, k2⟩ := (hP.scc x hxm w).1 hw
                      cases k1 with
                      | refl => exact absurd rfl hwx
                      | step h1 h2 => exact ⟨_, h1, h2.trans k2⟩
                    rw [decide_eq_true this]
                    rfl
                  · rw [decide_eq_false hl]; rfl
                simp only [Bool.not_true, cond_false]
                rw [hin]
                simp only [Option.bind_some, cond_false]
                have hsx : lv sn x = 0 := by
                  rw [w2, if_neg]
                  rintro (⟨p, hp, hxp⟩ | h)
                  · obtain ⟨j, hj, rfl⟩ := List.mem_take_iff_getElem.1 hp
                    exact hdis j i (by omega) hi (by omega) x hxp hxm
                  · obtain ⟨j, hj, e⟩ := List.mem_take_iff_getElem.1 h
                    have h2 := List.pairwise_iff_getElem.1 hP.up j k (by omega) hkl (by omega)
                    omega
                rw [idx_lv x0 (by omega), hsx, Option.bind_some, show IntKind.wrap .i64 ((0 : Int) + 1) = 1 by decide, setI_ok x0 (by omega), Option.bind_some, w64p (by omega)]
                refine ⟨_, rfl, ⟨k + 1, rfl, hkl, by simp; exact w1, fun v => ?_⟩, by dsimp only; omega⟩
                rw [lv_set x0 (by omega), w2]
                by_cases hv : v = x
                · rw [if_pos hv, if_pos]
                  right
                  rw [List.take_succ_eq_append_getElem hkl, hx, hv]
                  exact List.mem_append_right _ (List.mem_singleton.2 rfl)
                · rw [if_neg hv]
                  have : ((∃ p ∈ a.take i, v ∈ p) ∨ v ∈ a[i].take k) ↔ ((∃ p ∈ a.take i, v ∈ p) ∨ v ∈ a[i].take (k + 1)) := by
                    rw [List.take_succ_eq_append_getElem hkl, hx, List.mem_append, List.mem_singleton]
                    constructor
                    · rintro (h | h)
                      · exact .inl h
                      · exact .inr (.inl h)
                    · rintro (h | h | h)
                      · exact .inl h
                      · exact .inr h
                      · exact absurd h hv
                  simp only [this]
              · right
                rw [decide_eq_false (by omega), cond_false]
                refine ⟨_, rfl, sn, rfl, w1, fun v => ?_⟩
                rw [w2, List.take_of_length_le (l := a[i]) (i := k) (by omega)]) (s := ((0 : Int), seen)) ⟨0, rfl, Nat.zero_le _, g1, fun v => by rw [g2]; simp⟩
          subst q1
          refine ⟨_, (bind_some' eb' _).trans rfl, q2, fun v => ?_⟩
          rw [q3]
          have : ((∃ p ∈ a.take i, v ∈ p) ∨ v ∈ a[i]) ↔ ∃ p ∈ a.take (i + 1), v ∈ p := by
            rw [List.take_succ_eq_append_getElem hi]
            constructor
            · rintro (⟨p, hp, h⟩ | h)
              · exact ⟨p, List.mem_append_left _ hp, h⟩
              · exact ⟨a[i], List.mem_append_right _ (List.mem_singleton.2 rfl), h⟩
            · rintro ⟨p, hp, h⟩
              rcases List.mem_append.1 hp with g | g
              · exact .inl ⟨p, g, h⟩
              · rw [List.mem_singleton.1 g] at h; exact .inr h
          simp only [this])
      rw [List.take_length] at hs2
      refine (bind_some' es _).trans ?_
      dsimp only
      obtain ⟨s, es2, _⟩ := forN_all (f := fun i_z35 (z35 : Unit) =>
        (idx seen i_z35).bind fun e265 =>
        cond (e265 != (1 : Int))
        (some (Step.done false))
        (some (Step.next ()))) (β := Bool) (n := seen.length) (fun _ _ => True) (by omega) (s := ()) trivial (fun k s hk _ => ⟨(), by
          rw [idx_lv (low := seen) (v := (k : Int)) (by omega) (by omega), hs2, if_pos ((ha.cover _).1 ⟨by omega, by omega⟩)]
          rfl, trivial⟩)
      refine (bind_some' es2 _).trans ?_
      rfl
end Go.Proofs.YtbpbfoemghcfaaaDoor
