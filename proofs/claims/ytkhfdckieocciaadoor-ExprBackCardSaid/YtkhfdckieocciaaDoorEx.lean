/-
  EXPRESSIONS: a tree of rows of rows, as what stays.
  Conditions: none.
-/
import Derived.Test.YtkhfdckieocciaaDoorEngX
namespace Go.Eng
open Go

inductive Ex where
  | mk (kind n : Int) (kids : List Ex)
namespace Ex
def kind : Ex → Int
  | mk k _ _ => k
def n : Ex → Int
  | mk _ n _ => n
def kids : Ex → List Ex
  | mk _ _ l => l
def tup (x : Ex) : Int × Int × List Ex := (x.kind, x.n, x.kids)
end Ex
theorem Ex.kind_mk (k n : Int) (l : List Ex) : (Ex.mk k n l).kind = k := rfl
theorem Ex.n_mk (k n : Int) (l : List Ex) : (Ex.mk k n l).n = n := rfl
theorem Ex.kids_mk (k n : Int) (l : List Ex) : (Ex.mk k n l).kids = l := rfl
theorem Ex.eta (x : Ex) : Ex.mk x.kind x.n x.kids = x := by cases x; rfl
def exN : Nat → Ro Ex
  | 0 => { sz := 3, is := fun _ _ _ => False, len := fun h => h.elim, mono := fun _ h => h, plain := fun h => h.elim }
  | n + 1 => Ro.via (Ro.prod (Ro.int .i64) (Ro.prod (Ro.int .i64) (Ro.list (exN n)))) Ex.tup
theorem exN_sz : ∀ n, (exN n).sz = 3
  | 0 => rfl
  | _ + 1 => rfl
theorem Ro.All.imp {α : Type} {r s : Ro α} {φ : Snap} {vs : List Value} {l : List α} (h : Ro.All r φ vs l) (hi : ∀ cs x, r.is φ cs x → s.is φ cs x) : Ro.All s φ vs l := by
  induction h with
  | nil => exact .nil
  | cons h _ ih => exact .cons (hi _ _ h) ih
theorem Ro.SliceIs.imp {α : Type} {r s : Ro α} {φ : Snap} {t : Slc} {l : List α} (h : Ro.SliceIs r φ t l) (hi : ∀ cs x, r.is φ cs x → s.is φ cs x) : Ro.SliceIs s φ t l := by
  obtain ⟨h1, h2, h3, h4, vs, h5, h6⟩ := h
  exact ⟨h1, h2, h3, h4, vs, h5.imp hi, h6⟩
theorem prod_imp {r s : Ro Ex} {φ : Snap} {cs : List Value} {x : Int × Int × List Ex} (hi : ∀ cs x, r.is φ cs x → s.is φ cs x)
    (h : (Ro.prod (Ro.int .i64) (Ro.prod (Ro.int .i64) (Ro.list r))).is φ cs x) : (Ro.prod (Ro.int .i64) (Ro.prod (Ro.int .i64) (Ro.list s))).is φ cs x := by
  obtain ⟨a, b, e, ha, c, d, e2, hc, t, e3, hd⟩ := h
  exact ⟨a, b, e, ha, c, d, e2, hc, t, e3, hd.imp hi⟩
theorem exN_up {φ : Snap} : ∀ (n : Nat) (cs : List Value) (x : Ex), (exN n).is φ cs x → (exN (n + 1)).is φ cs x := by
  intro n
  induction n with
  | zero => intro cs x h; exact h.elim
  | succ n ih => intro cs x h; exact prod_imp (fun cs x => ih cs x) h
theorem exN_le {φ : Snap} {n m : Nat} (hnm : n ≤ m) {cs : List Value} {x : Ex} (h : (exN n).is φ cs x) : (exN m).is φ cs x := by
  induction hnm with
  | refl => exact h
  | step _ ih => exact exN_up _ _ _ ih
def exRo : Ro Ex where
  sz := 3
  is φ cs x := ∃ n, (exN n).is φ cs x
  len h := by obtain ⟨n, h⟩ := h; rw [(exN n).len h, exN_sz]
  mono hs h := by obtain ⟨n, h⟩ := h; exact ⟨n, (exN n).mono hs h⟩
  plain h := by obtain ⟨n, h⟩ := h; exact (exN n).plain h
abbrev exPr : Ro (Int × Int × List Ex) := Ro.prod (Ro.int .i64) (Ro.prod (Ro.int .i64) (Ro.list exRo))
theorem exRo_open {φ : Snap} {cs : List Value} {x : Ex} (h : exRo.is φ cs x) : exPr.is φ cs (x.kind, x.n, x.kids) := by
  obtain ⟨n, h⟩ := h
  cases n with
  | zero => exact h.elim
  | succ n => exact prod_imp (fun cs x h => ⟨n, h⟩) h
theorem all_exN {φ : Snap} {vs : List Value} {l : List Ex} (h : Ro.All exRo φ vs l) : ∃ n, Ro.All (exN n) φ vs l := by
  induction h with
  | nil => exact ⟨0, .nil⟩
  | cons h _ ih =>
    obtain ⟨n, h⟩ := h
    obtain ⟨m, hm⟩ := ih
    exact ⟨max n m, .cons (exN_le (Nat.le_max_left n m) h) (hm.imp fun _ _ h => exN_le (Nat.le_max_right n m) h)⟩
theorem exRo_mk {φ : Snap} {cs : List Value} {k n : Int} {l : List Ex} (h : exPr.is φ cs (k, n, l)) : exRo.is φ cs (Ex.mk k n l) := by
  obtain ⟨a, b, e, ha, c, d, e2, hc, t, e3, h1, h2, h3, h4, vs, h5, h6⟩ := h
  obtain ⟨m, hm⟩ := all_exN h5
  exact ⟨m + 1, a, b, e, ha, c, d, e2, hc, t, e3, h1, h2, h3, h4, vs, hm, h6⟩
end Go.Eng
