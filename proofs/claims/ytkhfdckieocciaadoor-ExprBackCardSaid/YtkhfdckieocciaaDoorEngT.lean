/-
  THE ENGINE, PART T: rules over pieces for calls that may panic, and for a function that defers a call.
  Conditions: none; it speaks of any program.
-/
import Derived.Test.YtkhfdckieocciaaDoorEngX
import Derived.Test.YtkhfdckieocciaaDoorEngJ
namespace Go.Eng
open Go

section
variable {P : Program} {Q : Leaf → Heap → Prop} {φ : Snap} {h : Heap} {Γ : List Chk}
/-- How a call ends that may panic. -/
def Ends2 (S : Value → Heap → Prop) (X : List PanicEntry → Heap → Prop) : Fin → Heap → Prop
  | .ret v, h => S v h
  | .pan c, h => X c h
theorem finOf_ret {S : Value → Heap → Prop} {X : List PanicEntry → Heap → Prop} {v : Value} (H : S v h) : finOf (Ends2 S X) (.ret v) h := H
theorem finOf_pan {S : Value → Heap → Prop} {X : List PanicEntry → Heap → Prop} {c : List PanicEntry} (H : X c h) : finOf (Ends2 S X) (.pan c) h := H
theorem s_callP {f : FuncId} {args : List Value} {sh : Sh} {k : sh.Ty → T} {S : Value → Heap → Prop} {X : List PanicEntry → Heap → Prop} (hc : CallsH P f args h (Ends2 S X))
    (hk : ∀ v h', S v h' → ∃ x, v = sh.val x ∧ (k x).wp P Q h') (hp : ∀ c h', X c h' → Q (.pan c) h') : (T.call f args sh k).wp P Q h := by
  simp only [T.wp]
  refine CallsH.mono hc fun e h' he => ?_
  cases e with
  | ret v => exact hk v h' he
  | pan c => exact hp c h' he
theorem s_pan {v : Value} (H : Q (.pan [{ v, recovered := false }]) h) : (T.pan v).wp P Q h := H
theorem meet_pan {γ : Type} {ss : List Sh1} {M : Shs.Ty ss → Heap → γ → Prop} {g : γ} {c : List PanicEntry} (H : Q (.pan c) h) : meet ss M g Q (.pan c) h := H
theorem meetB_pan {γ : Type} {id : Nat} {ss : List Sh1} {M : Shs.Ty ss → Heap → γ → Prop} {g : γ} {c : List PanicEntry} (H : Q (.pan c) h) : meetB id ss M g Q (.pan c) h := H
theorem around_pan {σ : Type} {ss : List Sh1} {I : Shs.Ty ss → Heap → σ → Prop} {e : Option σ} {c : List PanicEntry} (H : Q (.pan c) h) : around ss I e Q (.pan c) h := H
/-- Ahead of a deferred call. -/
def aft (N : Heap → Prop) (X : List PanicEntry → Heap → Prop) : Leaf → Heap → Prop
  | .ret _, h => N h
  | .pan c, h => X c h
  | _, _ => False
theorem aft_ret {N : Heap → Prop} {X : List PanicEntry → Heap → Prop} {v : Value} (H : N h) : aft N X (.ret v) h := H
theorem aft_pan {N : Heap → Prop} {X : List PanicEntry → Heap → Prop} {c : List PanicEntry} (H : X c h) : aft N X (.pan c) h := H
theorem s_later {f : FuncId} {args : List Value} {x k : T} (N : Heap → Prop) (X : List PanicEntry → Heap → Prop) (H : x.wp P (aft N X) h)
    (hn : ∀ h', N h' → CallsDH P f args .returning h' fun e u h'' => (∃ v, e = .ret v) ∧ settle u = .returning ∧ k.wp P Q h'')
    (hx : ∀ c h', X c h' → CallsDH P f args (.panicking c) h' fun e u h'' => (∃ v, e = .ret v) ∧ ((settle u = .returning ∧ k.wp P Q h'') ∨ ∃ c', settle u = .panicking c' ∧ Q (.pan c') h'')) :
    (T.later f args x k).wp P Q h := by
  simp only [T.wp]
  refine T.wp_mono x (fun lf h' hl => ?_) H
  cases lf with
  | out vs => exact hl
  | brk id vs => exact hl
  | ret v =>
    refine CallsDH.mono (hn h' hl) ?_
    rintro _ u h'' ⟨⟨v, rfl⟩, h1, h2⟩
    exact ⟨h1, h2⟩
  | pan c =>
    refine CallsDH.mono (hx c h' hl) ?_
    rintro _ u h'' ⟨⟨v, rfl⟩, ⟨h1, h2⟩ | ⟨c', h1, h2⟩⟩
    · dsimp only; rw [h1]; exact h2
    · dsimp only; rw [h1]; exact h2
theorem St.ptr {α : Type} {ty : TypeId} {R : Rep α} {p : Option Addr} {x : α} (H : St φ (⟨Rep.obj ty R, [.pointer p], x⟩ :: Γ) h) : ∃ b, p = some ⟨b, 0, none⟩ := by
  obtain ⟨b, vs, e, _⟩ := H.open
  exact ⟨b, by simpa using e⟩
end
end Go.Eng
