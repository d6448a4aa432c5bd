/-
  THE PROGRAM'S FORM: what the contracts ask of it; the call that factor defers.
  Conditions: none.
-/
import Derived.Test.YtkhfdckieocciaaDoorEngT
import Derived.Test.YtkhfdckieocciaaDoorEngY
import Derived.Test.YtkhfdckieocciaaDoorEx
import Derived.Test.YtkhfdckieocciaaDoorDen
namespace Go.Proofs.YtkhfdckieocciaaDoor
open Go Go.Eng
set_option maxRecDepth 100000
theorem mixed : Tryd.prog.follows .mixedOrders = true := by kernel_rfl
theorem factor1_calls {φ : Snap} {h : Heap} {F : List Chk} {n b : Nat} {s : ByteArray} {a i : Int} {u : FrameMode}
    (s0 : St φ (⟨Rep.raw 43, [.pointer (some ⟨n, 0, none⟩)], [.pointer (some ⟨b, 0, none⟩)]⟩ :: ⟨Rep.raw 45, [.pointer (some ⟨b, 0, none⟩)], [.string s, .int .i64 a, .int .i64 i]⟩ :: F) h) :
    CallsDH Tryd.prog 50 [.pointer (some ⟨n, 0, none⟩)] u h (fun e u' h' => u' = u ∧ e = .ret (.tuple #[]) ∧
      St φ (⟨Rep.raw 43, [.pointer (some ⟨n, 0, none⟩)], [.pointer (some ⟨b, 0, none⟩)]⟩ :: ⟨Rep.raw 45, [.pointer (some ⟨b, 0, none⟩)], [.string s, .int .i64 a, .int .i64 (IntKind.wrap .i64 (i - 1))]⟩ :: F) h') := by
  refine callsDH_of mixed Tryd.func50 ?_
  rw [expr_reader_factor_1_den]
  unfold expr_reader_factor_1_T
  refine s_loadR (b := n) (j := 0) (x := some ⟨b, 0, none⟩) s0 rfl ?_
  refine t_deref _ rfl ?_
  refine s_loadR (b := b) (j := 2) (x := i) s0.at1 rfl ?_
  refine t_deref _ rfl ?_
  refine s_put (b := b) (j := 2) (v := .int .i64 (IntKind.wrap .i64 (i - 1))) s0.at1 rfl (show (2 : Nat) < 3 by decide) ?_
  intro h2 s1
  exact ⟨rfl, rfl, s1.at1⟩
end Go.Proofs.YtkhfdckieocciaaDoor
