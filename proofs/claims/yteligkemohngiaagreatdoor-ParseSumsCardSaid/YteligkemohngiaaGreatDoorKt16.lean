/-
  S51, put together.
  Conditions: none; each part tells its own.
-/
import Derived.Test.YteligkemohngiaaGreatDoorKt15
import Derived.Test.YteligkemohngiaaGreatDoorKt6
import Derived.KernelRfl
/-
  THE ABSTRACT MACHINE AT A SEAT (ParseSums): what the kernel says of the program. ls0 is printed by ls0.py into the text YteligkemohngiaaGreatDoorLs0, the unit's part by lit.py into YteligkemohngiaaGreatDoorLit.
  Conditions: none.
-/
namespace Go.B
open Go Go.Proofs
set_option maxRecDepth 100000
set_option linter.unusedSectionVars false
theorem sz1 : Nat.ble Tryz.prog.types.size 4096 = true := by kernel_rfl
theorem sz2 : Nat.ble Tryz.prog.funcs.size 4096 = true := by kernel_rfl
theorem own1 : Own1 Tryz.prog 325 Extern.BytealgIndexByte.indexByte := ⟨Tryz.prog.funcs.getD 325 default, by kernel_rfl, by kernel_rfl, by kernel_rfl, by kernel_rfl, by kernel_rfl⟩
theorem own2 : Own1 Tryz.prog 269 Extern.BytealgCount.count := ⟨Tryz.prog.funcs.getD 269 default, by kernel_rfl, by kernel_rfl, by kernel_rfl, by kernel_rfl, by kernel_rfl⟩
theorem rec0_ok [Sg] (O : OraOk Tryz.prog (oraF 66 198 197)) : RecOk Tryz.prog rec0 := by
  have hP := Nat.le_of_ble_eq_true sz1
  exact recO_ok hP (Nat.le_of_ble_eq_true sz2) (draw_ok hP (by kernel_rfl)) YteligkemohngiaaGreatDoor.jnOk (primF_ok own1 own2) O 1000
theorem isB_ok {r : Res} (h : isB r = true) : ∃ A', r = .ok (.bool true) A' := by
  unfold isB at h
  split at h
  · subst h; exact ⟨_, rfl⟩
  · cases h
theorem isWide_ok {r : Res} (h : isWide r = true) : ∃ A', r = .ok wideA A' := by
  unfold isWide at h
  split at h
  · simp only [Bool.and_eq_true, iEq_eq, decide_eq_true_eq] at h
    obtain ⟨⟨⟨⟨⟨rfl, rfl⟩, rfl⟩, rfl⟩, rfl⟩, rfl⟩ := h
    exact ⟨_, rfl⟩
  · cases h
theorem chkU_ok {x : Res} (h : chkU x = true) : ∃ a b c d e f s t g j A, x = .ok (.tup [.ptr (litP litU) (litO litU), .agg [.int .i64 a, .int .i64 b, .int .i64 c, .int .i64 d, .int .i64 e, .str f, s, t, .int .i64 g, .int .i64 j]]) A ∧ isSl s = true ∧ isSl t = true ∧
    litI.all (fun i => agree litI ((frz A).get i) (litA.get i)) = true := by
  unfold chkU at h
  split at h
  · simp only [Bool.and_eq_true] at h
    obtain ⟨⟨⟨⟨h1, h2⟩, h3⟩, h4⟩, h5⟩ := h
    have h1 := beq_t h1
    have h2 := beq_t h2
    subst h1 h2
    exact ⟨_, _, _, _, _, _, _, _, _, _, _, rfl, h3, h4, h5⟩
  · cases h
theorem lit64 : (List.range 64).all (fun i => litI.any (Nat.beq i)) = true := by kernel_rfl
theorem litLt : litI.all (fun i => nLt i litA.n) = true := by kernel_rfl
theorem litLe : Nat.ble litA.n 16384 = true := by kernel_rfl
theorem litPin : litI.any (Nat.beq (litP litU)) = true := by kernel_rfl
theorem saidU : chkU (run 6 [sumA, wideA] (glob0 ls0)) = true := by kernel_rfl
theorem saidW : isWide (run 7 [] (glob0 ls0)) = true := by kernel_rfl
theorem saidT : isB (run 18 [.nils, .nils] (glob0 ls0)) = true := by kernel_rfl
theorem saidC : isB (run 19 [.nils, .nils] (glob0 ls0)) = true := by kernel_rfl
theorem said : isB (run 5 [] (glob0 ls0)) = true := by kernel_rfl
/-! ## sums -/
theorem isSum_ok {k : Nat} {r : Res} (h : isSum k r = true) : ∃ A', r = .ok (ansA k) A' := by
  unfold isSum at h
  split at h
  · simp only [Bool.and_eq_true, iEq_eq, natsEq_eq, decide_eq_true_eq] at h
    obtain ⟨⟨⟨⟨⟨⟨⟨rfl, rfl⟩, rfl⟩, rfl⟩, rfl⟩, rfl⟩, rfl⟩, h8⟩ := h
    have h8 := beq_t h8
    subst h8
    exact ⟨_, rfl⟩
  · cases h
end Go.B
