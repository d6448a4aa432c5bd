/-
  S52, put together.
  Conditions: none; each part tells its own.
-/
import Derived.Test.YteligkemohngiaaGreatDoorKn4
import Derived.Test.YteligkemohngiaaGreatDoorProg
import Derived.KernelRfl
/-
  THE ABSTRACT MACHINE AT A SEAT (ParseNone): what the kernel says of the program. ls0 is printed by ls0.py into the text YteligkemohngiaaGreatDoorLs0.
  Conditions: none.
-/
namespace Go.B
open Go Go.Proofs
set_option maxRecDepth 100000
theorem sz1 : Nat.ble Tryz.prog.types.size 4096 = true := by kernel_rfl
theorem sz2 : Nat.ble Tryz.prog.funcs.size 4096 = true := by kernel_rfl
theorem own1 : Own1 Tryz.prog 325 Extern.BytealgIndexByte.indexByte := ⟨Tryz.prog.funcs.getD 325 default, by kernel_rfl, by kernel_rfl, by kernel_rfl, by kernel_rfl, by kernel_rfl⟩
theorem own2 : Own1 Tryz.prog 269 Extern.BytealgCount.count := ⟨Tryz.prog.funcs.getD 269 default, by kernel_rfl, by kernel_rfl, by kernel_rfl, by kernel_rfl, by kernel_rfl⟩
noncomputable def rec0 : Rec := recN Tryz.prog (tabOf Tryz.prog) (fnTab Tryz.prog (tabOf Tryz.prog)) (primF 325 269) 1000
theorem rec0_ok : RecOk Tryz.prog rec0 := by
  have hP := Nat.le_of_ble_eq_true sz1
  exact rec_ok hP (Nat.le_of_ble_eq_true sz2) (draw_ok hP (by kernel_rfl)) YteligkemohngiaaGreatDoor.jnOk (primF_ok own1 own2) 1000
noncomputable def run (f : FuncId) (args : List AV) (A : AH) : Res := rec0 (.func f [] []) args A
def isB (r : Res) : Bool := match r with
  | .ok (.bool b) _ => b
  | _ => false
theorem isB_ok {r : Res} (h : isB r = true) : ∃ A', r = .ok (.bool true) A' := by
  unfold isB at h
  split at h
  · subst h; exact ⟨_, rfl⟩
  · cases h
noncomputable def isZ (r : Res) : Bool := match r with
  | .ok (.int .i64 n) _ => iEq n 0
  | _ => false
theorem isZ_ok {r : Res} (h : isZ r = true) : ∃ A', r = .ok (.int .i64 0) A' := by
  unfold isZ at h
  split at h
  · rw [iEq_eq, decide_eq_true_eq] at h; subst h; exact ⟨_, rfl⟩
  · cases h
def ansA (k c : Int) : AV := .agg [.int .i64 k, .int .i64 c, .int .i64 0, .int .i64 0, .int .i64 0, .str [], .nils, .nils, .int .i64 0, .int .i64 0]
noncomputable def isAns (k c : Int) (r : Res) : Bool := match r with
  | .ok (.agg [.int .i64 a, .int .i64 b, .int .i64 d, .int .i64 e, .int .i64 f, .str s, .nils, .nils, .int .i64 g, .int .i64 j]) _ => iEq a k && iEq b c && iEq d 0 && iEq e 0 && iEq f 0 && natsEq s [] && iEq g 0 && iEq j 0
  | _ => false
theorem isAns_ok {k c : Int} {r : Res} (h : isAns k c r = true) : ∃ A', r = .ok (ansA k c) A' := by
  unfold isAns at h
  split at h
  · simp only [Bool.and_eq_true, iEq_eq, natsEq_eq, decide_eq_true_eq] at h
    obtain ⟨⟨⟨⟨⟨⟨⟨rfl, rfl⟩, rfl⟩, rfl⟩, rfl⟩, rfl⟩, rfl⟩, rfl⟩ := h
    exact ⟨_, rfl⟩
  · cases h
def wideA : AV := .agg [.int .i64 2000, .int .i64 300, .int .i64 9000, .int .i64 10000, .int .i64 1000, .int .i64 100000]
noncomputable def isWide (r : Res) : Bool := match r with
  | .ok (.agg [.int .i64 a, .int .i64 b, .int .i64 d, .int .i64 e, .int .i64 f, .int .i64 g]) _ => iEq a 2000 && iEq b 300 && iEq d 9000 && iEq e 10000 && iEq f 1000 && iEq g 100000
  | _ => false
theorem isWide_ok {r : Res} (h : isWide r = true) : ∃ A', r = .ok wideA A' := by
  unfold isWide at h
  split at h
  · simp only [Bool.and_eq_true, iEq_eq, decide_eq_true_eq] at h
    obtain ⟨⟨⟨⟨⟨rfl, rfl⟩, rfl⟩, rfl⟩, rfl⟩, rfl⟩ := h
    exact ⟨_, rfl⟩
  · cases h
def sumA : AV := .str [37, 116, 111, 107, 101, 110, 32, 78, 32, 91, 48, 45, 57, 93, 43, 32, 37, 116, 111, 107, 101, 110, 32, 80, 32, 34, 43, 34, 32, 37, 108, 101, 102, 116, 32, 80, 32, 37, 37, 32, 69, 32, 58, 32, 69, 32, 80, 32, 69, 32, 123, 36, 49, 32, 43, 32, 36, 51, 125, 32, 124, 32, 78, 32, 59]
def isSl (a : AV) : Bool := match a with
  | .nils => true
  | .sx _ _ _ _ => true
  | .su _ _ _ => true
  | _ => false
def stepsA : AV := .agg [.int .i64 1, .int .i64 0, .int .i64 0, .int .i64 0, .int .i64 0, .int .i64 0]
noncomputable def longA (l : List Nat) : AV := .str (rep [0] 1001 |> fun z => appN z l)
noncomputable def chkU (x : Res) (l : List Nat) : Bool := match x with
  | .ok (.tup [.ptr i o, .agg [.int .i64 _, .int .i64 _, .int .i64 _, .int .i64 _, .int .i64 _, .str _, s, t, .int .i64 _, .int .i64 _]]) A => isSl s && isSl t && isAns 8 12 (run 8 [.ptr i o, longA l, wideA] (frz A)) && isAns 8 12 (run 8 [.ptr i o, longA l, stepsA] (frz A))
  | _ => false
theorem chkU_ok {x : Res} {l : List Nat} (h : chkU x l = true) : ∃ i o a b c d e f s t g j A, x = .ok (.tup [.ptr i o, .agg [.int .i64 a, .int .i64 b, .int .i64 c, .int .i64 d, .int .i64 e, .str f, s, t, .int .i64 g, .int .i64 j]]) A ∧ isSl s = true ∧ isSl t = true ∧
    (∃ A', run 8 [.ptr i o, longA l, wideA] (frz A) = .ok (ansA 8 12) A') ∧ ∃ A', run 8 [.ptr i o, longA l, stepsA] (frz A) = .ok (ansA 8 12) A' := by
  unfold chkU at h
  split at h
  · simp only [Bool.and_eq_true] at h
    obtain ⟨⟨⟨h1, h2⟩, h3⟩, h4⟩ := h
    exact ⟨_, _, _, _, _, _, _, _, _, _, _, _, _, rfl, h1, h2, isAns_ok h3, isAns_ok h4⟩
  · cases h
def isNils (r : Res) : Bool := match r with
  | .ok .nils _ => true
  | _ => false
theorem isNils_ok {r : Res} (h : isNils r = true) : ∃ A', r = .ok .nils A' := by
  unfold isNils at h
  split at h
  · exact ⟨_, rfl⟩
  · cases h
theorem saidW : isWide (run 7 [] (glob0 ls0)) = true := by kernel_rfl
theorem saidS : isB (run 9 [ansA 10 0, ansA 10 0] (glob0 ls0)) = true := by kernel_rfl
theorem saidT : isB (run 9 [ansA 8 12, ansA 8 12] (glob0 ls0)) = true := by kernel_rfl
theorem saidC : isNils (run 23 [.nils] (glob0 ls0)) = true := by kernel_rfl
theorem said : isB (run 5 [] (glob0 ls0)) = true := by kernel_rfl
theorem saidU : ∀ l : List Nat, chkU (run 6 [sumA, wideA] (glob0 ls0)) l = true := fun l => by kernel_rfl
end Go.B
