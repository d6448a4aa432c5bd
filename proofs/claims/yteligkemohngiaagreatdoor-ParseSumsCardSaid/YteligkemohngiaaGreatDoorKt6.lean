/-
  SD, put together.
  Conditions: none; each part tells its own.
-/
import Derived.Test.YteligkemohngiaaGreatDoorKt3
import Derived.Test.YteligkemohngiaaGreatDoorProg
import Derived.Test.YteligkemohngiaaGreatDoorKt4
import Derived.Test.YteligkemohngiaaGreatDoorKt5
/-
  THE ABSTRACT MACHINE AT A SEAT (ParseSums): what the kernel is to run. ls0 is printed by ls0.py into the text YteligkemohngiaaGreatDoorLs0, the unit's part by lit.py into YteligkemohngiaaGreatDoorLit.
  Conditions: none; nothing is promised here.
-/
namespace Go.B
open Go Go.Proofs
set_option maxRecDepth 100000
noncomputable def rec0 : Rec := recO Tryz.prog (tabOf Tryz.prog) (fnTab Tryz.prog (tabOf Tryz.prog)) (primF 325 269) (oraF 66 198 197) 1000
noncomputable def run (f : FuncId) (args : List AV) (A : AH) : Res := rec0 (.func f [] []) args A
noncomputable def isB (r : Res) : Bool := match r with
  | .ok (.bool b) _ => b
  | _ => false
def wideA : AV := .agg [.int .i64 2000, .int .i64 300, .int .i64 9000, .int .i64 10000, .int .i64 1000, .int .i64 100000]
noncomputable def isWide (r : Res) : Bool := match r with
  | .ok (.agg [.int .i64 a, .int .i64 b, .int .i64 d, .int .i64 e, .int .i64 f, .int .i64 g]) _ => iEq a 2000 && iEq b 300 && iEq d 9000 && iEq e 10000 && iEq f 1000 && iEq g 100000
  | _ => false
noncomputable section
def sumA : AV := .str [37, 116, 111, 107, 101, 110, 32, 78, 32, 91, 48, 45, 57, 93, 43, 32, 37, 116, 111, 107, 101, 110, 32, 80, 32, 34, 43, 34, 32, 37, 108, 101, 102, 116, 32, 80, 32, 37, 37, 32, 69, 32, 58, 32, 69, 32, 80, 32, 69, 32, 123, 36, 49, 32, 43, 32, 36, 51, 125, 32, 124, 32, 78, 32, 59]
def isSl (a : AV) : Bool := match a with
  | .nils => true
  | .sx _ _ _ _ => true
  | .su _ _ _ => true
  | _ => false
/-! ## the unit, written down -/
def litA : AH := ⟨List.rec (motive := fun _ => Q AO) (glob0 ls0).t (fun p _ ih => hset (AO.ro p.2) (hkey p.1) ih) litL, litN⟩
def litI : List Nat := List.range 64 ++ litL.map (·.1)
def litP : AV → Nat
  | .ptr i _ => i
  | _ => 0
def litO : AV → Nat
  | .ptr _ o => o
  | _ => 0
def chkU (x : Res) : Bool := match x with
  | .ok (.tup [.ptr i o, .agg [.int .i64 _, .int .i64 _, .int .i64 _, .int .i64 _, .int .i64 _, .str _, s, t, .int .i64 _, .int .i64 _]]) A => Nat.beq i (litP litU) && Nat.beq o (litO litU) && isSl s && isSl t && litI.all fun i => agree litI ((frz A).get i) (litA.get i)
  | _ => false
end
/-- The tree of a sum of so many numbers and one. -/
def treeS : Nat → List Nat
  | 0 => [40, 69, 32, 78, 41]
  | n + 1 => [40, 69, 32] ++ treeS n ++ [32, 80, 32, 40, 69, 32, 78, 41, 41]
def ansA (k : Nat) : AV := .agg [.int .i64 6, .int .i64 0, .int .i64 0, .int .i64 0, .int .i64 0, .str (treeS k), .nils, .nils, .int .i64 1, .sym (8 * k + 3)]
noncomputable def isSum (k : Nat) (r : Res) : Bool := match r with
  | .ok (.agg [.int .i64 a, .int .i64 b, .int .i64 d, .int .i64 e, .int .i64 f, .str s, .nils, .nils, .int .i64 g, .sym j]) _ => iEq a 6 && iEq b 0 && iEq d 0 && iEq e 0 && iEq f 0 && natsEq s (treeS k) && iEq g 1 && Nat.beq j (8 * k + 3)
  | _ => false
noncomputable def sumsAt (k : Nat) : Bool := isSum k (run 8 [litU, .symS (4 * (2 * k + 1)), wideA] litA)
end Go.B
