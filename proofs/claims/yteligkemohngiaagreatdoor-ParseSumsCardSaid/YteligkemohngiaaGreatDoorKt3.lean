/-
  CmQ, put together.
  Conditions: none; each part tells its own.
-/
import Derived.Test.YteligkemohngiaaGreatDoorKt2
/-
  THE ABSTRACT MACHINE, PART QQ: functions whose calls are told by what they tell (a pattern's length, a token's text, a leaf's value), over symbols.
  Conditions: none; nothing is promised here.
-/
namespace Go.B
open Go
set_option maxRecDepth 100000
set_option linter.unusedVariables false
noncomputable section
def findB (c : Nat) : List Nat → Option Nat
  | [] => none
  | b :: l => cond (Nat.beq b c) (some 0) (match findB c l with
    | some i => some (Nat.succ i)
    | none => none)
def countB (c : Nat) : List Nat → Nat
  | [] => 0
  | b :: l => cond (Nat.beq b c) (Nat.succ (countB c l)) (countB c l)
def optI : Option Nat → Int
  | some n => .ofNat n
  | none => .negSucc 0
def primF (i1 i2 : FuncId) : FuncId → List AV → Option AV
  | g, [.str s, .int .u8 (.ofNat c)] => cond (nLt c 256) (cond (Nat.beq g i1) (some (.int .i64 (optI (findB c s)))) (cond (Nat.beq g i2) (some (.int .i64 (.ofNat (countB c s)))) none)) none
  | _, _ => none
/-- Nothing in it is written any more. -/
def frzO (o : AO) : AO := AO.rec (motive := fun _ => AO) .ro (fun _ l => .ro l) .ro (fun _ => .dead) (fun _ _ _ _ _ => .dead) (fun _ => .dead) .dead .dead o
def qmap {α : Type} (f : α → α) (t : Q α) : Q α := Q.rec (motive := fun _ => Q α) .em (fun x => .lf (f x)) (fun _ _ _ _ a b c d => .nd a b c d) t
def frz (A : AH) : AH := ⟨qmap frzO A.t, A.n⟩
def oA : Option (List AV) → AO
  | some l => .ro l
  | none => .dead
def globs (ls : List (Option (List AV))) : List AO := ls.map oA ++ List.replicate (64 - ls.length) .dead
def glob0 (ls : List (Option (List AV))) : AH := ⟨mkQ 7 0 (globs ls) .em, 64⟩
/-- '0' to '9'. -/
def digL : List Nat := [48, 49, 50, 51, 52, 53, 54, 55, 56, 57]
def even (n : Nat) : Bool := Nat.beq (Nat.mod n 2) 0
/-- Which token begins there. -/
def posOf : AV → Option Nat
  | .sym p => cond (Nat.beq (m8 p) 0 && nLt (q8 p) 100) (some (q8 p)) none
  | .int .i64 (.ofNat 0) => some 0
  | _ => none
/-- How many bytes look like a pattern where a token begins. -/
def oraLen : List AV → Option AV
  | [.agg [.str t, .str set, .bool many], .symS n, p] => oE none (fun j => cond (Nat.beq (Nat.mod n 4) 0 && nLt j (Nat.div n 4) && nLt (Nat.div n 4) 100)
    (cond (natsEq t [] && natsEq set digL && many) (cond (even j) (some (.sym (Nat.add (Nat.mul 8 j) 1))) (some (.int .i64 (.ofNat 0))))
      (cond (natsEq t [43] && natsEq set [] && bNot many) (cond (even j) (some (.int .i64 (.ofNat 0))) (some (.int .i64 (.ofNat 1)))) none)) none) (posOf p)
  | _ => none
/-- A token's text. -/
def oraText : List AV → Option AV
  | [.symS n, .agg [.int .i64 _, p, q]] => oE none (fun j => oE none (fun i => cond (Nat.beq (Nat.mod n 4) 0 && nLt j (Nat.div n 4) && Nat.beq i (Nat.succ j))
    (cond (even j) (some (.symS (Nat.add (Nat.mul 4 j) 1))) (some (.str [43]))) none) (posOf q)) (posOf p)
  | _ => none
/-- A leaf's value. -/
def oraLeaf : List AV → Option AV
  | [.symS n] => cond (Nat.beq (Nat.mod n 4) 1 && even (Nat.div n 4) && nLt (Nat.div n 4) 100) (some (.agg [.int .i64 (.ofNat 1), .sym (cond (Nat.beq (Nat.div n 4) 0) 3 (Nat.add (Nat.mul 4 (Nat.div n 4)) 2))])) none
  | [.str s] => cond (natsEq s [43]) (some (.agg [.int .i64 (.ofNat 1), .int .i64 (.ofNat 1)])) none
  | _ => none
def oraF (iLen iText iLeaf : FuncId) (g : FuncId) (l : List AV) : Option AV := cond (Nat.beq g iLen) (oraLen l) (cond (Nat.beq g iText) (oraText l) (cond (Nat.beq g iLeaf) (oraLeaf l) none))
/-- With what is told of some functions. -/
def overOf (ora : FuncId → List AV → Option AV) (rec : Rec) : Rec := fun f args A => FnV.rec (motive := fun _ => Res) (rec f args A) (fun g a b => oE (rec f args A) (fun v => .ok v A) (ora g (appN a (appN args b)))) (fun _ => rec f args A) (fnOf f)
def recO (P : Program) (T : Tab) (F : Fns) (prim ora : FuncId → List AV → Option AV) (n : Nat) : Rec := Nat.rec (motive := fun _ => Rec) (fun _ _ _ => .bad) (fun _ ih => overOf ora (callOf P T F prim ih)) n
/-- Only these places are spoken of. -/
def idOk (ids : List Nat) : AV → Bool
  | .bool _ | .int _ _ | .str _ | .nilp | .nils | .nilm | .nilf | .nili => true
  | .ptr i _ | .sx i _ _ _ | .su i _ _ | .map i => ids.any (Nat.beq i)
  | _ => false
/-- One plain value? -/
def avEq : AV → AV → Bool
  | .bool a, .bool b => bEq a b
  | .int j a, .int k b => Nat.beq (kNum j) (kNum k) && iEq a b
  | .str a, .str b => natsEq a b
  | .nilp, .nilp => true
  | .ptr i o, .ptr j p => Nat.beq i j && Nat.beq o p
  | .nils, .nils => true
  | .sx i o n c, .sx j p m d => Nat.beq i j && Nat.beq o p && Nat.beq n m && Nat.beq c d
  | .su i o n, .su j p m => Nat.beq i j && Nat.beq o p && Nat.beq n m
  | .nilm, .nilm => true
  | .map i, .map j => Nat.beq i j
  | .nilf, .nilf => true
  | .nili, .nili => true
  | _, _ => false
/-- The first cells. -/
def pre : List AV → List AV → Bool
  | [], _ => true
  | a :: l, b :: m => avEq a b && pre l m
  | _ :: _, [] => false
def agree (ids : List Nat) (x y : Option AO) : Bool := match x, y with
  | some (.ro l), some (.ro m) => pre m l && m.all (idOk ids)
  | some _, some .dead => true
  | _, _ => false
end
end Go.B
