/-
  The shelf's premise at this program: printed by lays.py. Conditions: none.
-/
import Derived.Test.YtklamaeccniblaaDoorProg
import Derived.Shelf.Strconv.AppendIntPublic10
import Derived.KernelRfl
namespace Go.Proofs.YtklamaeccniblaaDoor
open Go Go.Shelf Go.Proofs
set_option maxRecDepth 100000

def ren176 : Ren := ⟨fun x => bif Nat.beq x 129 then 34 else bif Nat.beq x 176 then 25 else bif Nat.beq x 249 then 27 else bif Nat.beq x 283 then 29 else bif Nat.beq x 284 then 30 else bif Nat.beq x 285 then 31 else bif Nat.beq x 286 then 32 else bif Nat.beq x 288 then 28 else bif Nat.beq x 317 then 33 else bif Nat.beq x 318 then 35 else bif Nat.beq x 319 then 36 else bif Nat.beq x 320 then 37 else bif Nat.beq x 337 then 38 else bif Nat.beq x 338 then 39 else 0, fun x => bif Nat.beq x 0 then 0 else bif Nat.beq x 2 then 2 else bif Nat.beq x 3 then 3 else bif Nat.beq x 4 then 4 else bif Nat.beq x 5 then 5 else bif Nat.beq x 9 then 9 else bif Nat.beq x 20 then 20 else bif Nat.beq x 37 then 23 else bif Nat.beq x 46 then 65 else bif Nat.beq x 51 then 62 else bif Nat.beq x 53 then 52 else bif Nat.beq x 171 then 55 else bif Nat.beq x 173 then 58 else bif Nat.beq x 212 then 61 else bif Nat.beq x 213 then 63 else bif Nat.beq x 232 then 68 else bif Nat.beq x 233 then 69 else 0, fun x => bif Nat.beq x 17 then 0 else bif Nat.beq x 18 then 1 else bif Nat.beq x 19 then 2 else 0⟩

theorem lays176 : Lays.n176 Tryd.prog ren176 where
  mixed := by kernel_rfl
  f129 := (Tryd.func34).trans (congrArg some (show Tryd.f34 = Body.n129 ren176 by kernel_rfl))
  f176 := (Tryd.func25).trans (congrArg some (show Tryd.f25 = Body.n176 ren176 by kernel_rfl))
  f249 := (Tryd.func27).trans (congrArg some (show Tryd.f27 = Body.n249 ren176 by kernel_rfl))
  f283 := (Tryd.func29).trans (congrArg some (show Tryd.f29 = Body.n283 ren176 by kernel_rfl))
  f284 := (Tryd.func30).trans (congrArg some (show Tryd.f30 = Body.n284 ren176 by kernel_rfl))
  f285 := (Tryd.func31).trans (congrArg some (show Tryd.f31 = Body.n285 ren176 by kernel_rfl))
  f286 := (Tryd.func32).trans (congrArg some (show Tryd.f32 = Body.n286 ren176 by kernel_rfl))
  f288 := (Tryd.func28).trans (congrArg some (show Tryd.f28 = Body.n288 ren176 by kernel_rfl))
  f317 := (Tryd.func33).trans (congrArg some (show Tryd.f33 = Body.n317 ren176 by kernel_rfl))
  f318 := (Tryd.func35).trans (congrArg some (show Tryd.f35 = Body.n318 ren176 by kernel_rfl))
  f319 := (Tryd.func36).trans (congrArg some (show Tryd.f36 = Body.n319 ren176 by kernel_rfl))
  f320 := (Tryd.func37).trans (congrArg some (show Tryd.f37 = Body.n320 ren176 by kernel_rfl))
  f337 := (Tryd.func38).trans (congrArg some (show Tryd.f38 = Body.n337 ren176 by kernel_rfl))
  f338 := (Tryd.func39).trans (congrArg some (show Tryd.f39 = Body.n338 ren176 by kernel_rfl))
  t0 := Tryd.underlying0
  a0 := Tryd.isAgg0
  z0 := Tryd.sizeOf0
  v0 := Tryd.zeroValue0
  t2 := Tryd.underlying2
  a2 := Tryd.isAgg2
  z2 := Tryd.sizeOf2
  v2 := Tryd.zeroValue2
  t3 := Tryd.underlying3
  a3 := Tryd.isAgg3
  z3 := Tryd.sizeOf3
  v3 := Tryd.zeroValue3
  t4 := Tryd.underlying4
  a4 := Tryd.isAgg4
  z4 := Tryd.sizeOf4
  v4 := Tryd.zeroValue4
  t5 := Tryd.underlying5
  a5 := Tryd.isAgg5
  z5 := Tryd.sizeOf5
  v5 := Tryd.zeroValue5
  t9 := Tryd.underlying9
  a9 := Tryd.isAgg9
  z9 := Tryd.sizeOf9
  v9 := Tryd.zeroValue9
  t20 := Tryd.underlying20
  a20 := Tryd.isAgg20
  z20 := Tryd.sizeOf20
  v20 := Tryd.zeroValue20
  t37 := Tryd.underlying23
  a37 := Tryd.isAgg23
  z37 := Tryd.sizeOf23
  v37 := Tryd.zeroValue23
  t46 := Tryd.underlying65
  a46 := Tryd.isAgg65
  z46 := Tryd.sizeOf65
  v46 := Tryd.zeroValue65
  t51 := Tryd.underlying62
  a51 := Tryd.isAgg62
  z51 := Tryd.sizeOf62
  v51 := Tryd.zeroValue62
  t53 := Tryd.underlying52
  a53 := Tryd.isAgg52
  z53 := Tryd.sizeOf52
  v53 := Tryd.zeroValue52
  t171 := Tryd.underlying55
  a171 := Tryd.isAgg55
  z171 := Tryd.sizeOf55
  v171 := Tryd.zeroValue55
  t173 := Tryd.underlying58
  a173 := Tryd.isAgg58
  z173 := Tryd.sizeOf58
  v173 := Tryd.zeroValue58
  t212 := Tryd.underlying61
  a212 := Tryd.isAgg61
  z212 := Tryd.sizeOf61
  v212 := Tryd.zeroValue61
  t213 := Tryd.underlying63
  a213 := Tryd.isAgg63
  z213 := Tryd.sizeOf63
  t232 := Tryd.underlying68
  a232 := Tryd.isAgg68
  z232 := Tryd.sizeOf68
  v232 := Tryd.zeroValue68
  t233 := Tryd.underlying69
  a233 := Tryd.isAgg69
  z233 := Tryd.sizeOf69
  v233 := Tryd.zeroValue69
  g17 := by kernel_rfl
  g18 := by kernel_rfl
  g19 := by kernel_rfl

theorem laysM176 : LaysM.n176 Tryd.prog ren176 := { lays176 with
  i0 := by kernel_rfl
  i2 := by kernel_rfl
  i3 := by kernel_rfl
  i4 := by kernel_rfl
  i5 := by kernel_rfl
  i9 := by kernel_rfl
  i20 := by kernel_rfl
  i37 := by kernel_rfl
  i46 := by kernel_rfl
  i51 := by kernel_rfl
  i53 := by kernel_rfl
  i171 := by kernel_rfl
  i173 := by kernel_rfl
  i212 := by kernel_rfl
  i232 := by kernel_rfl
  i233 := by kernel_rfl
  m17 := by kernel_rfl
  m18 := by kernel_rfl
  m19 := by kernel_rfl
  }
end Go.Proofs.YtklamaeccniblaaDoor
