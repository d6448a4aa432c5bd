/-
  The shelf's premise at this program: printed by lays.py. Conditions: none.
-/
import Derived.Test.YtkhfdckieocciaaDoorProg
import Derived.Shelf.Strconv.Itoa3
import Derived.KernelRfl
namespace Go.Proofs.YtkhfdckieocciaaDoor
open Go Go.Shelf Go.Proofs
set_option maxRecDepth 100000

def ren246 : Ren := ⟨fun x => bif Nat.beq x 129 then 58 else bif Nat.beq x 246 then 48 else bif Nat.beq x 283 then 53 else bif Nat.beq x 284 then 54 else bif Nat.beq x 285 then 55 else bif Nat.beq x 286 then 56 else bif Nat.beq x 317 then 57 else bif Nat.beq x 318 then 59 else bif Nat.beq x 319 then 60 else bif Nat.beq x 320 then 61 else bif Nat.beq x 337 then 62 else bif Nat.beq x 338 then 63 else 0, fun x => bif Nat.beq x 0 then 0 else bif Nat.beq x 2 then 2 else bif Nat.beq x 3 then 3 else bif Nat.beq x 4 then 4 else bif Nat.beq x 5 then 5 else bif Nat.beq x 9 then 9 else bif Nat.beq x 20 then 20 else bif Nat.beq x 37 then 32 else bif Nat.beq x 46 then 74 else bif Nat.beq x 51 then 71 else bif Nat.beq x 53 then 64 else bif Nat.beq x 171 then 63 else bif Nat.beq x 173 then 67 else bif Nat.beq x 212 then 70 else bif Nat.beq x 213 then 72 else bif Nat.beq x 232 then 77 else bif Nat.beq x 233 then 78 else 0, fun x => bif Nat.beq x 17 then 0 else bif Nat.beq x 18 then 1 else bif Nat.beq x 19 then 2 else 0⟩

theorem lays246 : Lays.n246 Tryd.prog ren246 where
  mixed := by kernel_rfl
  f129 := (Tryd.func58).trans (congrArg some (show Tryd.f58 = Body.n129 ren246 by kernel_rfl))
  f246 := (Tryd.func48).trans (congrArg some (show Tryd.f48 = Body.n246 ren246 by kernel_rfl))
  f283 := (Tryd.func53).trans (congrArg some (show Tryd.f53 = Body.n283 ren246 by kernel_rfl))
  f284 := (Tryd.func54).trans (congrArg some (show Tryd.f54 = Body.n284 ren246 by kernel_rfl))
  f285 := (Tryd.func55).trans (congrArg some (show Tryd.f55 = Body.n285 ren246 by kernel_rfl))
  f286 := (Tryd.func56).trans (congrArg some (show Tryd.f56 = Body.n286 ren246 by kernel_rfl))
  f317 := (Tryd.func57).trans (congrArg some (show Tryd.f57 = Body.n317 ren246 by kernel_rfl))
  f318 := (Tryd.func59).trans (congrArg some (show Tryd.f59 = Body.n318 ren246 by kernel_rfl))
  f319 := (Tryd.func60).trans (congrArg some (show Tryd.f60 = Body.n319 ren246 by kernel_rfl))
  f320 := (Tryd.func61).trans (congrArg some (show Tryd.f61 = Body.n320 ren246 by kernel_rfl))
  f337 := (Tryd.func62).trans (congrArg some (show Tryd.f62 = Body.n337 ren246 by kernel_rfl))
  f338 := (Tryd.func63).trans (congrArg some (show Tryd.f63 = Body.n338 ren246 by kernel_rfl))
  t0 := Tryd.underlying0
  a0 := Tryd.isAgg0
  z0 := Tryd.sizeOf0
  v0 := Tryd.zeroValue0
  t2 := Tryd.underlying2
  a2 := Tryd.isAgg2
  z2 := Tryd.sizeOf2
  v2 := Tryd.zeroValue2
  t3 := Tryd.underlying3
  a3 := Tryd.isAgg3
  z3 := Tryd.sizeOf3
  v3 := Tryd.zeroValue3
  t4 := Tryd.underlying4
  a4 := Tryd.isAgg4
  z4 := Tryd.sizeOf4
  v4 := Tryd.zeroValue4
  t5 := Tryd.underlying5
  a5 := Tryd.isAgg5
  z5 := Tryd.sizeOf5
  v5 := Tryd.zeroValue5
  t9 := Tryd.underlying9
  a9 := Tryd.isAgg9
  z9 := Tryd.sizeOf9
  v9 := Tryd.zeroValue9
  t20 := Tryd.underlying20
  a20 := Tryd.isAgg20
  z20 := Tryd.sizeOf20
  v20 := Tryd.zeroValue20
  t37 := Tryd.underlying32
  a37 := Tryd.isAgg32
  z37 := Tryd.sizeOf32
  v37 := Tryd.zeroValue32
  t46 := Tryd.underlying74
  a46 := Tryd.isAgg74
  z46 := Tryd.sizeOf74
  v46 := Tryd.zeroValue74
  t51 := Tryd.underlying71
  a51 := Tryd.isAgg71
  z51 := Tryd.sizeOf71
  v51 := Tryd.zeroValue71
  t53 := Tryd.underlying64
  a53 := Tryd.isAgg64
  z53 := Tryd.sizeOf64
  v53 := Tryd.zeroValue64
  t171 := Tryd.underlying63
  a171 := Tryd.isAgg63
  z171 := Tryd.sizeOf63
  v171 := Tryd.zeroValue63
  t173 := Tryd.underlying67
  a173 := Tryd.isAgg67
  z173 := Tryd.sizeOf67
  v173 := Tryd.zeroValue67
  t212 := Tryd.underlying70
  a212 := Tryd.isAgg70
  z212 := Tryd.sizeOf70
  v212 := Tryd.zeroValue70
  t213 := Tryd.underlying72
  a213 := Tryd.isAgg72
  z213 := Tryd.sizeOf72
  t232 := Tryd.underlying77
  a232 := Tryd.isAgg77
  z232 := Tryd.sizeOf77
  v232 := Tryd.zeroValue77
  t233 := Tryd.underlying78
  a233 := Tryd.isAgg78
  z233 := Tryd.sizeOf78
  v233 := Tryd.zeroValue78
  g17 := by kernel_rfl
  g18 := by kernel_rfl
  g19 := by kernel_rfl

theorem laysM246 : LaysM.n246 Tryd.prog ren246 := { lays246 with
  i0 := by kernel_rfl
  i2 := by kernel_rfl
  i3 := by kernel_rfl
  i4 := by kernel_rfl
  i5 := by kernel_rfl
  i9 := by kernel_rfl
  i20 := by kernel_rfl
  i37 := by kernel_rfl
  i46 := by kernel_rfl
  i51 := by kernel_rfl
  i53 := by kernel_rfl
  i171 := by kernel_rfl
  i173 := by kernel_rfl
  i212 := by kernel_rfl
  i232 := by kernel_rfl
  i233 := by kernel_rfl
  m17 := by kernel_rfl
  m18 := by kernel_rfl
  m19 := by kernel_rfl
  }
end Go.Proofs.YtkhfdckieocciaaDoor
