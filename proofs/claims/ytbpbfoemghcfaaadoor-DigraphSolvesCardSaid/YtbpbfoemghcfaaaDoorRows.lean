/-
  NARROWER THAN 'FOR EVERY INPUT', by the rows' own cells (each row's printed sentence says how): DigraphSolves: laid · DigraphParts: laid · DigraphCloses: laid · DigraphLeast: laid · DigraphShared: laid · DigraphOwn: laid.
  DERIVED. THE GIVEN ROWS OF THIS SEAT. 6 by the template 'for every input the law returns true; each argument reads behind the call as it read before'; 0 by the template 'total and deterministic' (their statements: YtbpbfoemghcfaaaDoorTotals.lean).
  GIVEN WITH THE SEED: the statements are not yours to turn. If you find one false, say at which input.
  Laid BY PROGRAM, IN A SANDBOX (cutbox-rows.mjs): the forced cells as the released guide's own fill.sh prints them over the translation 3e36da9ca630d99e… (all of the seat's roots in one cut). By AI agents, Wed Nov 11 2026. No macro, syntax, notation, axiom, sorry.
-/
import Derived.Test.YtbpbfoemghcfaaaDoorChecked
import GoSem.Claim
import GoSem.ClaimJoined
import GoSem.ClaimMapViews
import Derived.JoinedTies
import Derived.KernelRfl
namespace Go.Proofs.YtbpbfoemghcfaaaDoor
/- THE CELL 'sum', in the pinned program and in every row, IS THE sha256 OF THE DUMP (.gsa) THAT YtbpbfoemghcfaaaDoorProg.lean LOADS. Nothing in Lean hashes anything: it is a label: what it is worth is what the hold of that sum in a sandbox is worth. -/
noncomputable def Tryd.pinned : Pinned := { name := "ytbpbfoemghcfaaadoor", sum := "3e36da9ca630d99e88dda0f809ba1346f161b3b2352a68b53867c1be1afd6ffa", checked := Tryd.checked }
namespace Rows
def none {H : Type} : Left H := { results := [], args := [] }

/- WHAT THE LISTED PACKAGE-LEVEL VARIABLES READ AS WHEN THE CALL BEGINS. Each datum BY PROGRAM (the guide's laid-datum.mjs) off the statement by which the dump's own 'gosem.cut.vars' lays the variable. In a bare row this is a premise. The card (YtbpbfoemghcfaaaDoorCards.lean) ties it to the program's text. -/
def laid_math_bits_deBruijn64tab {H : Type} : DataW H := .agg [.lit (.int .u8 0), .lit (.int .u8 1), .lit (.int .u8 56), .lit (.int .u8 2), .lit (.int .u8 57), .lit (.int .u8 49), .lit (.int .u8 28), .lit (.int .u8 3), .lit (.int .u8 61), .lit (.int .u8 58), .lit (.int .u8 42), .lit (.int .u8 50), .lit (.int .u8 38), .lit (.int .u8 29), .lit (.int .u8 17), .lit (.int .u8 4), .lit (.int .u8 62), .lit (.int .u8 47), .lit (.int .u8 59), .lit (.int .u8 36), .lit (.int .u8 45), .lit (.int .u8 43), .lit (.int .u8 51), .lit (.int .u8 22), .lit (.int .u8 53), .lit (.int .u8 39), .lit (.int .u8 33), .lit (.int .u8 30), .lit (.int .u8 24), .lit (.int .u8 18), .lit (.int .u8 12), .lit (.int .u8 5), .lit (.int .u8 63), .lit (.int .u8 55), .lit (.int .u8 48), .lit (.int .u8 27), .lit (.int .u8 60), .lit (.int .u8 41), .lit (.int .u8 37), .lit (.int .u8 16), .lit (.int .u8 46), .lit (.int .u8 35), .lit (.int .u8 44), .lit (.int .u8 21), .lit (.int .u8 52), .lit (.int .u8 32), .lit (.int .u8 23), .lit (.int .u8 11), .lit (.int .u8 54), .lit (.int .u8 26), .lit (.int .u8 40), .lit (.int .u8 15), .lit (.int .u8 34), .lit (.int .u8 20), .lit (.int .u8 31), .lit (.int .u8 10), .lit (.int .u8 25), .lit (.int .u8 14), .lit (.int .u8 19), .lit (.int .u8 9), .lit (.int .u8 13), .lit (.int .u8 8), .lit (.int .u8 7), .lit (.int .u8 6)]

/-- 'tronagelaw12.DigraphSolves': WHATEVER THE INPUT: true; the input reads as it did. -/
def digraphSolvesSpec : ChangeSpec := { name := "digraphSolves", fn := fun _ => fun
  | [d1, d2, d3] => { results := [.lit (.bool true)], args := [d1, d2, d3] }
  | _ => none }
def digraphSolvesRow : OpenClaim := { program := "ytbpbfoemghcfaaadoor", sum := "3e36da9ca630d99e88dda0f809ba1346f161b3b2352a68b53867c1be1afd6ffa", func := "tronage/tronagelaw12.DigraphSolves", spec := "digraphSolves", unfollowed := true, recurses := true, named := ["math/bits.deBruijn64tab"], apart := false, laid := [("math/bits.deBruijn64tab", laid_math_bits_deBruijn64tab)] }
def DigraphSolvesSaid : Prop := digraphSolvesRow.holds Tryd.pinned (OpenSpec.ofChange digraphSolvesSpec)

/-- ITS FALSE NEIGHBOUR: 'it returns false'. Refute it at one input. -/
def digraphSolvesWrong : ChangeSpec := { name := "digraphSolves", fn := fun _ => fun
  | [d1, d2, d3] => { results := [.lit (.bool false)], args := [d1, d2, d3] }
  | _ => none }
def DigraphSolvesWrongFalsely : Prop := digraphSolvesRow.holds Tryd.pinned (OpenSpec.ofChange digraphSolvesWrong)

/-- 'tronagelaw12.DigraphParts': WHATEVER THE INPUT: true; the input reads as it did. -/
def digraphPartsSpec : ChangeSpec := { name := "digraphParts", fn := fun _ => fun
  | [d] => { results := [.lit (.bool true)], args := [d] }
  | _ => none }
def digraphPartsRow : OpenClaim := { program := "ytbpbfoemghcfaaadoor", sum := "3e36da9ca630d99e88dda0f809ba1346f161b3b2352a68b53867c1be1afd6ffa", func := "tronage/tronagelaw12.DigraphParts", spec := "digraphParts", unfollowed := true, recurses := true, named := ["math/bits.deBruijn64tab"], apart := false, laid := [("math/bits.deBruijn64tab", laid_math_bits_deBruijn64tab)] }
def DigraphPartsSaid : Prop := digraphPartsRow.holds Tryd.pinned (OpenSpec.ofChange digraphPartsSpec)

/-- ITS FALSE NEIGHBOUR: 'it returns false'. Refute it at one input. -/
def digraphPartsWrong : ChangeSpec := { name := "digraphParts", fn := fun _ => fun
  | [d] => { results := [.lit (.bool false)], args := [d] }
  | _ => none }
def DigraphPartsWrongFalsely : Prop := digraphPartsRow.holds Tryd.pinned (OpenSpec.ofChange digraphPartsWrong)

/-- 'tronagelaw12.DigraphCloses': WHATEVER THE INPUT: true; the input reads as it did. -/
def digraphClosesSpec : ChangeSpec := { name := "digraphCloses", fn := fun _ => fun
  | [d1, d2] => { results := [.lit (.bool true)], args := [d1, d2] }
  | _ => none }
def digraphClosesRow : OpenClaim := { program := "ytbpbfoemghcfaaadoor", sum := "3e36da9ca630d99e88dda0f809ba1346f161b3b2352a68b53867c1be1afd6ffa", func := "tronage/tronagelaw12.DigraphCloses", spec := "digraphCloses", unfollowed := true, recurses := true, named := ["math/bits.deBruijn64tab"], apart := false, laid := [("math/bits.deBruijn64tab", laid_math_bits_deBruijn64tab)] }
def DigraphClosesSaid : Prop := digraphClosesRow.holds Tryd.pinned (OpenSpec.ofChange digraphClosesSpec)

/-- ITS FALSE NEIGHBOUR: 'it returns false'. Refute it at one input. -/
def digraphClosesWrong : ChangeSpec := { name := "digraphCloses", fn := fun _ => fun
  | [d1, d2] => { results := [.lit (.bool false)], args := [d1, d2] }
  | _ => none }
def DigraphClosesWrongFalsely : Prop := digraphClosesRow.holds Tryd.pinned (OpenSpec.ofChange digraphClosesWrong)

/-- 'tronagelaw12.DigraphLeast': WHATEVER THE INPUT: true; the input reads as it did. -/
def digraphLeastSpec : ChangeSpec := { name := "digraphLeast", fn := fun _ => fun
  | [d1, d2, d3] => { results := [.lit (.bool true)], args := [d1, d2, d3] }
  | _ => none }
def digraphLeastRow : OpenClaim := { program := "ytbpbfoemghcfaaadoor", sum := "3e36da9ca630d99e88dda0f809ba1346f161b3b2352a68b53867c1be1afd6ffa", func := "tronage/tronagelaw12.DigraphLeast", spec := "digraphLeast", unfollowed := true, recurses := true, named := ["math/bits.deBruijn64tab"], apart := false, laid := [("math/bits.deBruijn64tab", laid_math_bits_deBruijn64tab)] }
def DigraphLeastSaid : Prop := digraphLeastRow.holds Tryd.pinned (OpenSpec.ofChange digraphLeastSpec)

/-- ITS FALSE NEIGHBOUR: 'it returns false'. Refute it at one input. -/
def digraphLeastWrong : ChangeSpec := { name := "digraphLeast", fn := fun _ => fun
  | [d1, d2, d3] => { results := [.lit (.bool false)], args := [d1, d2, d3] }
  | _ => none }
def DigraphLeastWrongFalsely : Prop := digraphLeastRow.holds Tryd.pinned (OpenSpec.ofChange digraphLeastWrong)

/-- 'tronagelaw12.DigraphShared': WHATEVER THE INPUT: true; the input reads as it did. -/
def digraphSharedSpec : ChangeSpec := { name := "digraphShared", fn := fun _ => fun
  | [d1, d2] => { results := [.lit (.bool true)], args := [d1, d2] }
  | _ => none }
def digraphSharedRow : OpenClaim := { program := "ytbpbfoemghcfaaadoor", sum := "3e36da9ca630d99e88dda0f809ba1346f161b3b2352a68b53867c1be1afd6ffa", func := "tronage/tronagelaw12.DigraphShared", spec := "digraphShared", unfollowed := true, recurses := true, named := ["math/bits.deBruijn64tab"], apart := false, laid := [("math/bits.deBruijn64tab", laid_math_bits_deBruijn64tab)] }
def DigraphSharedSaid : Prop := digraphSharedRow.holds Tryd.pinned (OpenSpec.ofChange digraphSharedSpec)

/-- ITS FALSE NEIGHBOUR: 'it returns false'. Refute it at one input. -/
def digraphSharedWrong : ChangeSpec := { name := "digraphShared", fn := fun _ => fun
  | [d1, d2] => { results := [.lit (.bool false)], args := [d1, d2] }
  | _ => none }
def DigraphSharedWrongFalsely : Prop := digraphSharedRow.holds Tryd.pinned (OpenSpec.ofChange digraphSharedWrong)

/-- 'tronagelaw12.DigraphOwn': WHATEVER THE INPUT: true; the input reads as it did. -/
def digraphOwnSpec : ChangeSpec := { name := "digraphOwn", fn := fun _ => fun
  | [d1, d2] => { results := [.lit (.bool true)], args := [d1, d2] }
  | _ => none }
def digraphOwnRow : OpenClaim := { program := "ytbpbfoemghcfaaadoor", sum := "3e36da9ca630d99e88dda0f809ba1346f161b3b2352a68b53867c1be1afd6ffa", func := "tronage/tronagelaw12.DigraphOwn", spec := "digraphOwn", unfollowed := true, recurses := true, named := ["math/bits.deBruijn64tab"], apart := false, laid := [("math/bits.deBruijn64tab", laid_math_bits_deBruijn64tab)] }
def DigraphOwnSaid : Prop := digraphOwnRow.holds Tryd.pinned (OpenSpec.ofChange digraphOwnSpec)

/-- ITS FALSE NEIGHBOUR: 'it returns false'. Refute it at one input. -/
def digraphOwnWrong : ChangeSpec := { name := "digraphOwn", fn := fun _ => fun
  | [d1, d2] => { results := [.lit (.bool false)], args := [d1, d2] }
  | _ => none }
def DigraphOwnWrongFalsely : Prop := digraphOwnRow.holds Tryd.pinned (OpenSpec.ofChange digraphOwnWrong)

/- THE SECOND FORM. 'bulk': how many values and letters a reading holds, each counted each time it is reached (what is shared counts as often as it is met; a slice's spare places count too). A statement '..UptoSaid' is the law's where the arguments, and the package variables that the reading takes, are together of bulk at most 1048576: NARROWER than '..Said'. Prove '..Said' where nothing that the law and all that it calls make is longer than what came in: it says more and counts as full. Else prove '..UptoSaid'. A law counts once. -/
mutual
def uptoBulk {H : Type} : DataW H → Nat
  | .lit (.string bytes) => bytes.length + 1
  | .lit _ => 1
  | .nil => 1
  | .ptr d => uptoBulk d + 1
  | .slice elems spare => uptoBulkAll elems + uptoBulkAll spare + 1
  | .agg parts => uptoBulkAll parts + 1
  | .iface _ d => uptoBulk d + 1
  | .map entries => uptoBulkEntries entries + 1
  | .held _ => 1
def uptoBulkAll {H : Type} : List (DataW H) → Nat
  | [] => 0
  | d :: r => uptoBulk d + uptoBulkAll r
def uptoBulkEntries {H : Type} : List (Lit × DataW H) → Nat
  | [] => 0
  | x :: r => uptoBulkEntry x + uptoBulkEntries r
def uptoBulkEntry {H : Type} : Lit × DataW H → Nat
  | (.string bytes, d) => bytes.length + uptoBulk d + 1
  | (_, d) => uptoBulk d + 1
 end
def uptoSmall : (H : Type) → List (DataW H) → Bool := fun _ ds => decide (uptoBulkAll ds ≤ 1048576)
def OpenSpec.upto (s : _root_.Go.ChangeSpec) : _root_.Go.OpenSpec := { _root_.Go.OpenSpec.ofChange s with cond := some uptoSmall }

/-- 'tronagelaw12.DigraphSolves', WHERE WHAT IT READS IS OF BULK AT MOST 1048576: true; the input reads as it did. -/
def digraphSolvesUptoRow : OpenClaim := { program := "ytbpbfoemghcfaaadoor", sum := "3e36da9ca630d99e88dda0f809ba1346f161b3b2352a68b53867c1be1afd6ffa", func := "tronage/tronagelaw12.DigraphSolves", spec := "digraphSolves", unfollowed := true, recurses := true, named := ["math/bits.deBruijn64tab"], apart := false, laid := [("math/bits.deBruijn64tab", laid_math_bits_deBruijn64tab)], narrowed := true }
def DigraphSolvesUptoSaid : Prop := digraphSolvesUptoRow.holds Tryd.pinned (OpenSpec.upto digraphSolvesSpec)

/-- 'tronagelaw12.DigraphParts', WHERE WHAT IT READS IS OF BULK AT MOST 1048576: true; the input reads as it did. -/
def digraphPartsUptoRow : OpenClaim := { program := "ytbpbfoemghcfaaadoor", sum := "3e36da9ca630d99e88dda0f809ba1346f161b3b2352a68b53867c1be1afd6ffa", func := "tronage/tronagelaw12.DigraphParts", spec := "digraphParts", unfollowed := true, recurses := true, named := ["math/bits.deBruijn64tab"], apart := false, laid := [("math/bits.deBruijn64tab", laid_math_bits_deBruijn64tab)], narrowed := true }
def DigraphPartsUptoSaid : Prop := digraphPartsUptoRow.holds Tryd.pinned (OpenSpec.upto digraphPartsSpec)

/-- 'tronagelaw12.DigraphCloses', WHERE WHAT IT READS IS OF BULK AT MOST 1048576: true; the input reads as it did. -/
def digraphClosesUptoRow : OpenClaim := { program := "ytbpbfoemghcfaaadoor", sum := "3e36da9ca630d99e88dda0f809ba1346f161b3b2352a68b53867c1be1afd6ffa", func := "tronage/tronagelaw12.DigraphCloses", spec := "digraphCloses", unfollowed := true, recurses := true, named := ["math/bits.deBruijn64tab"], apart := false, laid := [("math/bits.deBruijn64tab", laid_math_bits_deBruijn64tab)], narrowed := true }
def DigraphClosesUptoSaid : Prop := digraphClosesUptoRow.holds Tryd.pinned (OpenSpec.upto digraphClosesSpec)

/-- 'tronagelaw12.DigraphLeast', WHERE WHAT IT READS IS OF BULK AT MOST 1048576: true; the input reads as it did. -/
def digraphLeastUptoRow : OpenClaim := { program := "ytbpbfoemghcfaaadoor", sum := "3e36da9ca630d99e88dda0f809ba1346f161b3b2352a68b53867c1be1afd6ffa", func := "tronage/tronagelaw12.DigraphLeast", spec := "digraphLeast", unfollowed := true, recurses := true, named := ["math/bits.deBruijn64tab"], apart := false, laid := [("math/bits.deBruijn64tab", laid_math_bits_deBruijn64tab)], narrowed := true }
def DigraphLeastUptoSaid : Prop := digraphLeastUptoRow.holds Tryd.pinned (OpenSpec.upto digraphLeastSpec)

/-- 'tronagelaw12.DigraphShared', WHERE WHAT IT READS IS OF BULK AT MOST 1048576: true; the input reads as it did. -/
def digraphSharedUptoRow : OpenClaim := { program := "ytbpbfoemghcfaaadoor", sum := "3e36da9ca630d99e88dda0f809ba1346f161b3b2352a68b53867c1be1afd6ffa", func := "tronage/tronagelaw12.DigraphShared", spec := "digraphShared", unfollowed := true, recurses := true, named := ["math/bits.deBruijn64tab"], apart := false, laid := [("math/bits.deBruijn64tab", laid_math_bits_deBruijn64tab)], narrowed := true }
def DigraphSharedUptoSaid : Prop := digraphSharedUptoRow.holds Tryd.pinned (OpenSpec.upto digraphSharedSpec)

/-- 'tronagelaw12.DigraphOwn', WHERE WHAT IT READS IS OF BULK AT MOST 1048576: true; the input reads as it did. -/
def digraphOwnUptoRow : OpenClaim := { program := "ytbpbfoemghcfaaadoor", sum := "3e36da9ca630d99e88dda0f809ba1346f161b3b2352a68b53867c1be1afd6ffa", func := "tronage/tronagelaw12.DigraphOwn", spec := "digraphOwn", unfollowed := true, recurses := true, named := ["math/bits.deBruijn64tab"], apart := false, laid := [("math/bits.deBruijn64tab", laid_math_bits_deBruijn64tab)], narrowed := true }
def DigraphOwnUptoSaid : Prop := digraphOwnUptoRow.holds Tryd.pinned (OpenSpec.upto digraphOwnSpec)

end Rows
end Go.Proofs.YtbpbfoemghcfaaaDoor
