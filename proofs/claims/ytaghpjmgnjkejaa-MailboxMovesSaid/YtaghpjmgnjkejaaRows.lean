/-
  No cell of these rows narrows 'for every input' (looked for: loops, veiled, ifaces, maps, wideKeys, modest, calm, conditions, laid).
  DERIVED. THE GIVEN ROWS OF THIS SEAT. 5 by the template 'for every input the law returns true; each argument reads behind the call as it read before'; 0 by the template 'total and deterministic' (their statements: YtaghpjmgnjkejaaTotals.lean).
  GIVEN WITH THE SEED: the statements are not yours to turn. If you find one false, say at which input.
  Laid BY PROGRAM, IN A SANDBOX (cutbox-rows.mjs): the forced cells as the released guide's own fill.sh prints them over the translation 7905487d6a1d765b… (all of the seat's roots in one cut). By AI agents, Wed Nov 11 2026. No macro, syntax, notation, axiom, sorry.
-/
import Derived.Test.YtaghpjmgnjkejaaChecked
import GoSem.Claim
import GoSem.ClaimJoined
import GoSem.ClaimMapViews
import Derived.JoinedTies
import Derived.KernelRfl
namespace Go.Proofs.Ytaghpjmgnjkejaa
/- THE CELL 'sum', in the pinned program and in every row, IS THE sha256 OF THE DUMP (.gsa) THAT YtaghpjmgnjkejaaProg.lean LOADS. Nothing in Lean hashes anything: it is a label: what it is worth is what the hold of that sum in a sandbox is worth. -/
noncomputable def Try.pinned : Pinned := { name := "ytaghpjmgnjkejaa", sum := "7905487d6a1d765bc80dabbc7dd2a90a8bbd2b976a05fa93e84d4a0bc7ad7ab2", checked := Try.checked }
namespace Rows
def none {H : Type} : Left H := { results := [], args := [] }

/-- 'tronagelaw04.MailboxLooks': WHATEVER THE INPUT: true; the input reads as it did. -/
def mailboxLooksSpec : ChangeSpec := { name := "mailboxLooks", fn := fun _ => fun
  | [d1, d2, d3] => { results := [.lit (.bool true)], args := [d1, d2, d3] }
  | _ => none }
def mailboxLooksRow : OpenClaim := { program := "ytaghpjmgnjkejaa", sum := "7905487d6a1d765bc80dabbc7dd2a90a8bbd2b976a05fa93e84d4a0bc7ad7ab2", func := "tronage/tronagelaw04.MailboxLooks", spec := "mailboxLooks", apart := false }
def MailboxLooksSaid : Prop := mailboxLooksRow.holds Try.pinned (OpenSpec.ofChange mailboxLooksSpec)

/-- ITS FALSE NEIGHBOUR: 'it returns false'. Refute it at one input. -/
def mailboxLooksWrong : ChangeSpec := { name := "mailboxLooks", fn := fun _ => fun
  | [d1, d2, d3] => { results := [.lit (.bool false)], args := [d1, d2, d3] }
  | _ => none }
def MailboxLooksWrongFalsely : Prop := mailboxLooksRow.holds Try.pinned (OpenSpec.ofChange mailboxLooksWrong)

/-- 'tronagelaw04.MailboxOrder': WHATEVER THE INPUT: true; the input reads as it did. -/
def mailboxOrderSpec : ChangeSpec := { name := "mailboxOrder", fn := fun _ => fun
  | [d1, d2] => { results := [.lit (.bool true)], args := [d1, d2] }
  | _ => none }
def mailboxOrderRow : OpenClaim := { program := "ytaghpjmgnjkejaa", sum := "7905487d6a1d765bc80dabbc7dd2a90a8bbd2b976a05fa93e84d4a0bc7ad7ab2", func := "tronage/tronagelaw04.MailboxOrder", spec := "mailboxOrder", apart := false }
def MailboxOrderSaid : Prop := mailboxOrderRow.holds Try.pinned (OpenSpec.ofChange mailboxOrderSpec)

/-- ITS FALSE NEIGHBOUR: 'it returns false'. Refute it at one input. -/
def mailboxOrderWrong : ChangeSpec := { name := "mailboxOrder", fn := fun _ => fun
  | [d1, d2] => { results := [.lit (.bool false)], args := [d1, d2] }
  | _ => none }
def MailboxOrderWrongFalsely : Prop := mailboxOrderRow.holds Try.pinned (OpenSpec.ofChange mailboxOrderWrong)

/-- 'tronagelaw04.MailboxRoom': WHATEVER THE INPUT: true; the input reads as it did. -/
def mailboxRoomSpec : ChangeSpec := { name := "mailboxRoom", fn := fun _ => fun
  | [d1, d2, d3, d4] => { results := [.lit (.bool true)], args := [d1, d2, d3, d4] }
  | _ => none }
def mailboxRoomRow : OpenClaim := { program := "ytaghpjmgnjkejaa", sum := "7905487d6a1d765bc80dabbc7dd2a90a8bbd2b976a05fa93e84d4a0bc7ad7ab2", func := "tronage/tronagelaw04.MailboxRoom", spec := "mailboxRoom", apart := false }
def MailboxRoomSaid : Prop := mailboxRoomRow.holds Try.pinned (OpenSpec.ofChange mailboxRoomSpec)

/-- ITS FALSE NEIGHBOUR: 'it returns false'. Refute it at one input. -/
def mailboxRoomWrong : ChangeSpec := { name := "mailboxRoom", fn := fun _ => fun
  | [d1, d2, d3, d4] => { results := [.lit (.bool false)], args := [d1, d2, d3, d4] }
  | _ => none }
def MailboxRoomWrongFalsely : Prop := mailboxRoomRow.holds Try.pinned (OpenSpec.ofChange mailboxRoomWrong)

/-- 'tronagelaw04.MailboxPlays': WHATEVER THE INPUT: true; the input reads as it did. -/
def mailboxPlaysSpec : ChangeSpec := { name := "mailboxPlays", fn := fun _ => fun
  | [d1, d2, d3] => { results := [.lit (.bool true)], args := [d1, d2, d3] }
  | _ => none }
def mailboxPlaysRow : OpenClaim := { program := "ytaghpjmgnjkejaa", sum := "7905487d6a1d765bc80dabbc7dd2a90a8bbd2b976a05fa93e84d4a0bc7ad7ab2", func := "tronage/tronagelaw04.MailboxPlays", spec := "mailboxPlays", apart := false }
def MailboxPlaysSaid : Prop := mailboxPlaysRow.holds Try.pinned (OpenSpec.ofChange mailboxPlaysSpec)

/-- ITS FALSE NEIGHBOUR: 'it returns false'. Refute it at one input. -/
def mailboxPlaysWrong : ChangeSpec := { name := "mailboxPlays", fn := fun _ => fun
  | [d1, d2, d3] => { results := [.lit (.bool false)], args := [d1, d2, d3] }
  | _ => none }
def MailboxPlaysWrongFalsely : Prop := mailboxPlaysRow.holds Try.pinned (OpenSpec.ofChange mailboxPlaysWrong)

/-- 'tronagelaw04.MailboxMoves': WHATEVER THE INPUT: true; the input reads as it did. -/
def mailboxMovesSpec : ChangeSpec := { name := "mailboxMoves", fn := fun _ => fun
  | [d1, d2, d3, d4] => { results := [.lit (.bool true)], args := [d1, d2, d3, d4] }
  | _ => none }
def mailboxMovesRow : OpenClaim := { program := "ytaghpjmgnjkejaa", sum := "7905487d6a1d765bc80dabbc7dd2a90a8bbd2b976a05fa93e84d4a0bc7ad7ab2", func := "tronage/tronagelaw04.MailboxMoves", spec := "mailboxMoves", apart := false }
def MailboxMovesSaid : Prop := mailboxMovesRow.holds Try.pinned (OpenSpec.ofChange mailboxMovesSpec)

/-- ITS FALSE NEIGHBOUR: 'it returns false'. Refute it at one input. -/
def mailboxMovesWrong : ChangeSpec := { name := "mailboxMoves", fn := fun _ => fun
  | [d1, d2, d3, d4] => { results := [.lit (.bool false)], args := [d1, d2, d3, d4] }
  | _ => none }
def MailboxMovesWrongFalsely : Prop := mailboxMovesRow.holds Try.pinned (OpenSpec.ofChange mailboxMovesWrong)

/- THE SECOND FORM. 'bulk': how many values and letters a reading holds, each counted each time it is reached (what is shared counts as often as it is met; a slice's spare places count too). A statement '..UptoSaid' is the law's where the arguments, and the package variables that the reading takes, are together of bulk at most 1048576: NARROWER than '..Said'. Prove '..Said' where nothing that the law and all that it calls make is longer than what came in: it says more and counts as full. Else prove '..UptoSaid'. A law counts once. -/
mutual
def uptoBulk {H : Type} : DataW H → Nat
  | .lit (.string bytes) => bytes.length + 1
  | .lit _ => 1
  | .nil => 1
  | .ptr d => uptoBulk d + 1
  | .slice elems spare => uptoBulkAll elems + uptoBulkAll spare + 1
  | .agg parts => uptoBulkAll parts + 1
  | .iface _ d => uptoBulk d + 1
  | .map entries => uptoBulkEntries entries + 1
  | .held _ => 1
def uptoBulkAll {H : Type} : List (DataW H) → Nat
  | [] => 0
  | d :: r => uptoBulk d + uptoBulkAll r
def uptoBulkEntries {H : Type} : List (Lit × DataW H) → Nat
  | [] => 0
  | x :: r => uptoBulkEntry x + uptoBulkEntries r
def uptoBulkEntry {H : Type} : Lit × DataW H → Nat
  | (.string bytes, d) => bytes.length + uptoBulk d + 1
  | (_, d) => uptoBulk d + 1
 end
def uptoSmall : (H : Type) → List (DataW H) → Bool := fun _ ds => decide (uptoBulkAll ds ≤ 1048576)
def OpenSpec.upto (s : _root_.Go.ChangeSpec) : _root_.Go.OpenSpec := { _root_.Go.OpenSpec.ofChange s with cond := some uptoSmall }

/-- 'tronagelaw04.MailboxLooks', WHERE WHAT IT READS IS OF BULK AT MOST 1048576: true; the input reads as it did. -/
def mailboxLooksUptoRow : OpenClaim := { program := "ytaghpjmgnjkejaa", sum := "7905487d6a1d765bc80dabbc7dd2a90a8bbd2b976a05fa93e84d4a0bc7ad7ab2", func := "tronage/tronagelaw04.MailboxLooks", spec := "mailboxLooks", apart := false, narrowed := true }
def MailboxLooksUptoSaid : Prop := mailboxLooksUptoRow.holds Try.pinned (OpenSpec.upto mailboxLooksSpec)

/-- 'tronagelaw04.MailboxOrder', WHERE WHAT IT READS IS OF BULK AT MOST 1048576: true; the input reads as it did. -/
def mailboxOrderUptoRow : OpenClaim := { program := "ytaghpjmgnjkejaa", sum := "7905487d6a1d765bc80dabbc7dd2a90a8bbd2b976a05fa93e84d4a0bc7ad7ab2", func := "tronage/tronagelaw04.MailboxOrder", spec := "mailboxOrder", apart := false, narrowed := true }
def MailboxOrderUptoSaid : Prop := mailboxOrderUptoRow.holds Try.pinned (OpenSpec.upto mailboxOrderSpec)

/-- 'tronagelaw04.MailboxRoom', WHERE WHAT IT READS IS OF BULK AT MOST 1048576: true; the input reads as it did. -/
def mailboxRoomUptoRow : OpenClaim := { program := "ytaghpjmgnjkejaa", sum := "7905487d6a1d765bc80dabbc7dd2a90a8bbd2b976a05fa93e84d4a0bc7ad7ab2", func := "tronage/tronagelaw04.MailboxRoom", spec := "mailboxRoom", apart := false, narrowed := true }
def MailboxRoomUptoSaid : Prop := mailboxRoomUptoRow.holds Try.pinned (OpenSpec.upto mailboxRoomSpec)

/-- 'tronagelaw04.MailboxPlays', WHERE WHAT IT READS IS OF BULK AT MOST 1048576: true; the input reads as it did. -/
def mailboxPlaysUptoRow : OpenClaim := { program := "ytaghpjmgnjkejaa", sum := "7905487d6a1d765bc80dabbc7dd2a90a8bbd2b976a05fa93e84d4a0bc7ad7ab2", func := "tronage/tronagelaw04.MailboxPlays", spec := "mailboxPlays", apart := false, narrowed := true }
def MailboxPlaysUptoSaid : Prop := mailboxPlaysUptoRow.holds Try.pinned (OpenSpec.upto mailboxPlaysSpec)

/-- 'tronagelaw04.MailboxMoves', WHERE WHAT IT READS IS OF BULK AT MOST 1048576: true; the input reads as it did. -/
def mailboxMovesUptoRow : OpenClaim := { program := "ytaghpjmgnjkejaa", sum := "7905487d6a1d765bc80dabbc7dd2a90a8bbd2b976a05fa93e84d4a0bc7ad7ab2", func := "tronage/tronagelaw04.MailboxMoves", spec := "mailboxMoves", apart := false, narrowed := true }
def MailboxMovesUptoSaid : Prop := mailboxMovesUptoRow.holds Try.pinned (OpenSpec.upto mailboxMovesSpec)

end Rows
end Go.Proofs.Ytaghpjmgnjkejaa
