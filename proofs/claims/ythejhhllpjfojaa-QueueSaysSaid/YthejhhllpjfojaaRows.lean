/-
  No cell of these rows narrows 'for every input' (looked for: loops, veiled, ifaces, maps, wideKeys, modest, calm, conditions, laid).
  DERIVED. THE GIVEN ROWS OF THIS SEAT. 3 by the template 'for every input the law returns true; each argument reads behind the call as it read before'; 0 by the template 'total and deterministic' (their statements: YthejhhllpjfojaaTotals.lean).
  GIVEN WITH THE SEED: the statements are not yours to turn. If you find one false, say at which input.
  Laid BY PROGRAM, IN A SANDBOX (cutbox-rows.mjs): the forced cells as the released guide's own fill.sh prints them over the translation 2c72f7a682fc1daa… (all of the seat's roots in one cut). By AI agents, Wed Nov 11 2026. No macro, syntax, notation, axiom, sorry.
-/
import Derived.Test.YthejhhllpjfojaaChecked
import GoSem.Claim
import GoSem.ClaimJoined
import GoSem.ClaimMapViews
import Derived.JoinedTies
import Derived.KernelRfl
namespace Go.Proofs.Ythejhhllpjfojaa
/- THE CELL 'sum', in the pinned program and in every row, IS THE sha256 OF THE DUMP (.gsa) THAT YthejhhllpjfojaaProg.lean LOADS. Nothing in Lean hashes anything: it is a label: what it is worth is what the hold of that sum in a sandbox is worth. -/
noncomputable def Try.pinned : Pinned := { name := "ythejhhllpjfojaa", sum := "2c72f7a682fc1daaa3c4ceca8ff04c89581dc29c43824c0e520776601e291735", checked := Try.checked }
namespace Rows
def none {H : Type} : Left H := { results := [], args := [] }

/-- 'guichetlaw22.QueuePlays': WHATEVER THE INPUT: true; the input reads as it did. -/
def queuePlaysSpec : ChangeSpec := { name := "queuePlays", fn := fun _ => fun
  | [d] => { results := [.lit (.bool true)], args := [d] }
  | _ => none }
def queuePlaysRow : OpenClaim := { program := "ythejhhllpjfojaa", sum := "2c72f7a682fc1daaa3c4ceca8ff04c89581dc29c43824c0e520776601e291735", func := "guichet/guichetlaw22.QueuePlays", spec := "queuePlays", unfollowed := true, recurses := true, apart := false }
def QueuePlaysSaid : Prop := queuePlaysRow.holds Try.pinned (OpenSpec.ofChange queuePlaysSpec)

/-- ITS FALSE NEIGHBOUR: 'it returns false'. Refute it at one input. -/
def queuePlaysWrong : ChangeSpec := { name := "queuePlays", fn := fun _ => fun
  | [d] => { results := [.lit (.bool false)], args := [d] }
  | _ => none }
def QueuePlaysWrongFalsely : Prop := queuePlaysRow.holds Try.pinned (OpenSpec.ofChange queuePlaysWrong)

/-- 'guichetlaw22.QueueFull': WHATEVER THE INPUT: true; the input reads as it did. -/
def queueFullSpec : ChangeSpec := { name := "queueFull", fn := fun _ => fun
  | [d1, d2] => { results := [.lit (.bool true)], args := [d1, d2] }
  | _ => none }
def queueFullRow : OpenClaim := { program := "ythejhhllpjfojaa", sum := "2c72f7a682fc1daaa3c4ceca8ff04c89581dc29c43824c0e520776601e291735", func := "guichet/guichetlaw22.QueueFull", spec := "queueFull", unfollowed := true, recurses := true, apart := false }
def QueueFullSaid : Prop := queueFullRow.holds Try.pinned (OpenSpec.ofChange queueFullSpec)

/-- ITS FALSE NEIGHBOUR: 'it returns false'. Refute it at one input. -/
def queueFullWrong : ChangeSpec := { name := "queueFull", fn := fun _ => fun
  | [d1, d2] => { results := [.lit (.bool false)], args := [d1, d2] }
  | _ => none }
def QueueFullWrongFalsely : Prop := queueFullRow.holds Try.pinned (OpenSpec.ofChange queueFullWrong)

/-- 'guichetlaw22.QueueSays': WHATEVER THE INPUT: true; the input reads as it did. -/
def queueSaysSpec : ChangeSpec := { name := "queueSays", fn := fun _ => fun
  | [d1, d2, d3] => { results := [.lit (.bool true)], args := [d1, d2, d3] }
  | _ => none }
def queueSaysRow : OpenClaim := { program := "ythejhhllpjfojaa", sum := "2c72f7a682fc1daaa3c4ceca8ff04c89581dc29c43824c0e520776601e291735", func := "guichet/guichetlaw22.QueueSays", spec := "queueSays", unfollowed := true, recurses := true, apart := false }
def QueueSaysSaid : Prop := queueSaysRow.holds Try.pinned (OpenSpec.ofChange queueSaysSpec)

/-- ITS FALSE NEIGHBOUR: 'it returns false'. Refute it at one input. -/
def queueSaysWrong : ChangeSpec := { name := "queueSays", fn := fun _ => fun
  | [d1, d2, d3] => { results := [.lit (.bool false)], args := [d1, d2, d3] }
  | _ => none }
def QueueSaysWrongFalsely : Prop := queueSaysRow.holds Try.pinned (OpenSpec.ofChange queueSaysWrong)

/- THE SECOND FORM. 'bulk': how many values and letters a reading holds, each counted each time it is reached (what is shared counts as often as it is met; a slice's spare places count too). A statement '..UptoSaid' is the law's where the arguments, and the package variables that the reading takes, are together of bulk at most 1048576: NARROWER than '..Said'. Prove '..Said' where nothing that the law and all that it calls make is longer than what came in: it says more and counts as full. Else prove '..UptoSaid'. A law counts once. -/
mutual
def uptoBulk {H : Type} : DataW H → Nat
  | .lit (.string bytes) => bytes.length + 1
  | .lit _ => 1
  | .nil => 1
  | .ptr d => uptoBulk d + 1
  | .slice elems spare => uptoBulkAll elems + uptoBulkAll spare + 1
  | .agg parts => uptoBulkAll parts + 1
  | .iface _ d => uptoBulk d + 1
  | .map entries => uptoBulkEntries entries + 1
  | .held _ => 1
def uptoBulkAll {H : Type} : List (DataW H) → Nat
  | [] => 0
  | d :: r => uptoBulk d + uptoBulkAll r
def uptoBulkEntries {H : Type} : List (Lit × DataW H) → Nat
  | [] => 0
  | x :: r => uptoBulkEntry x + uptoBulkEntries r
def uptoBulkEntry {H : Type} : Lit × DataW H → Nat
  | (.string bytes, d) => bytes.length + uptoBulk d + 1
  | (_, d) => uptoBulk d + 1
 end
def uptoSmall : (H : Type) → List (DataW H) → Bool := fun _ ds => decide (uptoBulkAll ds ≤ 1048576)
def OpenSpec.upto (s : _root_.Go.ChangeSpec) : _root_.Go.OpenSpec := { _root_.Go.OpenSpec.ofChange s with cond := some uptoSmall }

/-- 'guichetlaw22.QueuePlays', WHERE WHAT IT READS IS OF BULK AT MOST 1048576: true; the input reads as it did. -/
def queuePlaysUptoRow : OpenClaim := { program := "ythejhhllpjfojaa", sum := "2c72f7a682fc1daaa3c4ceca8ff04c89581dc29c43824c0e520776601e291735", func := "guichet/guichetlaw22.QueuePlays", spec := "queuePlays", unfollowed := true, recurses := true, apart := false, narrowed := true }
def QueuePlaysUptoSaid : Prop := queuePlaysUptoRow.holds Try.pinned (OpenSpec.upto queuePlaysSpec)

/-- 'guichetlaw22.QueueFull', WHERE WHAT IT READS IS OF BULK AT MOST 1048576: true; the input reads as it did. -/
def queueFullUptoRow : OpenClaim := { program := "ythejhhllpjfojaa", sum := "2c72f7a682fc1daaa3c4ceca8ff04c89581dc29c43824c0e520776601e291735", func := "guichet/guichetlaw22.QueueFull", spec := "queueFull", unfollowed := true, recurses := true, apart := false, narrowed := true }
def QueueFullUptoSaid : Prop := queueFullUptoRow.holds Try.pinned (OpenSpec.upto queueFullSpec)

/-- 'guichetlaw22.QueueSays', WHERE WHAT IT READS IS OF BULK AT MOST 1048576: true; the input reads as it did. -/
def queueSaysUptoRow : OpenClaim := { program := "ythejhhllpjfojaa", sum := "2c72f7a682fc1daaa3c4ceca8ff04c89581dc29c43824c0e520776601e291735", func := "guichet/guichetlaw22.QueueSays", spec := "queueSays", unfollowed := true, recurses := true, apart := false, narrowed := true }
def QueueSaysUptoSaid : Prop := queueSaysUptoRow.holds Try.pinned (OpenSpec.upto queueSaysSpec)

end Rows
end Go.Proofs.Ythejhhllpjfojaa
