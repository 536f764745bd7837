/-
  No cell of these rows narrows 'for every input' (looked for: loops, veiled, ifaces, maps, wideKeys, modest, calm, conditions, laid).
  DERIVED. THE GIVEN ROWS OF THIS SEAT. 4 by the template 'for every input the law returns true; each argument reads behind the call as it read before'; 0 by the template 'total and deterministic' (their statements: YthaggpicjpkjiaaTotals.lean).
  GIVEN WITH THE SEED: the statements are not yours to turn. If you find one false, say at which input.
  Laid BY PROGRAM, IN A SANDBOX (cutbox-rows.mjs): the forced cells as the released guide's own fill.sh prints them over the translation 936698b7b6e69018… (all of the seat's roots in one cut). By AI agents, Wed Nov 11 2026. No macro, syntax, notation, axiom, sorry.
-/
import Derived.Test.YthaggpicjpkjiaaChecked
import GoSem.Claim
import GoSem.ClaimJoined
import GoSem.ClaimMapViews
import Derived.JoinedTies
import Derived.KernelRfl
namespace Go.Proofs.Ythaggpicjpkjiaa
/- THE CELL 'sum', in the pinned program and in every row, IS THE sha256 OF THE DUMP (.gsa) THAT YthaggpicjpkjiaaProg.lean LOADS. Nothing in Lean hashes anything: it is a label: what it is worth is what the hold of that sum in a sandbox is worth. -/
noncomputable def Try.pinned : Pinned := { name := "ythaggpicjpkjiaa", sum := "936698b7b6e69018330ea7c382e68060404278b642b38fb5f442816b68674cb6", checked := Try.checked }
namespace Rows
def none {H : Type} : Left H := { results := [], args := [] }

/-- 'guichetlaw20.BookPlays': WHATEVER THE INPUT: true; the input reads as it did. -/
def bookPlaysSpec : ChangeSpec := { name := "bookPlays", fn := fun _ => fun
  | [d1, d2, d3, d4] => { results := [.lit (.bool true)], args := [d1, d2, d3, d4] }
  | _ => none }
def bookPlaysRow : OpenClaim := { program := "ythaggpicjpkjiaa", sum := "936698b7b6e69018330ea7c382e68060404278b642b38fb5f442816b68674cb6", func := "guichet/guichetlaw20.BookPlays", spec := "bookPlays", unfollowed := true, recurses := true, plainKeys := false, apart := false }
def BookPlaysSaid : Prop := bookPlaysRow.holds Try.pinned (OpenSpec.ofChange bookPlaysSpec)

/-- ITS FALSE NEIGHBOUR: 'it returns false'. Refute it at one input. -/
def bookPlaysWrong : ChangeSpec := { name := "bookPlays", fn := fun _ => fun
  | [d1, d2, d3, d4] => { results := [.lit (.bool false)], args := [d1, d2, d3, d4] }
  | _ => none }
def BookPlaysWrongFalsely : Prop := bookPlaysRow.holds Try.pinned (OpenSpec.ofChange bookPlaysWrong)

/-- 'guichetlaw20.BookFull': WHATEVER THE INPUT: true; the input reads as it did. -/
def bookFullSpec : ChangeSpec := { name := "bookFull", fn := fun _ => fun
  | [d1, d2] => { results := [.lit (.bool true)], args := [d1, d2] }
  | _ => none }
def bookFullRow : OpenClaim := { program := "ythaggpicjpkjiaa", sum := "936698b7b6e69018330ea7c382e68060404278b642b38fb5f442816b68674cb6", func := "guichet/guichetlaw20.BookFull", spec := "bookFull", unfollowed := true, recurses := true, plainKeys := false, apart := false }
def BookFullSaid : Prop := bookFullRow.holds Try.pinned (OpenSpec.ofChange bookFullSpec)

/-- ITS FALSE NEIGHBOUR: 'it returns false'. Refute it at one input. -/
def bookFullWrong : ChangeSpec := { name := "bookFull", fn := fun _ => fun
  | [d1, d2] => { results := [.lit (.bool false)], args := [d1, d2] }
  | _ => none }
def BookFullWrongFalsely : Prop := bookFullRow.holds Try.pinned (OpenSpec.ofChange bookFullWrong)

/-- 'guichetlaw20.BookCounts': WHATEVER THE INPUT: true; the input reads as it did. -/
def bookCountsSpec : ChangeSpec := { name := "bookCounts", fn := fun _ => fun
  | [d1, d2, d3] => { results := [.lit (.bool true)], args := [d1, d2, d3] }
  | _ => none }
def bookCountsRow : OpenClaim := { program := "ythaggpicjpkjiaa", sum := "936698b7b6e69018330ea7c382e68060404278b642b38fb5f442816b68674cb6", func := "guichet/guichetlaw20.BookCounts", spec := "bookCounts", unfollowed := true, recurses := true, plainKeys := false, apart := false }
def BookCountsSaid : Prop := bookCountsRow.holds Try.pinned (OpenSpec.ofChange bookCountsSpec)

/-- ITS FALSE NEIGHBOUR: 'it returns false'. Refute it at one input. -/
def bookCountsWrong : ChangeSpec := { name := "bookCounts", fn := fun _ => fun
  | [d1, d2, d3] => { results := [.lit (.bool false)], args := [d1, d2, d3] }
  | _ => none }
def BookCountsWrongFalsely : Prop := bookCountsRow.holds Try.pinned (OpenSpec.ofChange bookCountsWrong)

/-- 'guichetlaw20.BookApart': WHATEVER THE INPUT: true; the input reads as it did. -/
def bookApartSpec : ChangeSpec := { name := "bookApart", fn := fun _ => fun
  | [d1, d2] => { results := [.lit (.bool true)], args := [d1, d2] }
  | _ => none }
def bookApartRow : OpenClaim := { program := "ythaggpicjpkjiaa", sum := "936698b7b6e69018330ea7c382e68060404278b642b38fb5f442816b68674cb6", func := "guichet/guichetlaw20.BookApart", spec := "bookApart", unfollowed := true, recurses := true, plainKeys := false, apart := false }
def BookApartSaid : Prop := bookApartRow.holds Try.pinned (OpenSpec.ofChange bookApartSpec)

/-- ITS FALSE NEIGHBOUR: 'it returns false'. Refute it at one input. -/
def bookApartWrong : ChangeSpec := { name := "bookApart", fn := fun _ => fun
  | [d1, d2] => { results := [.lit (.bool false)], args := [d1, d2] }
  | _ => none }
def BookApartWrongFalsely : Prop := bookApartRow.holds Try.pinned (OpenSpec.ofChange bookApartWrong)

/- THE SECOND FORM. 'bulk': how many values and letters a reading holds, each counted each time it is reached (what is shared counts as often as it is met; a slice's spare places count too). A statement '..UptoSaid' is the law's where the arguments, and the package variables that the reading takes, are together of bulk at most 1048576: NARROWER than '..Said'. Prove '..Said' where nothing that the law and all that it calls make is longer than what came in: it says more and counts as full. Else prove '..UptoSaid'. A law counts once. -/
mutual
def uptoBulk {H : Type} : DataW H → Nat
  | .lit (.string bytes) => bytes.length + 1
  | .lit _ => 1
  | .nil => 1
  | .ptr d => uptoBulk d + 1
  | .slice elems spare => uptoBulkAll elems + uptoBulkAll spare + 1
  | .agg parts => uptoBulkAll parts + 1
  | .iface _ d => uptoBulk d + 1
  | .map entries => uptoBulkEntries entries + 1
  | .held _ => 1
def uptoBulkAll {H : Type} : List (DataW H) → Nat
  | [] => 0
  | d :: r => uptoBulk d + uptoBulkAll r
def uptoBulkEntries {H : Type} : List (Lit × DataW H) → Nat
  | [] => 0
  | x :: r => uptoBulkEntry x + uptoBulkEntries r
def uptoBulkEntry {H : Type} : Lit × DataW H → Nat
  | (.string bytes, d) => bytes.length + uptoBulk d + 1
  | (_, d) => uptoBulk d + 1
 end
def uptoSmall : (H : Type) → List (DataW H) → Bool := fun _ ds => decide (uptoBulkAll ds ≤ 1048576)
def OpenSpec.upto (s : _root_.Go.ChangeSpec) : _root_.Go.OpenSpec := { _root_.Go.OpenSpec.ofChange s with cond := some uptoSmall }

/-- 'guichetlaw20.BookPlays', WHERE WHAT IT READS IS OF BULK AT MOST 1048576: true; the input reads as it did. -/
def bookPlaysUptoRow : OpenClaim := { program := "ythaggpicjpkjiaa", sum := "936698b7b6e69018330ea7c382e68060404278b642b38fb5f442816b68674cb6", func := "guichet/guichetlaw20.BookPlays", spec := "bookPlays", unfollowed := true, recurses := true, plainKeys := false, apart := false, narrowed := true }
def BookPlaysUptoSaid : Prop := bookPlaysUptoRow.holds Try.pinned (OpenSpec.upto bookPlaysSpec)

/-- 'guichetlaw20.BookFull', WHERE WHAT IT READS IS OF BULK AT MOST 1048576: true; the input reads as it did. -/
def bookFullUptoRow : OpenClaim := { program := "ythaggpicjpkjiaa", sum := "936698b7b6e69018330ea7c382e68060404278b642b38fb5f442816b68674cb6", func := "guichet/guichetlaw20.BookFull", spec := "bookFull", unfollowed := true, recurses := true, plainKeys := false, apart := false, narrowed := true }
def BookFullUptoSaid : Prop := bookFullUptoRow.holds Try.pinned (OpenSpec.upto bookFullSpec)

/-- 'guichetlaw20.BookCounts', WHERE WHAT IT READS IS OF BULK AT MOST 1048576: true; the input reads as it did. -/
def bookCountsUptoRow : OpenClaim := { program := "ythaggpicjpkjiaa", sum := "936698b7b6e69018330ea7c382e68060404278b642b38fb5f442816b68674cb6", func := "guichet/guichetlaw20.BookCounts", spec := "bookCounts", unfollowed := true, recurses := true, plainKeys := false, apart := false, narrowed := true }
def BookCountsUptoSaid : Prop := bookCountsUptoRow.holds Try.pinned (OpenSpec.upto bookCountsSpec)

/-- 'guichetlaw20.BookApart', WHERE WHAT IT READS IS OF BULK AT MOST 1048576: true; the input reads as it did. -/
def bookApartUptoRow : OpenClaim := { program := "ythaggpicjpkjiaa", sum := "936698b7b6e69018330ea7c382e68060404278b642b38fb5f442816b68674cb6", func := "guichet/guichetlaw20.BookApart", spec := "bookApart", unfollowed := true, recurses := true, plainKeys := false, apart := false, narrowed := true }
def BookApartUptoSaid : Prop := bookApartUptoRow.holds Try.pinned (OpenSpec.upto bookApartSpec)

end Rows
end Go.Proofs.Ythaggpicjpkjiaa
