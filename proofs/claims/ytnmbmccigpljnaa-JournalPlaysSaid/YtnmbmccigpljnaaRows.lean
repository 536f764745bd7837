/-
  No cell of these rows narrows 'for every input' (looked for: loops, veiled, ifaces, maps, wideKeys, modest, calm, conditions, laid).
  DERIVED. THE GIVEN ROWS OF THIS SEAT. 7 by the template 'for every input the law returns true; each argument reads behind the call as it read before'; 0 by the template 'total and deterministic' (their statements: YtnmbmccigpljnaaTotals.lean).
  GIVEN WITH THE SEED: the statements are not yours to turn. If you find one false, say at which input.
  Laid BY PROGRAM, IN A SANDBOX (cutbox-rows.mjs): the forced cells as the released guide's own fill.sh prints them over the translation 28e9599cf9659c4f… (all of the seat's roots in one cut). By AI agents, Wed Nov 11 2026. No macro, syntax, notation, axiom, sorry.
-/
import Derived.Test.YtnmbmccigpljnaaChecked
import GoSem.Claim
import GoSem.ClaimJoined
import GoSem.ClaimMapViews
import Derived.JoinedTies
import Derived.KernelRfl
namespace Go.Proofs.Ytnmbmccigpljnaa
/- THE CELL 'sum', in the pinned program and in every row, IS THE sha256 OF THE DUMP (.gsa) THAT YtnmbmccigpljnaaProg.lean LOADS. Nothing in Lean hashes anything: it is a label: what it is worth is what the hold of that sum in a sandbox is worth. -/
noncomputable def Try.pinned : Pinned := { name := "ytnmbmccigpljnaa", sum := "28e9599cf9659c4f3ce2201513d3a1af6aeea19ab0dfb4ea745c49c01c2499ad", checked := Try.checked }
namespace Rows
def none {H : Type} : Left H := { results := [], args := [] }

/-- 'guichetlaw5.JournalRoom': WHATEVER THE INPUT: true; the input reads as it did. -/
def journalRoomSpec : ChangeSpec := { name := "journalRoom", fn := fun _ => fun
  | [d1, d2, d3, d4] => { results := [.lit (.bool true)], args := [d1, d2, d3, d4] }
  | _ => none }
def journalRoomRow : OpenClaim := { program := "ytnmbmccigpljnaa", sum := "28e9599cf9659c4f3ce2201513d3a1af6aeea19ab0dfb4ea745c49c01c2499ad", func := "guichet/guichetlaw5.JournalRoom", spec := "journalRoom", apart := false }
def JournalRoomSaid : Prop := journalRoomRow.holds Try.pinned (OpenSpec.ofChange journalRoomSpec)

/-- ITS FALSE NEIGHBOUR: 'it returns false'. Refute it at one input. -/
def journalRoomWrong : ChangeSpec := { name := "journalRoom", fn := fun _ => fun
  | [d1, d2, d3, d4] => { results := [.lit (.bool false)], args := [d1, d2, d3, d4] }
  | _ => none }
def JournalRoomWrongFalsely : Prop := journalRoomRow.holds Try.pinned (OpenSpec.ofChange journalRoomWrong)

/-- 'guichetlaw5.JournalReplaces': WHATEVER THE INPUT: true; the input reads as it did. -/
def journalReplacesSpec : ChangeSpec := { name := "journalReplaces", fn := fun _ => fun
  | [d1, d2, d3, d4] => { results := [.lit (.bool true)], args := [d1, d2, d3, d4] }
  | _ => none }
def journalReplacesRow : OpenClaim := { program := "ytnmbmccigpljnaa", sum := "28e9599cf9659c4f3ce2201513d3a1af6aeea19ab0dfb4ea745c49c01c2499ad", func := "guichet/guichetlaw5.JournalReplaces", spec := "journalReplaces", apart := false }
def JournalReplacesSaid : Prop := journalReplacesRow.holds Try.pinned (OpenSpec.ofChange journalReplacesSpec)

/-- ITS FALSE NEIGHBOUR: 'it returns false'. Refute it at one input. -/
def journalReplacesWrong : ChangeSpec := { name := "journalReplaces", fn := fun _ => fun
  | [d1, d2, d3, d4] => { results := [.lit (.bool false)], args := [d1, d2, d3, d4] }
  | _ => none }
def JournalReplacesWrongFalsely : Prop := journalReplacesRow.holds Try.pinned (OpenSpec.ofChange journalReplacesWrong)

/-- 'guichetlaw5.JournalAlways': WHATEVER THE INPUT: true; the input reads as it did. -/
def journalAlwaysSpec : ChangeSpec := { name := "journalAlways", fn := fun _ => fun
  | [d1, d2] => { results := [.lit (.bool true)], args := [d1, d2] }
  | _ => none }
def journalAlwaysRow : OpenClaim := { program := "ytnmbmccigpljnaa", sum := "28e9599cf9659c4f3ce2201513d3a1af6aeea19ab0dfb4ea745c49c01c2499ad", func := "guichet/guichetlaw5.JournalAlways", spec := "journalAlways", apart := false }
def JournalAlwaysSaid : Prop := journalAlwaysRow.holds Try.pinned (OpenSpec.ofChange journalAlwaysSpec)

/-- ITS FALSE NEIGHBOUR: 'it returns false'. Refute it at one input. -/
def journalAlwaysWrong : ChangeSpec := { name := "journalAlways", fn := fun _ => fun
  | [d1, d2] => { results := [.lit (.bool false)], args := [d1, d2] }
  | _ => none }
def JournalAlwaysWrongFalsely : Prop := journalAlwaysRow.holds Try.pinned (OpenSpec.ofChange journalAlwaysWrong)

/-- 'guichetlaw5.JournalTwice': WHATEVER THE INPUT: true; the input reads as it did. -/
def journalTwiceSpec : ChangeSpec := { name := "journalTwice", fn := fun _ => fun
  | [d1, d2, d3, d4, d5] => { results := [.lit (.bool true)], args := [d1, d2, d3, d4, d5] }
  | _ => none }
def journalTwiceRow : OpenClaim := { program := "ytnmbmccigpljnaa", sum := "28e9599cf9659c4f3ce2201513d3a1af6aeea19ab0dfb4ea745c49c01c2499ad", func := "guichet/guichetlaw5.JournalTwice", spec := "journalTwice", apart := false }
def JournalTwiceSaid : Prop := journalTwiceRow.holds Try.pinned (OpenSpec.ofChange journalTwiceSpec)

/-- ITS FALSE NEIGHBOUR: 'it returns false'. Refute it at one input. -/
def journalTwiceWrong : ChangeSpec := { name := "journalTwice", fn := fun _ => fun
  | [d1, d2, d3, d4, d5] => { results := [.lit (.bool false)], args := [d1, d2, d3, d4, d5] }
  | _ => none }
def JournalTwiceWrongFalsely : Prop := journalTwiceRow.holds Try.pinned (OpenSpec.ofChange journalTwiceWrong)

/-- 'guichetlaw5.JournalCuts': WHATEVER THE INPUT: true; the input reads as it did. -/
def journalCutsSpec : ChangeSpec := { name := "journalCuts", fn := fun _ => fun
  | [d1, d2, d3, d4, d5, d6] => { results := [.lit (.bool true)], args := [d1, d2, d3, d4, d5, d6] }
  | _ => none }
def journalCutsRow : OpenClaim := { program := "ytnmbmccigpljnaa", sum := "28e9599cf9659c4f3ce2201513d3a1af6aeea19ab0dfb4ea745c49c01c2499ad", func := "guichet/guichetlaw5.JournalCuts", spec := "journalCuts", apart := false }
def JournalCutsSaid : Prop := journalCutsRow.holds Try.pinned (OpenSpec.ofChange journalCutsSpec)

/-- ITS FALSE NEIGHBOUR: 'it returns false'. Refute it at one input. -/
def journalCutsWrong : ChangeSpec := { name := "journalCuts", fn := fun _ => fun
  | [d1, d2, d3, d4, d5, d6] => { results := [.lit (.bool false)], args := [d1, d2, d3, d4, d5, d6] }
  | _ => none }
def JournalCutsWrongFalsely : Prop := journalCutsRow.holds Try.pinned (OpenSpec.ofChange journalCutsWrong)

/-- 'guichetlaw5.JournalAgain': WHATEVER THE INPUT: true; the input reads as it did. -/
def journalAgainSpec : ChangeSpec := { name := "journalAgain", fn := fun _ => fun
  | [d1, d2, d3, d4] => { results := [.lit (.bool true)], args := [d1, d2, d3, d4] }
  | _ => none }
def journalAgainRow : OpenClaim := { program := "ytnmbmccigpljnaa", sum := "28e9599cf9659c4f3ce2201513d3a1af6aeea19ab0dfb4ea745c49c01c2499ad", func := "guichet/guichetlaw5.JournalAgain", spec := "journalAgain", apart := false }
def JournalAgainSaid : Prop := journalAgainRow.holds Try.pinned (OpenSpec.ofChange journalAgainSpec)

/-- ITS FALSE NEIGHBOUR: 'it returns false'. Refute it at one input. -/
def journalAgainWrong : ChangeSpec := { name := "journalAgain", fn := fun _ => fun
  | [d1, d2, d3, d4] => { results := [.lit (.bool false)], args := [d1, d2, d3, d4] }
  | _ => none }
def JournalAgainWrongFalsely : Prop := journalAgainRow.holds Try.pinned (OpenSpec.ofChange journalAgainWrong)

/-- 'guichetlaw5.JournalPlays': WHATEVER THE INPUT: true; the input reads as it did. -/
def journalPlaysSpec : ChangeSpec := { name := "journalPlays", fn := fun _ => fun
  | [d1, d2] => { results := [.lit (.bool true)], args := [d1, d2] }
  | _ => none }
def journalPlaysRow : OpenClaim := { program := "ytnmbmccigpljnaa", sum := "28e9599cf9659c4f3ce2201513d3a1af6aeea19ab0dfb4ea745c49c01c2499ad", func := "guichet/guichetlaw5.JournalPlays", spec := "journalPlays", apart := false }
def JournalPlaysSaid : Prop := journalPlaysRow.holds Try.pinned (OpenSpec.ofChange journalPlaysSpec)

/-- ITS FALSE NEIGHBOUR: 'it returns false'. Refute it at one input. -/
def journalPlaysWrong : ChangeSpec := { name := "journalPlays", fn := fun _ => fun
  | [d1, d2] => { results := [.lit (.bool false)], args := [d1, d2] }
  | _ => none }
def JournalPlaysWrongFalsely : Prop := journalPlaysRow.holds Try.pinned (OpenSpec.ofChange journalPlaysWrong)

/- THE SECOND FORM. 'bulk': how many values and letters a reading holds, each counted each time it is reached (what is shared counts as often as it is met; a slice's spare places count too). A statement '..UptoSaid' is the law's where the arguments, and the package variables that the reading takes, are together of bulk at most 1048576: NARROWER than '..Said'. Prove '..Said' where nothing that the law and all that it calls make is longer than what came in: it says more and counts as full. Else prove '..UptoSaid'. A law counts once. -/
mutual
def uptoBulk {H : Type} : DataW H → Nat
  | .lit (.string bytes) => bytes.length + 1
  | .lit _ => 1
  | .nil => 1
  | .ptr d => uptoBulk d + 1
  | .slice elems spare => uptoBulkAll elems + uptoBulkAll spare + 1
  | .agg parts => uptoBulkAll parts + 1
  | .iface _ d => uptoBulk d + 1
  | .map entries => uptoBulkEntries entries + 1
  | .held _ => 1
def uptoBulkAll {H : Type} : List (DataW H) → Nat
  | [] => 0
  | d :: r => uptoBulk d + uptoBulkAll r
def uptoBulkEntries {H : Type} : List (Lit × DataW H) → Nat
  | [] => 0
  | x :: r => uptoBulkEntry x + uptoBulkEntries r
def uptoBulkEntry {H : Type} : Lit × DataW H → Nat
  | (.string bytes, d) => bytes.length + uptoBulk d + 1
  | (_, d) => uptoBulk d + 1
 end
def uptoSmall : (H : Type) → List (DataW H) → Bool := fun _ ds => decide (uptoBulkAll ds ≤ 1048576)
def OpenSpec.upto (s : _root_.Go.ChangeSpec) : _root_.Go.OpenSpec := { _root_.Go.OpenSpec.ofChange s with cond := some uptoSmall }

/-- 'guichetlaw5.JournalRoom', WHERE WHAT IT READS IS OF BULK AT MOST 1048576: true; the input reads as it did. -/
def journalRoomUptoRow : OpenClaim := { program := "ytnmbmccigpljnaa", sum := "28e9599cf9659c4f3ce2201513d3a1af6aeea19ab0dfb4ea745c49c01c2499ad", func := "guichet/guichetlaw5.JournalRoom", spec := "journalRoom", apart := false, narrowed := true }
def JournalRoomUptoSaid : Prop := journalRoomUptoRow.holds Try.pinned (OpenSpec.upto journalRoomSpec)

/-- 'guichetlaw5.JournalReplaces', WHERE WHAT IT READS IS OF BULK AT MOST 1048576: true; the input reads as it did. -/
def journalReplacesUptoRow : OpenClaim := { program := "ytnmbmccigpljnaa", sum := "28e9599cf9659c4f3ce2201513d3a1af6aeea19ab0dfb4ea745c49c01c2499ad", func := "guichet/guichetlaw5.JournalReplaces", spec := "journalReplaces", apart := false, narrowed := true }
def JournalReplacesUptoSaid : Prop := journalReplacesUptoRow.holds Try.pinned (OpenSpec.upto journalReplacesSpec)

/-- 'guichetlaw5.JournalAlways', WHERE WHAT IT READS IS OF BULK AT MOST 1048576: true; the input reads as it did. -/
def journalAlwaysUptoRow : OpenClaim := { program := "ytnmbmccigpljnaa", sum := "28e9599cf9659c4f3ce2201513d3a1af6aeea19ab0dfb4ea745c49c01c2499ad", func := "guichet/guichetlaw5.JournalAlways", spec := "journalAlways", apart := false, narrowed := true }
def JournalAlwaysUptoSaid : Prop := journalAlwaysUptoRow.holds Try.pinned (OpenSpec.upto journalAlwaysSpec)

/-- 'guichetlaw5.JournalTwice', WHERE WHAT IT READS IS OF BULK AT MOST 1048576: true; the input reads as it did. -/
def journalTwiceUptoRow : OpenClaim := { program := "ytnmbmccigpljnaa", sum := "28e9599cf9659c4f3ce2201513d3a1af6aeea19ab0dfb4ea745c49c01c2499ad", func := "guichet/guichetlaw5.JournalTwice", spec := "journalTwice", apart := false, narrowed := true }
def JournalTwiceUptoSaid : Prop := journalTwiceUptoRow.holds Try.pinned (OpenSpec.upto journalTwiceSpec)

/-- 'guichetlaw5.JournalCuts', WHERE WHAT IT READS IS OF BULK AT MOST 1048576: true; the input reads as it did. -/
def journalCutsUptoRow : OpenClaim := { program := "ytnmbmccigpljnaa", sum := "28e9599cf9659c4f3ce2201513d3a1af6aeea19ab0dfb4ea745c49c01c2499ad", func := "guichet/guichetlaw5.JournalCuts", spec := "journalCuts", apart := false, narrowed := true }
def JournalCutsUptoSaid : Prop := journalCutsUptoRow.holds Try.pinned (OpenSpec.upto journalCutsSpec)

/-- 'guichetlaw5.JournalAgain', WHERE WHAT IT READS IS OF BULK AT MOST 1048576: true; the input reads as it did. -/
def journalAgainUptoRow : OpenClaim := { program := "ytnmbmccigpljnaa", sum := "28e9599cf9659c4f3ce2201513d3a1af6aeea19ab0dfb4ea745c49c01c2499ad", func := "guichet/guichetlaw5.JournalAgain", spec := "journalAgain", apart := false, narrowed := true }
def JournalAgainUptoSaid : Prop := journalAgainUptoRow.holds Try.pinned (OpenSpec.upto journalAgainSpec)

/-- 'guichetlaw5.JournalPlays', WHERE WHAT IT READS IS OF BULK AT MOST 1048576: true; the input reads as it did. -/
def journalPlaysUptoRow : OpenClaim := { program := "ytnmbmccigpljnaa", sum := "28e9599cf9659c4f3ce2201513d3a1af6aeea19ab0dfb4ea745c49c01c2499ad", func := "guichet/guichetlaw5.JournalPlays", spec := "journalPlays", apart := false, narrowed := true }
def JournalPlaysUptoSaid : Prop := journalPlaysUptoRow.holds Try.pinned (OpenSpec.upto journalPlaysSpec)

end Rows
end Go.Proofs.Ytnmbmccigpljnaa
