/-
  No cell of these rows narrows 'for every input' (looked for: loops, veiled, ifaces, maps, wideKeys, modest, calm, conditions, laid).
  DERIVED. THE GIVEN ROWS OF THIS SEAT. 3 by the template 'for every input the law returns true; each argument reads behind the call as it read before'; 0 by the template 'total and deterministic' (their statements: YtlhoaamdplgdmaaTotals.lean).
  GIVEN WITH THE SEED: the statements are not yours to turn. If you find one false, say at which input.
  Laid BY PROGRAM, IN A SANDBOX (cutbox-rows.mjs): the forced cells as the released guide's own fill.sh prints them over the translation 6daf3e2db3fd25a7… (all of the seat's roots in one cut). By AI agents, Wed Nov 11 2026. No macro, syntax, notation, axiom, sorry.
-/
import Derived.Test.YtlhoaamdplgdmaaChecked
import GoSem.Claim
import GoSem.ClaimJoined
import GoSem.ClaimMapViews
import Derived.JoinedTies
import Derived.KernelRfl
namespace Go.Proofs.Ytlhoaamdplgdmaa
/- THE CELL 'sum', in the pinned program and in every row, IS THE sha256 OF THE DUMP (.gsa) THAT YtlhoaamdplgdmaaProg.lean LOADS. Nothing in Lean hashes anything: it is a label: what it is worth is what the hold of that sum in a sandbox is worth. -/
noncomputable def Try.pinned : Pinned := { name := "ytlhoaamdplgdmaa", sum := "6daf3e2db3fd25a757fcf8a5cc87afb64dcb20408f2b179a3f5aaeeacb50b806", checked := Try.checked }
namespace Rows
def none {H : Type} : Left H := { results := [], args := [] }

/-- 'guichetlaw7.MapBack': WHATEVER THE INPUT: true; the input reads as it did. -/
def mapBackSpec : ChangeSpec := { name := "mapBack", fn := fun _ => fun
  | [d1, d2, d3] => { results := [.lit (.bool true)], args := [d1, d2, d3] }
  | _ => none }
def mapBackRow : OpenClaim := { program := "ytlhoaamdplgdmaa", sum := "6daf3e2db3fd25a757fcf8a5cc87afb64dcb20408f2b179a3f5aaeeacb50b806", func := "guichet/guichetlaw7.MapBack", spec := "mapBack", apart := false }
def MapBackSaid : Prop := mapBackRow.holds Try.pinned (OpenSpec.ofChange mapBackSpec)

/-- ITS FALSE NEIGHBOUR: 'it returns false'. Refute it at one input. -/
def mapBackWrong : ChangeSpec := { name := "mapBack", fn := fun _ => fun
  | [d1, d2, d3] => { results := [.lit (.bool false)], args := [d1, d2, d3] }
  | _ => none }
def MapBackWrongFalsely : Prop := mapBackRow.holds Try.pinned (OpenSpec.ofChange mapBackWrong)

/-- 'guichetlaw7.MapReads': WHATEVER THE INPUT: true; the input reads as it did. -/
def mapReadsSpec : ChangeSpec := { name := "mapReads", fn := fun _ => fun
  | [d1, d2, d3] => { results := [.lit (.bool true)], args := [d1, d2, d3] }
  | _ => none }
def mapReadsRow : OpenClaim := { program := "ytlhoaamdplgdmaa", sum := "6daf3e2db3fd25a757fcf8a5cc87afb64dcb20408f2b179a3f5aaeeacb50b806", func := "guichet/guichetlaw7.MapReads", spec := "mapReads", apart := false }
def MapReadsSaid : Prop := mapReadsRow.holds Try.pinned (OpenSpec.ofChange mapReadsSpec)

/-- ITS FALSE NEIGHBOUR: 'it returns false'. Refute it at one input. -/
def mapReadsWrong : ChangeSpec := { name := "mapReads", fn := fun _ => fun
  | [d1, d2, d3] => { results := [.lit (.bool false)], args := [d1, d2, d3] }
  | _ => none }
def MapReadsWrongFalsely : Prop := mapReadsRow.holds Try.pinned (OpenSpec.ofChange mapReadsWrong)

/-- 'guichetlaw7.MapOne': WHATEVER THE INPUT: true; the input reads as it did. -/
def mapOneSpec : ChangeSpec := { name := "mapOne", fn := fun _ => fun
  | [d1, d2] => { results := [.lit (.bool true)], args := [d1, d2] }
  | _ => none }
def mapOneRow : OpenClaim := { program := "ytlhoaamdplgdmaa", sum := "6daf3e2db3fd25a757fcf8a5cc87afb64dcb20408f2b179a3f5aaeeacb50b806", func := "guichet/guichetlaw7.MapOne", spec := "mapOne", apart := false }
def MapOneSaid : Prop := mapOneRow.holds Try.pinned (OpenSpec.ofChange mapOneSpec)

/-- ITS FALSE NEIGHBOUR: 'it returns false'. Refute it at one input. -/
def mapOneWrong : ChangeSpec := { name := "mapOne", fn := fun _ => fun
  | [d1, d2] => { results := [.lit (.bool false)], args := [d1, d2] }
  | _ => none }
def MapOneWrongFalsely : Prop := mapOneRow.holds Try.pinned (OpenSpec.ofChange mapOneWrong)

/- THE SECOND FORM. 'bulk': how many values and letters a reading holds, each counted each time it is reached (what is shared counts as often as it is met; a slice's spare places count too). A statement '..UptoSaid' is the law's where the arguments, and the package variables that the reading takes, are together of bulk at most 1048576: NARROWER than '..Said'. Prove '..Said' where nothing that the law and all that it calls make is longer than what came in: it says more and counts as full. Else prove '..UptoSaid'. A law counts once. -/
mutual
def uptoBulk {H : Type} : DataW H → Nat
  | .lit (.string bytes) => bytes.length + 1
  | .lit _ => 1
  | .nil => 1
  | .ptr d => uptoBulk d + 1
  | .slice elems spare => uptoBulkAll elems + uptoBulkAll spare + 1
  | .agg parts => uptoBulkAll parts + 1
  | .iface _ d => uptoBulk d + 1
  | .map entries => uptoBulkEntries entries + 1
  | .held _ => 1
def uptoBulkAll {H : Type} : List (DataW H) → Nat
  | [] => 0
  | d :: r => uptoBulk d + uptoBulkAll r
def uptoBulkEntries {H : Type} : List (Lit × DataW H) → Nat
  | [] => 0
  | x :: r => uptoBulkEntry x + uptoBulkEntries r
def uptoBulkEntry {H : Type} : Lit × DataW H → Nat
  | (.string bytes, d) => bytes.length + uptoBulk d + 1
  | (_, d) => uptoBulk d + 1
 end
def uptoSmall : (H : Type) → List (DataW H) → Bool := fun _ ds => decide (uptoBulkAll ds ≤ 1048576)
def OpenSpec.upto (s : _root_.Go.ChangeSpec) : _root_.Go.OpenSpec := { _root_.Go.OpenSpec.ofChange s with cond := some uptoSmall }

/-- 'guichetlaw7.MapBack', WHERE WHAT IT READS IS OF BULK AT MOST 1048576: true; the input reads as it did. -/
def mapBackUptoRow : OpenClaim := { program := "ytlhoaamdplgdmaa", sum := "6daf3e2db3fd25a757fcf8a5cc87afb64dcb20408f2b179a3f5aaeeacb50b806", func := "guichet/guichetlaw7.MapBack", spec := "mapBack", apart := false, narrowed := true }
def MapBackUptoSaid : Prop := mapBackUptoRow.holds Try.pinned (OpenSpec.upto mapBackSpec)

/-- 'guichetlaw7.MapReads', WHERE WHAT IT READS IS OF BULK AT MOST 1048576: true; the input reads as it did. -/
def mapReadsUptoRow : OpenClaim := { program := "ytlhoaamdplgdmaa", sum := "6daf3e2db3fd25a757fcf8a5cc87afb64dcb20408f2b179a3f5aaeeacb50b806", func := "guichet/guichetlaw7.MapReads", spec := "mapReads", apart := false, narrowed := true }
def MapReadsUptoSaid : Prop := mapReadsUptoRow.holds Try.pinned (OpenSpec.upto mapReadsSpec)

/-- 'guichetlaw7.MapOne', WHERE WHAT IT READS IS OF BULK AT MOST 1048576: true; the input reads as it did. -/
def mapOneUptoRow : OpenClaim := { program := "ytlhoaamdplgdmaa", sum := "6daf3e2db3fd25a757fcf8a5cc87afb64dcb20408f2b179a3f5aaeeacb50b806", func := "guichet/guichetlaw7.MapOne", spec := "mapOne", apart := false, narrowed := true }
def MapOneUptoSaid : Prop := mapOneUptoRow.holds Try.pinned (OpenSpec.upto mapOneSpec)

end Rows
end Go.Proofs.Ytlhoaamdplgdmaa
