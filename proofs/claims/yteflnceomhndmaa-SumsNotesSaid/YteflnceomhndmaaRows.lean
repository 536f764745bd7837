/-
  No cell of these rows narrows 'for every input' (looked for: loops, veiled, ifaces, maps, wideKeys, modest, calm, conditions, laid).
  DERIVED. THE GIVEN ROWS OF THIS SEAT. 4 by the template 'for every input the law returns true; each argument reads behind the call as it read before'; 0 by the template 'total and deterministic' (their statements: YteflnceomhndmaaTotals.lean).
  GIVEN WITH THE SEED: the statements are not yours to turn. If you find one false, say at which input.
  Laid BY PROGRAM, IN A SANDBOX (cutbox-rows.mjs): the forced cells as the released guide's own fill.sh prints them over the translation 91dcbaa5c44e27e6… (all of the seat's roots in one cut). By AI agents, Wed Nov 11 2026. No macro, syntax, notation, axiom, sorry.
-/
import Derived.Test.YteflnceomhndmaaChecked
import GoSem.Claim
import GoSem.ClaimJoined
import GoSem.ClaimMapViews
import Derived.JoinedTies
import Derived.KernelRfl
namespace Go.Proofs.Yteflnceomhndmaa
/- THE CELL 'sum', in the pinned program and in every row, IS THE sha256 OF THE DUMP (.gsa) THAT YteflnceomhndmaaProg.lean LOADS. Nothing in Lean hashes anything: it is a label: what it is worth is what the hold of that sum in a sandbox is worth. -/
noncomputable def Try.pinned : Pinned := { name := "yteflnceomhndmaa", sum := "91dcbaa5c44e27e6da48fc04a27e430427a43fd534c116121ed264db13181beb", checked := Try.checked }
namespace Rows
def none {H : Type} : Left H := { results := [], args := [] }

/-- 'guichetlaw2.SumsTotal': WHATEVER THE INPUT: true; the input reads as it did. -/
def sumsTotalSpec : ChangeSpec := { name := "sumsTotal", fn := fun _ => fun
  | [d1, d2, d3] => { results := [.lit (.bool true)], args := [d1, d2, d3] }
  | _ => none }
def sumsTotalRow : OpenClaim := { program := "yteflnceomhndmaa", sum := "91dcbaa5c44e27e6da48fc04a27e430427a43fd534c116121ed264db13181beb", func := "guichet/guichetlaw2.SumsTotal", spec := "sumsTotal", inPlace := ["math/bits.Add64"], apart := false }
def SumsTotalSaid : Prop := sumsTotalRow.holds Try.pinned (OpenSpec.ofChange sumsTotalSpec)

/-- ITS FALSE NEIGHBOUR: 'it returns false'. Refute it at one input. -/
def sumsTotalWrong : ChangeSpec := { name := "sumsTotal", fn := fun _ => fun
  | [d1, d2, d3] => { results := [.lit (.bool false)], args := [d1, d2, d3] }
  | _ => none }
def SumsTotalWrongFalsely : Prop := sumsTotalRow.holds Try.pinned (OpenSpec.ofChange sumsTotalWrong)

/-- 'guichetlaw2.SumsNotes': WHATEVER THE INPUT: true; the input reads as it did. -/
def sumsNotesSpec : ChangeSpec := { name := "sumsNotes", fn := fun _ => fun
  | [d1, d2, d3, d4] => { results := [.lit (.bool true)], args := [d1, d2, d3, d4] }
  | _ => none }
def sumsNotesRow : OpenClaim := { program := "yteflnceomhndmaa", sum := "91dcbaa5c44e27e6da48fc04a27e430427a43fd534c116121ed264db13181beb", func := "guichet/guichetlaw2.SumsNotes", spec := "sumsNotes", inPlace := ["math/bits.Add64"], apart := false }
def SumsNotesSaid : Prop := sumsNotesRow.holds Try.pinned (OpenSpec.ofChange sumsNotesSpec)

/-- ITS FALSE NEIGHBOUR: 'it returns false'. Refute it at one input. -/
def sumsNotesWrong : ChangeSpec := { name := "sumsNotes", fn := fun _ => fun
  | [d1, d2, d3, d4] => { results := [.lit (.bool false)], args := [d1, d2, d3, d4] }
  | _ => none }
def SumsNotesWrongFalsely : Prop := sumsNotesRow.holds Try.pinned (OpenSpec.ofChange sumsNotesWrong)

/-- 'guichetlaw2.SumsParts': WHATEVER THE INPUT: true; the input reads as it did. -/
def sumsPartsSpec : ChangeSpec := { name := "sumsParts", fn := fun _ => fun
  | [d1, d2, d3] => { results := [.lit (.bool true)], args := [d1, d2, d3] }
  | _ => none }
def sumsPartsRow : OpenClaim := { program := "yteflnceomhndmaa", sum := "91dcbaa5c44e27e6da48fc04a27e430427a43fd534c116121ed264db13181beb", func := "guichet/guichetlaw2.SumsParts", spec := "sumsParts", inPlace := ["math/bits.Add64"], apart := false }
def SumsPartsSaid : Prop := sumsPartsRow.holds Try.pinned (OpenSpec.ofChange sumsPartsSpec)

/-- ITS FALSE NEIGHBOUR: 'it returns false'. Refute it at one input. -/
def sumsPartsWrong : ChangeSpec := { name := "sumsParts", fn := fun _ => fun
  | [d1, d2, d3] => { results := [.lit (.bool false)], args := [d1, d2, d3] }
  | _ => none }
def SumsPartsWrongFalsely : Prop := sumsPartsRow.holds Try.pinned (OpenSpec.ofChange sumsPartsWrong)

/-- 'guichetlaw2.SumsBack': WHATEVER THE INPUT: true; the input reads as it did. -/
def sumsBackSpec : ChangeSpec := { name := "sumsBack", fn := fun _ => fun
  | [d1, d2, d3, d4] => { results := [.lit (.bool true)], args := [d1, d2, d3, d4] }
  | _ => none }
def sumsBackRow : OpenClaim := { program := "yteflnceomhndmaa", sum := "91dcbaa5c44e27e6da48fc04a27e430427a43fd534c116121ed264db13181beb", func := "guichet/guichetlaw2.SumsBack", spec := "sumsBack", inPlace := ["math/bits.Add64"], apart := false }
def SumsBackSaid : Prop := sumsBackRow.holds Try.pinned (OpenSpec.ofChange sumsBackSpec)

/-- ITS FALSE NEIGHBOUR: 'it returns false'. Refute it at one input. -/
def sumsBackWrong : ChangeSpec := { name := "sumsBack", fn := fun _ => fun
  | [d1, d2, d3, d4] => { results := [.lit (.bool false)], args := [d1, d2, d3, d4] }
  | _ => none }
def SumsBackWrongFalsely : Prop := sumsBackRow.holds Try.pinned (OpenSpec.ofChange sumsBackWrong)

/- THE SECOND FORM. 'bulk': how many values and letters a reading holds, each counted each time it is reached (what is shared counts as often as it is met; a slice's spare places count too). A statement '..UptoSaid' is the law's where the arguments, and the package variables that the reading takes, are together of bulk at most 1048576: NARROWER than '..Said'. Prove '..Said' where nothing that the law and all that it calls make is longer than what came in: it says more and counts as full. Else prove '..UptoSaid'. A law counts once. -/
mutual
def uptoBulk {H : Type} : DataW H → Nat
  | .lit (.string bytes) => bytes.length + 1
  | .lit _ => 1
  | .nil => 1
  | .ptr d => uptoBulk d + 1
  | .slice elems spare => uptoBulkAll elems + uptoBulkAll spare + 1
  | .agg parts => uptoBulkAll parts + 1
  | .iface _ d => uptoBulk d + 1
  | .map entries => uptoBulkEntries entries + 1
  | .held _ => 1
def uptoBulkAll {H : Type} : List (DataW H) → Nat
  | [] => 0
  | d :: r => uptoBulk d + uptoBulkAll r
def uptoBulkEntries {H : Type} : List (Lit × DataW H) → Nat
  | [] => 0
  | x :: r => uptoBulkEntry x + uptoBulkEntries r
def uptoBulkEntry {H : Type} : Lit × DataW H → Nat
  | (.string bytes, d) => bytes.length + uptoBulk d + 1
  | (_, d) => uptoBulk d + 1
 end
def uptoSmall : (H : Type) → List (DataW H) → Bool := fun _ ds => decide (uptoBulkAll ds ≤ 1048576)
def OpenSpec.upto (s : _root_.Go.ChangeSpec) : _root_.Go.OpenSpec := { _root_.Go.OpenSpec.ofChange s with cond := some uptoSmall }

/-- 'guichetlaw2.SumsTotal', WHERE WHAT IT READS IS OF BULK AT MOST 1048576: true; the input reads as it did. -/
def sumsTotalUptoRow : OpenClaim := { program := "yteflnceomhndmaa", sum := "91dcbaa5c44e27e6da48fc04a27e430427a43fd534c116121ed264db13181beb", func := "guichet/guichetlaw2.SumsTotal", spec := "sumsTotal", inPlace := ["math/bits.Add64"], apart := false, narrowed := true }
def SumsTotalUptoSaid : Prop := sumsTotalUptoRow.holds Try.pinned (OpenSpec.upto sumsTotalSpec)

/-- 'guichetlaw2.SumsNotes', WHERE WHAT IT READS IS OF BULK AT MOST 1048576: true; the input reads as it did. -/
def sumsNotesUptoRow : OpenClaim := { program := "yteflnceomhndmaa", sum := "91dcbaa5c44e27e6da48fc04a27e430427a43fd534c116121ed264db13181beb", func := "guichet/guichetlaw2.SumsNotes", spec := "sumsNotes", inPlace := ["math/bits.Add64"], apart := false, narrowed := true }
def SumsNotesUptoSaid : Prop := sumsNotesUptoRow.holds Try.pinned (OpenSpec.upto sumsNotesSpec)

/-- 'guichetlaw2.SumsParts', WHERE WHAT IT READS IS OF BULK AT MOST 1048576: true; the input reads as it did. -/
def sumsPartsUptoRow : OpenClaim := { program := "yteflnceomhndmaa", sum := "91dcbaa5c44e27e6da48fc04a27e430427a43fd534c116121ed264db13181beb", func := "guichet/guichetlaw2.SumsParts", spec := "sumsParts", inPlace := ["math/bits.Add64"], apart := false, narrowed := true }
def SumsPartsUptoSaid : Prop := sumsPartsUptoRow.holds Try.pinned (OpenSpec.upto sumsPartsSpec)

/-- 'guichetlaw2.SumsBack', WHERE WHAT IT READS IS OF BULK AT MOST 1048576: true; the input reads as it did. -/
def sumsBackUptoRow : OpenClaim := { program := "yteflnceomhndmaa", sum := "91dcbaa5c44e27e6da48fc04a27e430427a43fd534c116121ed264db13181beb", func := "guichet/guichetlaw2.SumsBack", spec := "sumsBack", inPlace := ["math/bits.Add64"], apart := false, narrowed := true }
def SumsBackUptoSaid : Prop := sumsBackUptoRow.holds Try.pinned (OpenSpec.upto sumsBackSpec)

end Rows
end Go.Proofs.Yteflnceomhndmaa
