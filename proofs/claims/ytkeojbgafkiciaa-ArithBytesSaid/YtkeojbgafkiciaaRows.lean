/-
  No cell of these rows narrows 'for every input' (looked for: loops, veiled, ifaces, maps, wideKeys, modest, calm, conditions, laid).
  DERIVED. THE GIVEN ROWS OF THIS SEAT. 5 by the template 'for every input the law returns true; each argument reads behind the call as it read before'; 0 by the template 'total and deterministic' (their statements: YtkeojbgafkiciaaTotals.lean).
  GIVEN WITH THE SEED: the statements are not yours to turn. If you find one false, say at which input.
  Laid BY PROGRAM, IN A SANDBOX (cutbox-rows.mjs): the forced cells as the released guide's own fill.sh prints them over the translation 53ee0dcb439d6110… (all of the seat's roots in one cut). By AI agents, Wed Nov 11 2026. No macro, syntax, notation, axiom, sorry.
-/
import Derived.Test.YtkeojbgafkiciaaChecked
import GoSem.Claim
import GoSem.ClaimJoined
import GoSem.ClaimMapViews
import Derived.JoinedTies
import Derived.KernelRfl
namespace Go.Proofs.Ytkeojbgafkiciaa
/- THE CELL 'sum', in the pinned program and in every row, IS THE sha256 OF THE DUMP (.gsa) THAT YtkeojbgafkiciaaProg.lean LOADS. Nothing in Lean hashes anything: it is a label: what it is worth is what the hold of that sum in a sandbox is worth. -/
noncomputable def Try.pinned : Pinned := { name := "ytkeojbgafkiciaa", sum := "53ee0dcb439d6110fe2c363f8e2fe156bb40281c95e612409efaeba161c69b3e", checked := Try.checked }
namespace Rows
def none {H : Type} : Left H := { results := [], args := [] }

/-- 'guichetlaw1.ArithNoughts': WHATEVER THE INPUT: true; the input reads as it did. -/
def arithNoughtsSpec : ChangeSpec := { name := "arithNoughts", fn := fun _ => fun
  | [d1, d2, d3] => { results := [.lit (.bool true)], args := [d1, d2, d3] }
  | _ => none }
def arithNoughtsRow : OpenClaim := { program := "ytkeojbgafkiciaa", sum := "53ee0dcb439d6110fe2c363f8e2fe156bb40281c95e612409efaeba161c69b3e", func := "guichet/guichetlaw1.ArithNoughts", spec := "arithNoughts", apart := false }
def ArithNoughtsSaid : Prop := arithNoughtsRow.holds Try.pinned (OpenSpec.ofChange arithNoughtsSpec)

/-- ITS FALSE NEIGHBOUR: 'it returns false'. Refute it at one input. -/
def arithNoughtsWrong : ChangeSpec := { name := "arithNoughts", fn := fun _ => fun
  | [d1, d2, d3] => { results := [.lit (.bool false)], args := [d1, d2, d3] }
  | _ => none }
def ArithNoughtsWrongFalsely : Prop := arithNoughtsRow.holds Try.pinned (OpenSpec.ofChange arithNoughtsWrong)

/-- 'guichetlaw1.ArithWidths': WHATEVER THE INPUT: true; the input reads as it did. -/
def arithWidthsSpec : ChangeSpec := { name := "arithWidths", fn := fun _ => fun
  | [d1, d2, d3, d4] => { results := [.lit (.bool true)], args := [d1, d2, d3, d4] }
  | _ => none }
def arithWidthsRow : OpenClaim := { program := "ytkeojbgafkiciaa", sum := "53ee0dcb439d6110fe2c363f8e2fe156bb40281c95e612409efaeba161c69b3e", func := "guichet/guichetlaw1.ArithWidths", spec := "arithWidths", apart := false }
def ArithWidthsSaid : Prop := arithWidthsRow.holds Try.pinned (OpenSpec.ofChange arithWidthsSpec)

/-- ITS FALSE NEIGHBOUR: 'it returns false'. Refute it at one input. -/
def arithWidthsWrong : ChangeSpec := { name := "arithWidths", fn := fun _ => fun
  | [d1, d2, d3, d4] => { results := [.lit (.bool false)], args := [d1, d2, d3, d4] }
  | _ => none }
def ArithWidthsWrongFalsely : Prop := arithWidthsRow.holds Try.pinned (OpenSpec.ofChange arithWidthsWrong)

/-- 'guichetlaw1.ArithEdges': WHATEVER THE INPUT: true; the input reads as it did. -/
def arithEdgesSpec : ChangeSpec := { name := "arithEdges", fn := fun _ => fun
  | [d1, d2] => { results := [.lit (.bool true)], args := [d1, d2] }
  | _ => none }
def arithEdgesRow : OpenClaim := { program := "ytkeojbgafkiciaa", sum := "53ee0dcb439d6110fe2c363f8e2fe156bb40281c95e612409efaeba161c69b3e", func := "guichet/guichetlaw1.ArithEdges", spec := "arithEdges", apart := false }
def ArithEdgesSaid : Prop := arithEdgesRow.holds Try.pinned (OpenSpec.ofChange arithEdgesSpec)

/-- ITS FALSE NEIGHBOUR: 'it returns false'. Refute it at one input. -/
def arithEdgesWrong : ChangeSpec := { name := "arithEdges", fn := fun _ => fun
  | [d1, d2] => { results := [.lit (.bool false)], args := [d1, d2] }
  | _ => none }
def ArithEdgesWrongFalsely : Prop := arithEdgesRow.holds Try.pinned (OpenSpec.ofChange arithEdgesWrong)

/-- 'guichetlaw1.ArithBytes': WHATEVER THE INPUT: true; the input reads as it did. -/
def arithBytesSpec : ChangeSpec := { name := "arithBytes", fn := fun _ => fun
  | [d1, d2, d3, d4] => { results := [.lit (.bool true)], args := [d1, d2, d3, d4] }
  | _ => none }
def arithBytesRow : OpenClaim := { program := "ytkeojbgafkiciaa", sum := "53ee0dcb439d6110fe2c363f8e2fe156bb40281c95e612409efaeba161c69b3e", func := "guichet/guichetlaw1.ArithBytes", spec := "arithBytes", apart := false }
def ArithBytesSaid : Prop := arithBytesRow.holds Try.pinned (OpenSpec.ofChange arithBytesSpec)

/-- ITS FALSE NEIGHBOUR: 'it returns false'. Refute it at one input. -/
def arithBytesWrong : ChangeSpec := { name := "arithBytes", fn := fun _ => fun
  | [d1, d2, d3, d4] => { results := [.lit (.bool false)], args := [d1, d2, d3, d4] }
  | _ => none }
def ArithBytesWrongFalsely : Prop := arithBytesRow.holds Try.pinned (OpenSpec.ofChange arithBytesWrong)

/-- 'guichetlaw1.ArithBack': WHATEVER THE INPUT: true; the input reads as it did. -/
def arithBackSpec : ChangeSpec := { name := "arithBack", fn := fun _ => fun
  | [d1, d2, d3] => { results := [.lit (.bool true)], args := [d1, d2, d3] }
  | _ => none }
def arithBackRow : OpenClaim := { program := "ytkeojbgafkiciaa", sum := "53ee0dcb439d6110fe2c363f8e2fe156bb40281c95e612409efaeba161c69b3e", func := "guichet/guichetlaw1.ArithBack", spec := "arithBack", apart := false }
def ArithBackSaid : Prop := arithBackRow.holds Try.pinned (OpenSpec.ofChange arithBackSpec)

/-- ITS FALSE NEIGHBOUR: 'it returns false'. Refute it at one input. -/
def arithBackWrong : ChangeSpec := { name := "arithBack", fn := fun _ => fun
  | [d1, d2, d3] => { results := [.lit (.bool false)], args := [d1, d2, d3] }
  | _ => none }
def ArithBackWrongFalsely : Prop := arithBackRow.holds Try.pinned (OpenSpec.ofChange arithBackWrong)

/- THE SECOND FORM. 'bulk': how many values and letters a reading holds, each counted each time it is reached (what is shared counts as often as it is met; a slice's spare places count too). A statement '..UptoSaid' is the law's where the arguments, and the package variables that the reading takes, are together of bulk at most 1048576: NARROWER than '..Said'. Prove '..Said' where nothing that the law and all that it calls make is longer than what came in: it says more and counts as full. Else prove '..UptoSaid'. A law counts once. -/
mutual
def uptoBulk {H : Type} : DataW H → Nat
  | .lit (.string bytes) => bytes.length + 1
  | .lit _ => 1
  | .nil => 1
  | .ptr d => uptoBulk d + 1
  | .slice elems spare => uptoBulkAll elems + uptoBulkAll spare + 1
  | .agg parts => uptoBulkAll parts + 1
  | .iface _ d => uptoBulk d + 1
  | .map entries => uptoBulkEntries entries + 1
  | .held _ => 1
def uptoBulkAll {H : Type} : List (DataW H) → Nat
  | [] => 0
  | d :: r => uptoBulk d + uptoBulkAll r
def uptoBulkEntries {H : Type} : List (Lit × DataW H) → Nat
  | [] => 0
  | x :: r => uptoBulkEntry x + uptoBulkEntries r
def uptoBulkEntry {H : Type} : Lit × DataW H → Nat
  | (.string bytes, d) => bytes.length + uptoBulk d + 1
  | (_, d) => uptoBulk d + 1
 end
def uptoSmall : (H : Type) → List (DataW H) → Bool := fun _ ds => decide (uptoBulkAll ds ≤ 1048576)
def OpenSpec.upto (s : _root_.Go.ChangeSpec) : _root_.Go.OpenSpec := { _root_.Go.OpenSpec.ofChange s with cond := some uptoSmall }

/-- 'guichetlaw1.ArithNoughts', WHERE WHAT IT READS IS OF BULK AT MOST 1048576: true; the input reads as it did. -/
def arithNoughtsUptoRow : OpenClaim := { program := "ytkeojbgafkiciaa", sum := "53ee0dcb439d6110fe2c363f8e2fe156bb40281c95e612409efaeba161c69b3e", func := "guichet/guichetlaw1.ArithNoughts", spec := "arithNoughts", apart := false, narrowed := true }
def ArithNoughtsUptoSaid : Prop := arithNoughtsUptoRow.holds Try.pinned (OpenSpec.upto arithNoughtsSpec)

/-- 'guichetlaw1.ArithWidths', WHERE WHAT IT READS IS OF BULK AT MOST 1048576: true; the input reads as it did. -/
def arithWidthsUptoRow : OpenClaim := { program := "ytkeojbgafkiciaa", sum := "53ee0dcb439d6110fe2c363f8e2fe156bb40281c95e612409efaeba161c69b3e", func := "guichet/guichetlaw1.ArithWidths", spec := "arithWidths", apart := false, narrowed := true }
def ArithWidthsUptoSaid : Prop := arithWidthsUptoRow.holds Try.pinned (OpenSpec.upto arithWidthsSpec)

/-- 'guichetlaw1.ArithEdges', WHERE WHAT IT READS IS OF BULK AT MOST 1048576: true; the input reads as it did. -/
def arithEdgesUptoRow : OpenClaim := { program := "ytkeojbgafkiciaa", sum := "53ee0dcb439d6110fe2c363f8e2fe156bb40281c95e612409efaeba161c69b3e", func := "guichet/guichetlaw1.ArithEdges", spec := "arithEdges", apart := false, narrowed := true }
def ArithEdgesUptoSaid : Prop := arithEdgesUptoRow.holds Try.pinned (OpenSpec.upto arithEdgesSpec)

/-- 'guichetlaw1.ArithBytes', WHERE WHAT IT READS IS OF BULK AT MOST 1048576: true; the input reads as it did. -/
def arithBytesUptoRow : OpenClaim := { program := "ytkeojbgafkiciaa", sum := "53ee0dcb439d6110fe2c363f8e2fe156bb40281c95e612409efaeba161c69b3e", func := "guichet/guichetlaw1.ArithBytes", spec := "arithBytes", apart := false, narrowed := true }
def ArithBytesUptoSaid : Prop := arithBytesUptoRow.holds Try.pinned (OpenSpec.upto arithBytesSpec)

/-- 'guichetlaw1.ArithBack', WHERE WHAT IT READS IS OF BULK AT MOST 1048576: true; the input reads as it did. -/
def arithBackUptoRow : OpenClaim := { program := "ytkeojbgafkiciaa", sum := "53ee0dcb439d6110fe2c363f8e2fe156bb40281c95e612409efaeba161c69b3e", func := "guichet/guichetlaw1.ArithBack", spec := "arithBack", apart := false, narrowed := true }
def ArithBackUptoSaid : Prop := arithBackUptoRow.holds Try.pinned (OpenSpec.upto arithBackSpec)

end Rows
end Go.Proofs.Ytkeojbgafkiciaa
