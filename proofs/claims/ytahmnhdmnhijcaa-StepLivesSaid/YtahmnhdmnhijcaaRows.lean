/-
  No cell of these rows narrows 'for every input' (looked for: loops, veiled, ifaces, maps, wideKeys, modest, calm, conditions, laid).
  DERIVED. THE GIVEN ROWS OF THIS SEAT. 3 by the template 'for every input the law returns true; each argument reads behind the call as it read before'; 0 by the template 'total and deterministic' (their statements: YtahmnhdmnhijcaaTotals.lean).
  GIVEN WITH THE SEED: the statements are not yours to turn. If you find one false, say at which input.
  Laid BY PROGRAM, IN A SANDBOX (cutbox-rows.mjs): the forced cells as the released guide's own fill.sh prints them over the translation b9081c9fedf567f9… (all of the seat's roots in one cut). By AI agents, Wed Nov 11 2026. No macro, syntax, notation, axiom, sorry.
-/
import Derived.Test.YtahmnhdmnhijcaaChecked
import GoSem.Claim
import GoSem.ClaimJoined
import GoSem.ClaimMapViews
import Derived.JoinedTies
import Derived.KernelRfl
namespace Go.Proofs.Ytahmnhdmnhijcaa
/- THE CELL 'sum', in the pinned program and in every row, IS THE sha256 OF THE DUMP (.gsa) THAT YtahmnhdmnhijcaaProg.lean LOADS. Nothing in Lean hashes anything: it is a label: what it is worth is what the hold of that sum in a sandbox is worth. -/
noncomputable def Try.pinned : Pinned := { name := "ytahmnhdmnhijcaa", sum := "b9081c9fedf567f91c590161faa3e7f8b714f99dae662e9f6c9462773e0d1c28", checked := Try.checked }
namespace Rows
def none {H : Type} : Left H := { results := [], args := [] }

/-- 'guichetlaw19.StepLives': WHATEVER THE INPUT: true; the input reads as it did. -/
def stepLivesSpec : ChangeSpec := { name := "stepLives", fn := fun _ => fun
  | [d1, d2, d3] => { results := [.lit (.bool true)], args := [d1, d2, d3] }
  | _ => none }
def stepLivesRow : OpenClaim := { program := "ytahmnhdmnhijcaa", sum := "b9081c9fedf567f91c590161faa3e7f8b714f99dae662e9f6c9462773e0d1c28", func := "guichet/guichetlaw19.StepLives", spec := "stepLives", apart := false }
def StepLivesSaid : Prop := stepLivesRow.holds Try.pinned (OpenSpec.ofChange stepLivesSpec)

/-- ITS FALSE NEIGHBOUR: 'it returns false'. Refute it at one input. -/
def stepLivesWrong : ChangeSpec := { name := "stepLives", fn := fun _ => fun
  | [d1, d2, d3] => { results := [.lit (.bool false)], args := [d1, d2, d3] }
  | _ => none }
def StepLivesWrongFalsely : Prop := stepLivesRow.holds Try.pinned (OpenSpec.ofChange stepLivesWrong)

/-- 'guichetlaw19.StepAmounts': WHATEVER THE INPUT: true; the input reads as it did. -/
def stepAmountsSpec : ChangeSpec := { name := "stepAmounts", fn := fun _ => fun
  | [d1, d2, d3] => { results := [.lit (.bool true)], args := [d1, d2, d3] }
  | _ => none }
def stepAmountsRow : OpenClaim := { program := "ytahmnhdmnhijcaa", sum := "b9081c9fedf567f91c590161faa3e7f8b714f99dae662e9f6c9462773e0d1c28", func := "guichet/guichetlaw19.StepAmounts", spec := "stepAmounts", apart := false }
def StepAmountsSaid : Prop := stepAmountsRow.holds Try.pinned (OpenSpec.ofChange stepAmountsSpec)

/-- ITS FALSE NEIGHBOUR: 'it returns false'. Refute it at one input. -/
def stepAmountsWrong : ChangeSpec := { name := "stepAmounts", fn := fun _ => fun
  | [d1, d2, d3] => { results := [.lit (.bool false)], args := [d1, d2, d3] }
  | _ => none }
def StepAmountsWrongFalsely : Prop := stepAmountsRow.holds Try.pinned (OpenSpec.ofChange stepAmountsWrong)

/-- 'guichetlaw19.StepVoids': WHATEVER THE INPUT: true; the input reads as it did. -/
def stepVoidsSpec : ChangeSpec := { name := "stepVoids", fn := fun _ => fun
  | [d1, d2, d3, d4] => { results := [.lit (.bool true)], args := [d1, d2, d3, d4] }
  | _ => none }
def stepVoidsRow : OpenClaim := { program := "ytahmnhdmnhijcaa", sum := "b9081c9fedf567f91c590161faa3e7f8b714f99dae662e9f6c9462773e0d1c28", func := "guichet/guichetlaw19.StepVoids", spec := "stepVoids", apart := false }
def StepVoidsSaid : Prop := stepVoidsRow.holds Try.pinned (OpenSpec.ofChange stepVoidsSpec)

/-- ITS FALSE NEIGHBOUR: 'it returns false'. Refute it at one input. -/
def stepVoidsWrong : ChangeSpec := { name := "stepVoids", fn := fun _ => fun
  | [d1, d2, d3, d4] => { results := [.lit (.bool false)], args := [d1, d2, d3, d4] }
  | _ => none }
def StepVoidsWrongFalsely : Prop := stepVoidsRow.holds Try.pinned (OpenSpec.ofChange stepVoidsWrong)

/- THE SECOND FORM. 'bulk': how many values and letters a reading holds, each counted each time it is reached (what is shared counts as often as it is met; a slice's spare places count too). A statement '..UptoSaid' is the law's where the arguments, and the package variables that the reading takes, are together of bulk at most 1048576: NARROWER than '..Said'. Prove '..Said' where nothing that the law and all that it calls make is longer than what came in: it says more and counts as full. Else prove '..UptoSaid'. A law counts once. -/
mutual
def uptoBulk {H : Type} : DataW H → Nat
  | .lit (.string bytes) => bytes.length + 1
  | .lit _ => 1
  | .nil => 1
  | .ptr d => uptoBulk d + 1
  | .slice elems spare => uptoBulkAll elems + uptoBulkAll spare + 1
  | .agg parts => uptoBulkAll parts + 1
  | .iface _ d => uptoBulk d + 1
  | .map entries => uptoBulkEntries entries + 1
  | .held _ => 1
def uptoBulkAll {H : Type} : List (DataW H) → Nat
  | [] => 0
  | d :: r => uptoBulk d + uptoBulkAll r
def uptoBulkEntries {H : Type} : List (Lit × DataW H) → Nat
  | [] => 0
  | x :: r => uptoBulkEntry x + uptoBulkEntries r
def uptoBulkEntry {H : Type} : Lit × DataW H → Nat
  | (.string bytes, d) => bytes.length + uptoBulk d + 1
  | (_, d) => uptoBulk d + 1
 end
def uptoSmall : (H : Type) → List (DataW H) → Bool := fun _ ds => decide (uptoBulkAll ds ≤ 1048576)
def OpenSpec.upto (s : _root_.Go.ChangeSpec) : _root_.Go.OpenSpec := { _root_.Go.OpenSpec.ofChange s with cond := some uptoSmall }

/-- 'guichetlaw19.StepLives', WHERE WHAT IT READS IS OF BULK AT MOST 1048576: true; the input reads as it did. -/
def stepLivesUptoRow : OpenClaim := { program := "ytahmnhdmnhijcaa", sum := "b9081c9fedf567f91c590161faa3e7f8b714f99dae662e9f6c9462773e0d1c28", func := "guichet/guichetlaw19.StepLives", spec := "stepLives", apart := false, narrowed := true }
def StepLivesUptoSaid : Prop := stepLivesUptoRow.holds Try.pinned (OpenSpec.upto stepLivesSpec)

/-- 'guichetlaw19.StepAmounts', WHERE WHAT IT READS IS OF BULK AT MOST 1048576: true; the input reads as it did. -/
def stepAmountsUptoRow : OpenClaim := { program := "ytahmnhdmnhijcaa", sum := "b9081c9fedf567f91c590161faa3e7f8b714f99dae662e9f6c9462773e0d1c28", func := "guichet/guichetlaw19.StepAmounts", spec := "stepAmounts", apart := false, narrowed := true }
def StepAmountsUptoSaid : Prop := stepAmountsUptoRow.holds Try.pinned (OpenSpec.upto stepAmountsSpec)

/-- 'guichetlaw19.StepVoids', WHERE WHAT IT READS IS OF BULK AT MOST 1048576: true; the input reads as it did. -/
def stepVoidsUptoRow : OpenClaim := { program := "ytahmnhdmnhijcaa", sum := "b9081c9fedf567f91c590161faa3e7f8b714f99dae662e9f6c9462773e0d1c28", func := "guichet/guichetlaw19.StepVoids", spec := "stepVoids", apart := false, narrowed := true }
def StepVoidsUptoSaid : Prop := stepVoidsUptoRow.holds Try.pinned (OpenSpec.upto stepVoidsSpec)

end Rows
end Go.Proofs.Ytahmnhdmnhijcaa
