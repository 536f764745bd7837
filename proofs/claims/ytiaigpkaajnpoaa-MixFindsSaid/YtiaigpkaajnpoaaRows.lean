/-
  No cell of these rows narrows 'for every input' (looked for: loops, veiled, ifaces, maps, wideKeys, modest, calm, conditions, laid).
  DERIVED. THE GIVEN ROWS OF THIS SEAT. 5 by the template 'for every input the law returns true; each argument reads behind the call as it read before'; 0 by the template 'total and deterministic' (their statements: YtiaigpkaajnpoaaTotals.lean).
  GIVEN WITH THE SEED: the statements are not yours to turn. If you find one false, say at which input.
  Laid BY PROGRAM, IN A SANDBOX (cutbox-rows.mjs): the forced cells as the released guide's own fill.sh prints them over the translation 8bbcfb4d69c5d405… (all of the seat's roots in one cut). By AI agents, Wed Nov 11 2026. No macro, syntax, notation, axiom, sorry.
-/
import Derived.Test.YtiaigpkaajnpoaaChecked
import GoSem.Claim
import GoSem.ClaimJoined
import GoSem.ClaimMapViews
import Derived.JoinedTies
import Derived.KernelRfl
namespace Go.Proofs.Ytiaigpkaajnpoaa
/- THE CELL 'sum', in the pinned program and in every row, IS THE sha256 OF THE DUMP (.gsa) THAT YtiaigpkaajnpoaaProg.lean LOADS. Nothing in Lean hashes anything: it is a label: what it is worth is what the hold of that sum in a sandbox is worth. -/
noncomputable def Try.pinned : Pinned := { name := "ytiaigpkaajnpoaa", sum := "8bbcfb4d69c5d40509286201e0c8c5e54616ed150028b16c0e1f1543c848ce3a", checked := Try.checked }
namespace Rows
def none {H : Type} : Left H := { results := [], args := [] }

/-- 'guichetlaw17.MixFinds': WHATEVER THE INPUT: true; the input reads as it did. -/
def mixFindsSpec : ChangeSpec := { name := "mixFinds", fn := fun _ => fun
  | [d1, d2, d3, d4, d5] => { results := [.lit (.bool true)], args := [d1, d2, d3, d4, d5] }
  | _ => none }
def mixFindsRow : OpenClaim := { program := "ytiaigpkaajnpoaa", sum := "8bbcfb4d69c5d40509286201e0c8c5e54616ed150028b16c0e1f1543c848ce3a", func := "guichet/guichetlaw17.MixFinds", spec := "mixFinds", inPlace := ["math/bits.Add64"], recurses := true, plainKeys := false, apart := false }
def MixFindsSaid : Prop := mixFindsRow.holds Try.pinned (OpenSpec.ofChange mixFindsSpec)

/-- ITS FALSE NEIGHBOUR: 'it returns false'. Refute it at one input. -/
def mixFindsWrong : ChangeSpec := { name := "mixFinds", fn := fun _ => fun
  | [d1, d2, d3, d4, d5] => { results := [.lit (.bool false)], args := [d1, d2, d3, d4, d5] }
  | _ => none }
def MixFindsWrongFalsely : Prop := mixFindsRow.holds Try.pinned (OpenSpec.ofChange mixFindsWrong)

/-- 'guichetlaw17.MixMakes': WHATEVER THE INPUT: true; the input reads as it did. -/
def mixMakesSpec : ChangeSpec := { name := "mixMakes", fn := fun _ => fun
  | [d1, d2] => { results := [.lit (.bool true)], args := [d1, d2] }
  | _ => none }
def mixMakesRow : OpenClaim := { program := "ytiaigpkaajnpoaa", sum := "8bbcfb4d69c5d40509286201e0c8c5e54616ed150028b16c0e1f1543c848ce3a", func := "guichet/guichetlaw17.MixMakes", spec := "mixMakes", inPlace := ["math/bits.Add64"], recurses := true, plainKeys := false, apart := false }
def MixMakesSaid : Prop := mixMakesRow.holds Try.pinned (OpenSpec.ofChange mixMakesSpec)

/-- ITS FALSE NEIGHBOUR: 'it returns false'. Refute it at one input. -/
def mixMakesWrong : ChangeSpec := { name := "mixMakes", fn := fun _ => fun
  | [d1, d2] => { results := [.lit (.bool false)], args := [d1, d2] }
  | _ => none }
def MixMakesWrongFalsely : Prop := mixMakesRow.holds Try.pinned (OpenSpec.ofChange mixMakesWrong)

/-- 'guichetlaw17.MixLimits': WHATEVER THE INPUT: true; the input reads as it did. -/
def mixLimitsSpec : ChangeSpec := { name := "mixLimits", fn := fun _ => fun
  | [d1, d2, d3] => { results := [.lit (.bool true)], args := [d1, d2, d3] }
  | _ => none }
def mixLimitsRow : OpenClaim := { program := "ytiaigpkaajnpoaa", sum := "8bbcfb4d69c5d40509286201e0c8c5e54616ed150028b16c0e1f1543c848ce3a", func := "guichet/guichetlaw17.MixLimits", spec := "mixLimits", inPlace := ["math/bits.Add64"], recurses := true, plainKeys := false, apart := false }
def MixLimitsSaid : Prop := mixLimitsRow.holds Try.pinned (OpenSpec.ofChange mixLimitsSpec)

/-- ITS FALSE NEIGHBOUR: 'it returns false'. Refute it at one input. -/
def mixLimitsWrong : ChangeSpec := { name := "mixLimits", fn := fun _ => fun
  | [d1, d2, d3] => { results := [.lit (.bool false)], args := [d1, d2, d3] }
  | _ => none }
def MixLimitsWrongFalsely : Prop := mixLimitsRow.holds Try.pinned (OpenSpec.ofChange mixLimitsWrong)

/-- 'guichetlaw17.MixFew': WHATEVER THE INPUT: true; the input reads as it did. -/
def mixFewSpec : ChangeSpec := { name := "mixFew", fn := fun _ => fun
  | [d1, d2, d3, d4, d5] => { results := [.lit (.bool true)], args := [d1, d2, d3, d4, d5] }
  | _ => none }
def mixFewRow : OpenClaim := { program := "ytiaigpkaajnpoaa", sum := "8bbcfb4d69c5d40509286201e0c8c5e54616ed150028b16c0e1f1543c848ce3a", func := "guichet/guichetlaw17.MixFew", spec := "mixFew", inPlace := ["math/bits.Add64"], recurses := true, plainKeys := false, apart := false }
def MixFewSaid : Prop := mixFewRow.holds Try.pinned (OpenSpec.ofChange mixFewSpec)

/-- ITS FALSE NEIGHBOUR: 'it returns false'. Refute it at one input. -/
def mixFewWrong : ChangeSpec := { name := "mixFew", fn := fun _ => fun
  | [d1, d2, d3, d4, d5] => { results := [.lit (.bool false)], args := [d1, d2, d3, d4, d5] }
  | _ => none }
def MixFewWrongFalsely : Prop := mixFewRow.holds Try.pinned (OpenSpec.ofChange mixFewWrong)

/-- 'guichetlaw17.MixFirst': WHATEVER THE INPUT: true; the input reads as it did. -/
def mixFirstSpec : ChangeSpec := { name := "mixFirst", fn := fun _ => fun
  | [d1, d2, d3, d4, d5] => { results := [.lit (.bool true)], args := [d1, d2, d3, d4, d5] }
  | _ => none }
def mixFirstRow : OpenClaim := { program := "ytiaigpkaajnpoaa", sum := "8bbcfb4d69c5d40509286201e0c8c5e54616ed150028b16c0e1f1543c848ce3a", func := "guichet/guichetlaw17.MixFirst", spec := "mixFirst", inPlace := ["math/bits.Add64"], recurses := true, plainKeys := false, apart := false }
def MixFirstSaid : Prop := mixFirstRow.holds Try.pinned (OpenSpec.ofChange mixFirstSpec)

/-- ITS FALSE NEIGHBOUR: 'it returns false'. Refute it at one input. -/
def mixFirstWrong : ChangeSpec := { name := "mixFirst", fn := fun _ => fun
  | [d1, d2, d3, d4, d5] => { results := [.lit (.bool false)], args := [d1, d2, d3, d4, d5] }
  | _ => none }
def MixFirstWrongFalsely : Prop := mixFirstRow.holds Try.pinned (OpenSpec.ofChange mixFirstWrong)

/- THE SECOND FORM. 'bulk': how many values and letters a reading holds, each counted each time it is reached (what is shared counts as often as it is met; a slice's spare places count too). A statement '..UptoSaid' is the law's where the arguments, and the package variables that the reading takes, are together of bulk at most 1048576: NARROWER than '..Said'. Prove '..Said' where nothing that the law and all that it calls make is longer than what came in: it says more and counts as full. Else prove '..UptoSaid'. A law counts once. -/
mutual
def uptoBulk {H : Type} : DataW H → Nat
  | .lit (.string bytes) => bytes.length + 1
  | .lit _ => 1
  | .nil => 1
  | .ptr d => uptoBulk d + 1
  | .slice elems spare => uptoBulkAll elems + uptoBulkAll spare + 1
  | .agg parts => uptoBulkAll parts + 1
  | .iface _ d => uptoBulk d + 1
  | .map entries => uptoBulkEntries entries + 1
  | .held _ => 1
def uptoBulkAll {H : Type} : List (DataW H) → Nat
  | [] => 0
  | d :: r => uptoBulk d + uptoBulkAll r
def uptoBulkEntries {H : Type} : List (Lit × DataW H) → Nat
  | [] => 0
  | x :: r => uptoBulkEntry x + uptoBulkEntries r
def uptoBulkEntry {H : Type} : Lit × DataW H → Nat
  | (.string bytes, d) => bytes.length + uptoBulk d + 1
  | (_, d) => uptoBulk d + 1
 end
def uptoSmall : (H : Type) → List (DataW H) → Bool := fun _ ds => decide (uptoBulkAll ds ≤ 1048576)
def OpenSpec.upto (s : _root_.Go.ChangeSpec) : _root_.Go.OpenSpec := { _root_.Go.OpenSpec.ofChange s with cond := some uptoSmall }

/-- 'guichetlaw17.MixFinds', WHERE WHAT IT READS IS OF BULK AT MOST 1048576: true; the input reads as it did. -/
def mixFindsUptoRow : OpenClaim := { program := "ytiaigpkaajnpoaa", sum := "8bbcfb4d69c5d40509286201e0c8c5e54616ed150028b16c0e1f1543c848ce3a", func := "guichet/guichetlaw17.MixFinds", spec := "mixFinds", inPlace := ["math/bits.Add64"], recurses := true, plainKeys := false, apart := false, narrowed := true }
def MixFindsUptoSaid : Prop := mixFindsUptoRow.holds Try.pinned (OpenSpec.upto mixFindsSpec)

/-- 'guichetlaw17.MixMakes', WHERE WHAT IT READS IS OF BULK AT MOST 1048576: true; the input reads as it did. -/
def mixMakesUptoRow : OpenClaim := { program := "ytiaigpkaajnpoaa", sum := "8bbcfb4d69c5d40509286201e0c8c5e54616ed150028b16c0e1f1543c848ce3a", func := "guichet/guichetlaw17.MixMakes", spec := "mixMakes", inPlace := ["math/bits.Add64"], recurses := true, plainKeys := false, apart := false, narrowed := true }
def MixMakesUptoSaid : Prop := mixMakesUptoRow.holds Try.pinned (OpenSpec.upto mixMakesSpec)

/-- 'guichetlaw17.MixLimits', WHERE WHAT IT READS IS OF BULK AT MOST 1048576: true; the input reads as it did. -/
def mixLimitsUptoRow : OpenClaim := { program := "ytiaigpkaajnpoaa", sum := "8bbcfb4d69c5d40509286201e0c8c5e54616ed150028b16c0e1f1543c848ce3a", func := "guichet/guichetlaw17.MixLimits", spec := "mixLimits", inPlace := ["math/bits.Add64"], recurses := true, plainKeys := false, apart := false, narrowed := true }
def MixLimitsUptoSaid : Prop := mixLimitsUptoRow.holds Try.pinned (OpenSpec.upto mixLimitsSpec)

/-- 'guichetlaw17.MixFew', WHERE WHAT IT READS IS OF BULK AT MOST 1048576: true; the input reads as it did. -/
def mixFewUptoRow : OpenClaim := { program := "ytiaigpkaajnpoaa", sum := "8bbcfb4d69c5d40509286201e0c8c5e54616ed150028b16c0e1f1543c848ce3a", func := "guichet/guichetlaw17.MixFew", spec := "mixFew", inPlace := ["math/bits.Add64"], recurses := true, plainKeys := false, apart := false, narrowed := true }
def MixFewUptoSaid : Prop := mixFewUptoRow.holds Try.pinned (OpenSpec.upto mixFewSpec)

/-- 'guichetlaw17.MixFirst', WHERE WHAT IT READS IS OF BULK AT MOST 1048576: true; the input reads as it did. -/
def mixFirstUptoRow : OpenClaim := { program := "ytiaigpkaajnpoaa", sum := "8bbcfb4d69c5d40509286201e0c8c5e54616ed150028b16c0e1f1543c848ce3a", func := "guichet/guichetlaw17.MixFirst", spec := "mixFirst", inPlace := ["math/bits.Add64"], recurses := true, plainKeys := false, apart := false, narrowed := true }
def MixFirstUptoSaid : Prop := mixFirstUptoRow.holds Try.pinned (OpenSpec.upto mixFirstSpec)

end Rows
end Go.Proofs.Ytiaigpkaajnpoaa
