/- guichetlaw21.LedgerPlays returns true for every input, and the input reads as it did: the given row LedgerPlaysSaid, with no condition of its own. -/
import Derived.Test.YtdeffhibolcebaaRows
import Derived.Test.YtdeffhibolcebaaLeT
import Derived.Test.YtdeffhibolcebaaGlL
import Derived.WalkKit
import Derived.ProofKit
import Derived.OpenShut
import Derived.ShutString
import Derived.ChangeOld
import Derived.Below
import Derived.SizedLaws
import Derived.Carry
namespace Go.Proofs.Ytdeffhibolcebaa.ledgerPlays
open Go.ChangeShapes Go.WideShapes Go.ChangeAt Go.RowKit
open Go.Proofs.Ytdeffhibolcebaa.GL
open Go.ChangeMaps (open_string shut_string)
set_option linter.unusedVariables false
set_option linter.unusedSimpArgs false
theorem own : ownKnob Try.prog.godebug = none := by kernel_rfl
theorem laidOut : laidOutB Try.prog = true := by kernel_rfl
theorem readable : (Try.f3.params.toList.all fun t => Try.prog.readableRec t && decide (t < Try.prog.types.size)) = true := by kernel_rfl
set_option maxRecDepth 100000 in
theorem lifted (os : Os) (started : os.Started) (H : Type) (enc : TypeId × Value → H) :
    ReturnsInHanded {} Try.checked os 3 .any (Rows.ledgerPlaysSpec.pre6 enc Try.prog Try.f3 Rows.ledgerPlaysRow.domain false) (Rows.ledgerPlaysSpec.post enc Try.prog Try.f3 false true false false) := by
  refine returnsInHanded_of_change_sized (C := Try.checked) own started (by kernel_rfl) Try.func3
    (ChangeSpec.witness6 (enc := enc) (C := Try.checked) false ⟨#[], #[.slice none 0 0, .slice none 0 0, .slice none 0 0], []⟩ 8 (by kernel_rfl) (by kernel_rfl) (by kernel_rfl) (by kernel_rfl)) ?_
  intro W base args ds gs before hval0 hW hcnd hsz0 _
  have hval : ∀ (j : Nat) t v, Try.f3.params[j]? = some t → args[j]? = some v → Value.okWide Try.prog W .any base t v := hval0
  have hW' := hW
  obtain ⟨p, q, hA0, hV, rfl, hfz, hnd⟩ := hW
  obtain ⟨rfl, rfl⟩ := trodVars_none hV
  have hAk : DataW.TrodAll enc Try.prog W 0 (fun _ => true) true Try.f3.params.toList args.toList ds p := hA0
  have hlt : ∀ x ∈ p, x.block < W.heap.size := fun x hx => hW'.lt x (by simpa using hx)
  have hA := hAk
  rw [Try.params3] at hA hval
  obtain ⟨v0, vs0, d0, ds0, p0, q0, hargs, rfl, rfl, g0, r0⟩ := trodAll_cons hA
  obtain ⟨v1, vs1, d1, ds1, p1, q1, rfl, rfl, rfl, g1, r1⟩ := trodAll_cons r0
  obtain ⟨v2, vs2, d2, ds2, p2, q2, rfl, rfl, rfl, g2, r2⟩ := trodAll_cons r1
  obtain ⟨rfl, rfl, rfl⟩ := trodAll_nil r2
  obtain rfl : args = #[v0, v1, v2] := by cases args; simp_all
  obtain ⟨a0, n0, c0, z0, rfl, l0, m0, h0⟩ := arg_bytes Try.underlying22 Try.underlying5 (by kernel_rfl) (hval 0 22 v0 rfl rfl) g0
  obtain ⟨a1, n1, c1, z1, rfl, l1, m1, h1, w1⟩ := arg_ints Try.underlying23 Try.underlying2 (by kernel_rfl) (hval 1 23 v1 rfl rfl) g1
  obtain ⟨a2, n2, c2, z2, rfl, l2, m2, h2, x2⟩ := arg_rows (e := 34) (s := 6) (ls := ([.int .u8, .int .u8, .int .u8, .int .i64, .int .i64, .int .u16])) 6 (by kernel_rfl) Try.underlying24 (by kernel_rfl) (by decide) (hval 2 24 v2 rfl rfl) g2
  clear hA0 hval0 hsz0
  obtain ⟨L2, rfl, hL2⟩ := a21s_of h2.len x2
  have hc := plays_c a0 a1 a2 n0 c0 n1 c1 n2 c2 z0 z1 L2 (heapOf W) h0 h1 h2 hL2
  refine (hc.world W).mono fun e W' ⟨v, H', he, hv, bel⟩ => ?_
  subst hv he
  exact ⟨_, rfl, _, _, _, [], _, [], hW', trodAll_mk1 (shut_bool Try.underlying4 _), trodAll_belowB laidOut bel readable hAk hlt, rfl, bel.frame _, fun h => by cases h⟩
theorem over : Rows.ledgerPlaysRow.holds Try.pinned (OpenSpec.ofChange Rows.ledgerPlaysSpec) :=
  OpenClaim.holds_of_wide 3 Try.f3 rfl rfl rfl rfl rfl rfl rfl ⟨rfl, rfl, rfl, rfl, rfl⟩ rfl rfl rfl rfl rfl (by kernel_rfl) Try.func3 (by kernel_rfl)
    (of_decide_eq_true (by kernel_rfl)) (by unfold Func.isWrapper; first | (rw [if_pos (by decide +kernel)]; kernel_rfl) | (rw [if_neg (by decide +kernel)]; exact ⟨rfl, rfl⟩))
    (fun os started H enc _ => lifted os started H enc)
theorem proved : Rows.LedgerPlaysSaid := over
end Go.Proofs.Ytdeffhibolcebaa.ledgerPlays
namespace Go.Proofs.Ytdeffhibolcebaa
/-- The row, under a short name, for the claim. -/
theorem ledgerPlays_holds : Rows.LedgerPlaysSaid := ledgerPlays.proved
end Go.Proofs.Ytdeffhibolcebaa
