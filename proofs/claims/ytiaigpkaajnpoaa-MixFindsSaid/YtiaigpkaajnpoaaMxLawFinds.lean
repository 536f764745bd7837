/- guichetlaw17.MixFinds returns true for every input, and the input reads as it did: the given row MixFindsSaid, with no condition of its own. -/
import Derived.Test.YtiaigpkaajnpoaaRows
import Derived.Test.YtiaigpkaajnpoaaMxR
import Derived.Test.YtiaigpkaajnpoaaGlL
import Derived.WalkKit
import Derived.ProofKit
import Derived.OpenShut
import Derived.ShutString
import Derived.ChangeOld
import Derived.Below
import Derived.SizedLaws
import Derived.Carry
namespace Go.Proofs.Ytiaigpkaajnpoaa.mixFinds
open Go.ChangeShapes Go.WideShapes Go.ChangeAt Go.RowKit
open Go.Proofs.Ytiaigpkaajnpoaa.GL
open Go.ChangeMaps (open_string shut_string)
set_option linter.unusedVariables false
set_option linter.unusedSimpArgs false
theorem own : ownKnob Try.prog.godebug = none := by kernel_rfl
theorem laidOut : laidOutB Try.prog = true := by kernel_rfl
theorem readable : (Try.f3.params.toList.all fun t => Try.prog.readableRec t && decide (t < Try.prog.types.size)) = true := by kernel_rfl
set_option maxRecDepth 100000 in
theorem lifted (os : Os) (started : os.Started) (H : Type) (enc : TypeId × Value → H) :
    ReturnsInHanded {} Try.checked os 3 .any (Rows.mixFindsSpec.pre6 enc Try.prog Try.f3 Rows.mixFindsRow.domain false) (Rows.mixFindsSpec.post enc Try.prog Try.f3 false true false false) := by
  refine returnsInHanded_of_change_sized (C := Try.checked) own started (by kernel_rfl) Try.func3
    (ChangeSpec.witness6 (enc := enc) (C := Try.checked) false ⟨#[], #[.agg #[.int .i64 0, .int .i64 0, .int .i64 0, .int .i64 0, .int .i64 0, .int .i64 0, .int .i64 0, .int .i64 0, .int .i64 0, .int .i64 0, .int .i64 0, .int .i64 0, .int .i64 0, .int .i64 0, .int .i64 0, .int .i64 0], .int .u8 0, .agg #[.int .i64 0, .int .i64 0, .int .i64 0, .int .i64 0], .int .i64 0, .int .u16 0], []⟩ 8 (by kernel_rfl) (by kernel_rfl) (by kernel_rfl) (by kernel_rfl)) ?_
  intro W base args ds gs before hval0 hW hcnd hsz0 _
  have hval : ∀ (j : Nat) t v, Try.f3.params[j]? = some t → args[j]? = some v → Value.okWide Try.prog W .any base t v := hval0
  have hW' := hW
  obtain ⟨p, q, hA0, hV, rfl, hfz, hnd⟩ := hW
  obtain ⟨rfl, rfl⟩ := trodVars_none hV
  have hAk : DataW.TrodAll enc Try.prog W 0 (fun _ => true) true Try.f3.params.toList args.toList ds p := hA0
  have hlt : ∀ x ∈ p, x.block < W.heap.size := fun x hx => hW'.lt x (by simpa using hx)
  have hA := hAk
  rw [Try.params3] at hA hval
  obtain ⟨v0, vs0, d0, ds0, p0, q0, hargs, rfl, rfl, g0, r0⟩ := trodAll_cons hA
  obtain ⟨v1, vs1, d1, ds1, p1, q1, rfl, rfl, rfl, g1, r1⟩ := trodAll_cons r0
  obtain ⟨v2, vs2, d2, ds2, p2, q2, rfl, rfl, rfl, g2, r2⟩ := trodAll_cons r1
  obtain ⟨v3, vs3, d3, ds3, p3, q3, rfl, rfl, rfl, g3, r3⟩ := trodAll_cons r2
  obtain ⟨v4, vs4, d4, ds4, p4, q4, rfl, rfl, rfl, g4, r4⟩ := trodAll_cons r3
  obtain ⟨rfl, rfl, rfl⟩ := trodAll_nil r4
  obtain rfl : args = #[v0, v1, v2, v3, v4] := by cases args; simp_all
  obtain ⟨k0, rfl, x0⟩ := arg_agg (ls := (List.replicate 16 (.int .i64))) 6 (by kernel_rfl) (agg_of_okWide_arr Try.underlying24 (hval 0 24 v0 rfl rfl)) g0
  obtain ⟨a1, rfl, rfl, rfl, w1⟩ := open_int Try.underlying5 (hval 1 5 v1 rfl rfl) g1
  have b1 := (u8_wf a1).1 w1
  obtain ⟨z2, rfl, l2, w2⟩ := arg_arr Try.underlying26 Try.underlying3 (by kernel_rfl) (by kernel_rfl) (hval 2 26 v2 rfl rfl) g2
  obtain ⟨a3, rfl, rfl, rfl, w3⟩ := open_int Try.underlying2 (hval 3 2 v3 rfl rfl) g3
  have b3 := (i64_wf a3).1 w3
  obtain ⟨a4, rfl, rfl, rfl, w4⟩ := open_int Try.underlying27 (hval 4 27 v4 rfl rfl) g4
  have b4 := (u16_wf a4).1 w4
  clear hA0 hval0 hsz0
  obtain ⟨s0, hs0, i0, i1, i2, i3⟩ := set_of x0
  obtain ⟨y0, y1, y2, y3, rfl⟩ := notes_four l2
  have hc := mixFinds_l s0 ⟨i0, i1, i2, i3⟩ a1.toNat (by omega) y0 y1 y2 y3 (fun z hz => (i64_wf z).1 (w2 z hz)) a3 ((i64_wf a3).1 w3) a4.toNat (by omega) (heapOf W) 
  rw [Int.toNat_of_nonneg b1.1, Int.toNat_of_nonneg b4.1] at hc
  rw [← hs0] at hc
  refine (hc.world W).mono fun e W' ⟨v, H', he, hv, bel⟩ => ?_
  subst hv he
  exact ⟨_, rfl, _, _, _, [], _, [], hW', trodAll_mk1 (shut_bool Try.underlying4 _), trodAll_belowB laidOut bel readable hAk hlt, rfl, bel.frame _, fun h => by cases h⟩
theorem over : Rows.mixFindsRow.holds Try.pinned (OpenSpec.ofChange Rows.mixFindsSpec) :=
  OpenClaim.holds_of_wide 3 Try.f3 rfl rfl rfl rfl rfl rfl rfl ⟨rfl, rfl, rfl, rfl, rfl⟩ rfl rfl rfl rfl rfl (by kernel_rfl) Try.func3 (by kernel_rfl)
    (of_decide_eq_true (by kernel_rfl)) (by unfold Func.isWrapper; first | (rw [if_pos (by decide +kernel)]; kernel_rfl) | (rw [if_neg (by decide +kernel)]; exact ⟨rfl, rfl⟩))
    (fun os started H enc _ => lifted os started H enc)
theorem proved : Rows.MixFindsSaid := over
end Go.Proofs.Ytiaigpkaajnpoaa.mixFinds
namespace Go.Proofs.Ytiaigpkaajnpoaa
/-- The row, under a short name, for the claim. -/
theorem mixFinds_holds : Rows.MixFindsSaid := mixFinds.proved
end Go.Proofs.Ytiaigpkaajnpoaa
