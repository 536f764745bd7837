/- guichetlaw20.BookCounts returns true for every input, and the input reads as it did: the given row BookCountsSaid, with no condition of its own. -/
import Derived.Test.YthaggpicjpkjiaaRows
import Derived.Test.YthaggpicjpkjiaaBlI
import Derived.Test.YthaggpicjpkjiaaGlL
import Derived.WalkKit
import Derived.ProofKit
import Derived.OpenShut
import Derived.ShutString
import Derived.ChangeOld
import Derived.Below
import Derived.SizedLaws
import Derived.Carry
namespace Go.Proofs.Ythaggpicjpkjiaa.bookCounts
open Go.ChangeShapes Go.WideShapes Go.ChangeAt Go.RowKit
open Go.Proofs.Ythaggpicjpkjiaa.GL
open Go.ChangeMaps (open_string shut_string)
set_option linter.unusedVariables false
set_option linter.unusedSimpArgs false
theorem own : ownKnob Try.prog.godebug = none := by kernel_rfl
theorem laidOut : laidOutB Try.prog = true := by kernel_rfl
theorem readable : (Try.f5.params.toList.all fun t => Try.prog.readableRec t && decide (t < Try.prog.types.size)) = true := by kernel_rfl
set_option maxRecDepth 100000 in
theorem lifted (os : Os) (started : os.Started) (H : Type) (enc : TypeId × Value → H) :
    ReturnsInHanded {} Try.checked os 5 .any (Rows.bookCountsSpec.pre6 enc Try.prog Try.f5 Rows.bookCountsRow.domain false) (Rows.bookCountsSpec.post enc Try.prog Try.f5 false true false false) := by
  refine returnsInHanded_of_change_sized (C := Try.checked) own started (by kernel_rfl) Try.func5
    (ChangeSpec.witness6 (enc := enc) (C := Try.checked) false ⟨#[], #[.int .u8 0, .slice none 0 0, .int .u8 0], []⟩ 8 (by kernel_rfl) (by kernel_rfl) (by kernel_rfl) (by kernel_rfl)) ?_
  intro W base args ds gs before hval0 hW hcnd hsz0 _
  have hval : ∀ (j : Nat) t v, Try.f5.params[j]? = some t → args[j]? = some v → Value.okWide Try.prog W .any base t v := hval0
  have hW' := hW
  obtain ⟨p, q, hA0, hV, rfl, hfz, hnd⟩ := hW
  obtain ⟨rfl, rfl⟩ := trodVars_none hV
  have hAk : DataW.TrodAll enc Try.prog W 0 (fun _ => true) true Try.f5.params.toList args.toList ds p := hA0
  have hlt : ∀ x ∈ p, x.block < W.heap.size := fun x hx => hW'.lt x (by simpa using hx)
  have hA := hAk
  rw [Try.params5] at hA hval
  obtain ⟨v0, vs0, d0, ds0, p0, q0, hargs, rfl, rfl, g0, r0⟩ := trodAll_cons hA
  obtain ⟨v1, vs1, d1, ds1, p1, q1, rfl, rfl, rfl, g1, r1⟩ := trodAll_cons r0
  obtain ⟨v2, vs2, d2, ds2, p2, q2, rfl, rfl, rfl, g2, r2⟩ := trodAll_cons r1
  obtain ⟨rfl, rfl, rfl⟩ := trodAll_nil r2
  obtain rfl : args = #[v0, v1, v2] := by cases args; simp_all
  obtain ⟨a0, rfl, rfl, rfl, w0⟩ := open_int Try.underlying5 (hval 0 5 v0 rfl rfl) g0
  have b0 := (u8_wf a0).1 w0
  obtain ⟨a1, n1, c1, z1, rfl, l1, m1, h1⟩ := arg_bytes Try.underlying57 Try.underlying5 (by kernel_rfl) (hval 1 57 v1 rfl rfl) g1
  obtain ⟨a2, rfl, rfl, rfl, w2⟩ := open_int Try.underlying5 (hval 2 5 v2 rfl rfl) g2
  have b2 := (u8_wf a2).1 w2
  clear hA0 hval0 hsz0
  have hc := bookCounts_c a0.toNat a1 n1 c1 z1 a2.toNat (heapOf W) (by omega) (by omega) h1
  rw [Int.toNat_of_nonneg b0.1, Int.toNat_of_nonneg b2.1] at hc
  refine (hc.world W).mono fun e W' ⟨v, H', he, hv, bel⟩ => ?_
  subst hv he
  exact ⟨_, rfl, _, _, _, [], _, [], hW', trodAll_mk1 (shut_bool Try.underlying4 _), trodAll_belowB laidOut bel readable hAk hlt, rfl, bel.frame _, fun h => by cases h⟩
theorem over : Rows.bookCountsRow.holds Try.pinned (OpenSpec.ofChange Rows.bookCountsSpec) :=
  OpenClaim.holds_of_wide 5 Try.f5 rfl rfl rfl rfl rfl rfl rfl ⟨rfl, rfl, rfl, rfl, rfl⟩ rfl rfl rfl rfl rfl (by kernel_rfl) Try.func5 (by kernel_rfl)
    (of_decide_eq_true (by kernel_rfl)) (by unfold Func.isWrapper; first | (rw [if_pos (by decide +kernel)]; kernel_rfl) | (rw [if_neg (by decide +kernel)]; exact ⟨rfl, rfl⟩))
    (fun os started H enc _ => lifted os started H enc)
theorem proved : Rows.BookCountsSaid := over
end Go.Proofs.Ythaggpicjpkjiaa.bookCounts
namespace Go.Proofs.Ythaggpicjpkjiaa
/-- The row, under a short name, for the claim. -/
theorem bookCounts_holds : Rows.BookCountsSaid := bookCounts.proved
end Go.Proofs.Ythaggpicjpkjiaa
