/- guichetlaw21.LedgerOrders returns true for every input, and the input reads as it did: the given row LedgerOrdersSaid, with no condition of its own. -/
import Derived.Test.YtdeffhibolcebaaRows
import Derived.Test.YtdeffhibolcebaaLeK
import Derived.Test.YtdeffhibolcebaaGlL
import Derived.WalkKit
import Derived.ProofKit
import Derived.OpenShut
import Derived.ShutString
import Derived.ChangeOld
import Derived.Below
import Derived.SizedLaws
import Derived.Carry
namespace Go.Proofs.Ytdeffhibolcebaa.ledgerOrders
open Go.ChangeShapes Go.WideShapes Go.ChangeAt Go.RowKit
open Go.Proofs.Ytdeffhibolcebaa.GL
open Go.ChangeMaps (open_string shut_string)
set_option linter.unusedVariables false
set_option linter.unusedSimpArgs false
theorem own : ownKnob Try.prog.godebug = none := by kernel_rfl
theorem laidOut : laidOutB Try.prog = true := by kernel_rfl
theorem readable : (Try.f4.params.toList.all fun t => Try.prog.readableRec t && decide (t < Try.prog.types.size)) = true := by kernel_rfl
set_option maxRecDepth 100000 in
theorem lifted (os : Os) (started : os.Started) (H : Type) (enc : TypeId × Value → H) :
    ReturnsInHanded {} Try.checked os 4 .any (Rows.ledgerOrdersSpec.pre6 enc Try.prog Try.f4 Rows.ledgerOrdersRow.domain false) (Rows.ledgerOrdersSpec.post enc Try.prog Try.f4 false true false false) := by
  refine returnsInHanded_of_change_sized (C := Try.checked) own started (by kernel_rfl) Try.func4
    (ChangeSpec.witness6 (enc := enc) (C := Try.checked) false ⟨#[], #[.slice none 0 0, .int .u8 0], []⟩ 8 (by kernel_rfl) (by kernel_rfl) (by kernel_rfl) (by kernel_rfl)) ?_
  intro W base args ds gs before hval0 hW hcnd hsz0 _
  have hval : ∀ (j : Nat) t v, Try.f4.params[j]? = some t → args[j]? = some v → Value.okWide Try.prog W .any base t v := hval0
  have hW' := hW
  obtain ⟨p, q, hA0, hV, rfl, hfz, hnd⟩ := hW
  obtain ⟨rfl, rfl⟩ := trodVars_none hV
  have hAk : DataW.TrodAll enc Try.prog W 0 (fun _ => true) true Try.f4.params.toList args.toList ds p := hA0
  have hlt : ∀ x ∈ p, x.block < W.heap.size := fun x hx => hW'.lt x (by simpa using hx)
  have hA := hAk
  rw [Try.params4] at hA hval
  obtain ⟨v0, vs0, d0, ds0, p0, q0, hargs, rfl, rfl, g0, r0⟩ := trodAll_cons hA
  obtain ⟨v1, vs1, d1, ds1, p1, q1, rfl, rfl, rfl, g1, r1⟩ := trodAll_cons r0
  obtain ⟨rfl, rfl, rfl⟩ := trodAll_nil r1
  obtain rfl : args = #[v0, v1] := by cases args; simp_all
  obtain ⟨a0, n0, c0, z0, rfl, l0, m0, h0, w0⟩ := arg_ints Try.underlying50 Try.underlying32 (by kernel_rfl) (hval 0 50 v0 rfl rfl) g0
  obtain ⟨a1, rfl, rfl, rfl, w1⟩ := open_int Try.underlying5 (hval 1 5 v1 rfl rfl) g1
  have b1 := (u8_wf a1).1 w1
  clear hA0 hval0 hsz0
  have hc := orders_c a0 n0 c0 z0 a1.toNat (heapOf W) h0 (fun z hz => (u16_wf z).1 (w0 z hz)) (by omega)
  rw [Int.toNat_of_nonneg b1.1] at hc
  refine (hc.world W).mono fun e W' ⟨v, H', he, hv, bel⟩ => ?_
  subst hv he
  exact ⟨_, rfl, _, _, _, [], _, [], hW', trodAll_mk1 (shut_bool Try.underlying4 _), trodAll_belowB laidOut bel readable hAk hlt, rfl, bel.frame _, fun h => by cases h⟩
theorem over : Rows.ledgerOrdersRow.holds Try.pinned (OpenSpec.ofChange Rows.ledgerOrdersSpec) :=
  OpenClaim.holds_of_wide 4 Try.f4 rfl rfl rfl rfl rfl rfl rfl ⟨rfl, rfl, rfl, rfl, rfl⟩ rfl rfl rfl rfl rfl (by kernel_rfl) Try.func4 (by kernel_rfl)
    (of_decide_eq_true (by kernel_rfl)) (by unfold Func.isWrapper; first | (rw [if_pos (by decide +kernel)]; kernel_rfl) | (rw [if_neg (by decide +kernel)]; exact ⟨rfl, rfl⟩))
    (fun os started H enc _ => lifted os started H enc)
theorem proved : Rows.LedgerOrdersSaid := over
end Go.Proofs.Ytdeffhibolcebaa.ledgerOrders
namespace Go.Proofs.Ytdeffhibolcebaa
/-- The row, under a short name, for the claim. -/
theorem ledgerOrders_holds : Rows.LedgerOrdersSaid := ledgerOrders.proved
end Go.Proofs.Ytdeffhibolcebaa
