/- guichetlaw23.DiffsBack returns true for every input, and the input reads as it did: the given row DiffsBackSaid, with no condition of its own. -/
import Derived.Test.YtfpighmafofoeaaDoorCards
import Derived.Test.YtfpighmafofoeaaDoorTie
import Derived.LaidMore
import Derived.SevenTiedAt
import Derived.Test.YtfpighmafofoeaaDoorRows
import Derived.Test.YtfpighmafofoeaaDoorRpJ
import Derived.Test.YtfpighmafofoeaaDoorGlL
import Derived.WalkKit
import Derived.ProofKit
import Derived.OpenShut
import Derived.ShutString
import Derived.ChangeOld
import Derived.Below
import Derived.SizedLaws
import Derived.Carry
namespace Go.Proofs.YtfpighmafofoeaaDoor.diffsBack
open Go.ChangeShapes Go.WideShapes Go.ChangeAt Go.RowKit
open Go.Proofs.YtfpighmafofoeaaDoor.GL
open Go.ChangeMaps (open_string shut_string)
set_option linter.unusedVariables false
set_option linter.unusedSimpArgs false
theorem own : ownKnob Tryd.prog.godebug = none := by kernel_rfl
theorem laidOut : laidOutB Tryd.prog = true := by kernel_rfl
theorem readable : (Tryd.f5.params.toList.all fun t => Tryd.prog.readableRec t && decide (t < Tryd.prog.types.size)) = true := by kernel_rfl
abbrev laidL : List (String × DataW Unit) := Rows.diffsBackRow.laid
theorem door_met (os : Os) (args : Array Value) : laidMetH Tryd.prog laidL ((World.doorLaid Tryd.prog 24 os).forCall (fun _ _ => 0) ⟨#[], args, []⟩).memory :=
  laidMetH_of_parts3 (fuel := 8) (laidMet_of_run' 8 (by kernel_rfl) (by kernel_rfl)) (by kernel_rfl) (by kernel_rfl)
set_option maxRecDepth 100000 in
theorem lifted (os : Os) (started : os.Started) (H : Type) (enc : TypeId × Value → H) :
    ReturnsInHanded {} Tryd.checked os 5 .any (fun w args => (Rows.diffsBackSpec.pre enc Tryd.prog Tryd.f5 Rows.diffsBackRow.domain false w args ∧ laidMetH Tryd.prog laidL w) ∧ sizedMet enc Tryd.prog Tryd.f5 (OpenSpec.ofChange Rows.diffsBackSpec) false w args) (Rows.diffsBackSpec.post enc Tryd.prog Tryd.f5 false true false false) := by
  refine returnsInHanded_of_change_and (C := Tryd.checked) (X := fun w _ => laidMetH Tryd.prog laidL w) (fun _ _ _ hh h => h.of_heap hh) own started (by kernel_rfl) Tryd.func5
    (ChangeSpec.witness_shaped (enc := enc) (C := Tryd.checked) (os := os) (X := fun w _ => laidMetH Tryd.prog laidL w) false (World.doorLaid Tryd.prog 24 os) #[.agg #[.int .i64 0, .int .i64 0, .int .i64 0, .int .i64 0], .agg #[.int .i64 0, .int .i64 0, .int .i64 0, .int .i64 0], .agg #[.int .i64 0, .int .i64 0, .int .i64 0, .int .i64 0], .agg #[.int .i64 0, .int .i64 0, .int .i64 0, .int .i64 0]] 8 rfl (World.shaped_of_RefB (by kernel_rfl) (by kernel_rfl)) (by kernel_rfl) (by kernel_rfl) (by kernel_rfl) (door_met os _)) ?_
  intro W base args ds gs before hval0 hW hcnd hsz0 hL _
  have hval : ∀ (j : Nat) t v, Tryd.f5.params[j]? = some t → args[j]? = some v → Value.okWide Tryd.prog W .any base t v := hval0
  have hW' := hW
  obtain ⟨p, q, hA0, hV, rfl, hfz, hnd⟩ := hW
  obtain ⟨rfl, rfl⟩ := trodVars_none hV
  have hAk : DataW.TrodAll enc Tryd.prog W 0 (fun _ => true) true Tryd.f5.params.toList args.toList ds p := hA0
  have hlt : ∀ x ∈ p, x.block < W.heap.size := fun x hx => hW'.lt x (by simpa using hx)
  have hA := hAk
  rw [Tryd.params5] at hA hval
  obtain ⟨v0, vs0, d0, ds0, p0, q0, hargs, rfl, rfl, g0, r0⟩ := trodAll_cons hA
  obtain ⟨v1, vs1, d1, ds1, p1, q1, rfl, rfl, rfl, g1, r1⟩ := trodAll_cons r0
  obtain ⟨v2, vs2, d2, ds2, p2, q2, rfl, rfl, rfl, g2, r2⟩ := trodAll_cons r1
  obtain ⟨v3, vs3, d3, ds3, p3, q3, rfl, rfl, rfl, g3, r3⟩ := trodAll_cons r2
  obtain ⟨rfl, rfl, rfl⟩ := trodAll_nil r3
  obtain rfl : args = #[v0, v1, v2, v3] := by cases args; simp_all
  obtain ⟨z0, rfl, l0, w0⟩ := arg_arr Tryd.underlying26 Tryd.underlying3 (by kernel_rfl) (by kernel_rfl) (hval 0 26 v0 rfl rfl) g0
  obtain ⟨z1, rfl, l1, w1⟩ := arg_arr Tryd.underlying26 Tryd.underlying3 (by kernel_rfl) (by kernel_rfl) (hval 1 26 v1 rfl rfl) g1
  obtain ⟨z2, rfl, l2, w2⟩ := arg_arr Tryd.underlying26 Tryd.underlying3 (by kernel_rfl) (by kernel_rfl) (hval 2 26 v2 rfl rfl) g2
  obtain ⟨z3, rfl, l3, w3⟩ := arg_arr Tryd.underlying26 Tryd.underlying3 (by kernel_rfl) (by kernel_rfl) (hval 3 26 v3 rfl rfl) g3
  clear hA0 hval0 hsz0
  have hc := diffsBack_l z0 z1 z2 z3 (heapOf W) l0 l1 l2 l3 (fun z hz => (i64_wf z).1 (w0 z hz)) (fun z hz => (i64_wf z).1 (w1 z hz)) (fun z hz => (i64_wf z).1 (w2 z hz)) (fun z hz => (i64_wf z).1 (w3 z hz))
  refine (hc.world W).mono fun e W' ⟨v, H', he, hv, bel⟩ => ?_
  subst hv he
  exact ⟨_, rfl, _, _, _, [], _, [], hW', trodAll_mk1 (shut_bool Tryd.underlying4 _), trodAll_belowB laidOut bel readable hAk hlt, rfl, bel.frame _, fun h => by cases h⟩
theorem over : Rows.diffsBackRow.holds Tryd.pinned (OpenSpec.ofChange Rows.diffsBackSpec) :=
  OpenClaim.holds_of_wide 5 Tryd.f5 rfl rfl rfl rfl rfl rfl rfl ⟨rfl, rfl, rfl, rfl, rfl⟩ rfl rfl rfl rfl rfl (by kernel_rfl) Tryd.func5 (by kernel_rfl)
    (of_decide_eq_true (by kernel_rfl)) (by unfold Func.isWrapper; first | (rw [if_pos (by decide +kernel)]; kernel_rfl) | (rw [if_neg (by decide +kernel)]; exact ⟨rfl, rfl⟩))
    (fun os started H enc _ => lifted os started H enc)
theorem proved : Rows.DiffsBackSaid := over
theorem carded : Rows.DiffsBackCardSaid :=
  Claim7.holds_tied_plain_at .later [] [.data, .data, .data] true Rows.diffsBackCard.stood.harness false
    proved (fun _ h => by cases h) (by kernel_rfl) (fun _ h => by cases h) diffsBack_row_tie rfl ⟨rfl, rfl⟩ (by kernel_rfl) rfl
    (fun f fn hf hfn => by
      obtain rfl : f = 5 := Option.some.inj ((show Tryd.prog.funcNamed "guichet/guichetlaw23.DiffsBack" = some 5 by kernel_rfl).symm.trans hf) |>.symm
      obtain rfl : fn = Tryd.f5 := (Option.some.inj (Tryd.func5.symm.trans hfn)).symm
      exact ⟨by kernel_rfl, fun j t ht => by
        rw [Tryd.params5] at ht
        have hm : t ∈ [26, 26, 26, 26] := by simpa using Array.mem_of_getElem? ht
        have hall : ([26, 26, 26, 26].all fun u => !Tryd.prog.wantsStandIn u) = true := by kernel_rfl
        exact (show Tryd.prog.wantsStandIn t = false by simpa using List.all_eq_true.1 hall t hm)⟩)
    (by kernel_rfl)
end Go.Proofs.YtfpighmafofoeaaDoor.diffsBack
namespace Go.Proofs.YtfpighmafofoeaaDoor
/-- The row, under a short name, for the claim. -/
theorem diffsBack_holds : Rows.DiffsBackCardSaid := diffsBack.carded
end Go.Proofs.YtfpighmafofoeaaDoor
