/- guichetlaw23.SettledTells returns true for every input, and the input reads as it did: the given row SettledTellsSaid, with no condition of its own. -/
import Derived.Test.YtfpighmafofoeaaDoorCards
import Derived.Test.YtfpighmafofoeaaDoorTie
import Derived.LaidMore
import Derived.SevenTiedAt
import Derived.Test.YtfpighmafofoeaaDoorRows
import Derived.Test.YtfpighmafofoeaaDoorRpI
import Derived.Test.YtfpighmafofoeaaDoorGlL
import Derived.WalkKit
import Derived.ProofKit
import Derived.OpenShut
import Derived.ShutString
import Derived.ChangeOld
import Derived.Below
import Derived.SizedLaws
import Derived.Carry
namespace Go.Proofs.YtfpighmafofoeaaDoor.settledTells
open Go.ChangeShapes Go.WideShapes Go.ChangeAt Go.RowKit
open Go.Proofs.YtfpighmafofoeaaDoor.GL
open Go.ChangeMaps (open_string shut_string)
set_option linter.unusedVariables false
set_option linter.unusedSimpArgs false
theorem own : ownKnob Tryd.prog.godebug = none := by kernel_rfl
theorem laidOut : laidOutB Tryd.prog = true := by kernel_rfl
theorem readable : (Tryd.f4.params.toList.all fun t => Tryd.prog.readableRec t && decide (t < Tryd.prog.types.size)) = true := by kernel_rfl
abbrev laidL : List (String × DataW Unit) := Rows.settledTellsRow.laid
theorem door_met (os : Os) (args : Array Value) : laidMetH Tryd.prog laidL ((World.doorLaid Tryd.prog 24 os).forCall (fun _ _ => 0) ⟨#[], args, []⟩).memory :=
  laidMetH_of_parts3 (fuel := 8) (laidMet_of_run' 8 (by kernel_rfl) (by kernel_rfl)) (by kernel_rfl) (by kernel_rfl)
set_option maxRecDepth 100000 in
theorem lifted (os : Os) (started : os.Started) (H : Type) (enc : TypeId × Value → H) :
    ReturnsInHanded {} Tryd.checked os 4 .any (fun w args => (Rows.settledTellsSpec.pre enc Tryd.prog Tryd.f4 Rows.settledTellsRow.domain false w args ∧ laidMetH Tryd.prog laidL w) ∧ sizedMet enc Tryd.prog Tryd.f4 (OpenSpec.ofChange Rows.settledTellsSpec) false w args) (Rows.settledTellsSpec.post enc Tryd.prog Tryd.f4 false true false false) := by
  refine returnsInHanded_of_change_and (C := Tryd.checked) (X := fun w _ => laidMetH Tryd.prog laidL w) (fun _ _ _ hh h => h.of_heap hh) own started (by kernel_rfl) Tryd.func4
    (ChangeSpec.witness_shaped (enc := enc) (C := Tryd.checked) (os := os) (X := fun w _ => laidMetH Tryd.prog laidL w) false (World.doorLaid Tryd.prog 24 os) #[.slice none 0 0, .slice none 0 0] 8 rfl (World.shaped_of_RefB (by kernel_rfl) (by kernel_rfl)) (by kernel_rfl) (by kernel_rfl) (by kernel_rfl) (door_met os _)) ?_
  intro W base args ds gs before hval0 hW hcnd hsz0 hL _
  have hval : ∀ (j : Nat) t v, Tryd.f4.params[j]? = some t → args[j]? = some v → Value.okWide Tryd.prog W .any base t v := hval0
  have hW' := hW
  obtain ⟨p, q, hA0, hV, rfl, hfz, hnd⟩ := hW
  obtain ⟨rfl, rfl⟩ := trodVars_none hV
  have hAk : DataW.TrodAll enc Tryd.prog W 0 (fun _ => true) true Tryd.f4.params.toList args.toList ds p := hA0
  have hlt : ∀ x ∈ p, x.block < W.heap.size := fun x hx => hW'.lt x (by simpa using hx)
  have hA := hAk
  rw [Tryd.params4] at hA hval
  obtain ⟨v0, vs0, d0, ds0, p0, q0, hargs, rfl, rfl, g0, r0⟩ := trodAll_cons hA
  obtain ⟨v1, vs1, d1, ds1, p1, q1, rfl, rfl, rfl, g1, r1⟩ := trodAll_cons r0
  obtain ⟨rfl, rfl, rfl⟩ := trodAll_nil r1
  obtain rfl : args = #[v0, v1] := by cases args; simp_all
  obtain ⟨a0, n0, c0, z0, rfl, l0, m0, h0, x0⟩ := arg_rows (e := 40) (s := 11) (ls := txLeaves) 6 (by kernel_rfl) Tryd.underlying33 (by kernel_rfl) (by decide) (hval 0 33 v0 rfl rfl) g0
  obtain ⟨a1, n1, c1, z1, rfl, l1, m1, h1⟩ := arg_bytes Tryd.underlying34 Tryd.underlying5 (by kernel_rfl) (hval 1 34 v1 rfl rfl) g1
  clear hA0 hval0 hsz0
  obtain ⟨L0, rfl, hL0⟩ := txs_of h0.len x0
  have hc := settledTells_c a0 n0 c0 L0 a1 n1 c1 z1 (heapOf W) h0 hL0 h1
  refine (hc.world W).mono fun e W' ⟨v, H', he, hv, bel⟩ => ?_
  subst hv he
  exact ⟨_, rfl, _, _, _, [], _, [], hW', trodAll_mk1 (shut_bool Tryd.underlying4 _), trodAll_belowB laidOut bel readable hAk hlt, rfl, bel.frame _, fun h => by cases h⟩
theorem over : Rows.settledTellsRow.holds Tryd.pinned (OpenSpec.ofChange Rows.settledTellsSpec) :=
  OpenClaim.holds_of_wide 4 Tryd.f4 rfl rfl rfl rfl rfl rfl rfl ⟨rfl, rfl, rfl, rfl, rfl⟩ rfl rfl rfl rfl rfl (by kernel_rfl) Tryd.func4 (by kernel_rfl)
    (of_decide_eq_true (by kernel_rfl)) (by unfold Func.isWrapper; first | (rw [if_pos (by decide +kernel)]; kernel_rfl) | (rw [if_neg (by decide +kernel)]; exact ⟨rfl, rfl⟩))
    (fun os started H enc _ => lifted os started H enc)
theorem proved : Rows.SettledTellsSaid := over
theorem carded : Rows.SettledTellsCardSaid :=
  Claim7.holds_tied_plain_at .later [] [.data, .data, .data] true Rows.settledTellsCard.stood.harness false
    proved (fun _ h => by cases h) (by kernel_rfl) (fun _ h => by cases h) settledTells_row_tie rfl ⟨rfl, rfl⟩ (by kernel_rfl) rfl
    (fun f fn hf hfn => by
      obtain rfl : f = 4 := Option.some.inj ((show Tryd.prog.funcNamed "guichet/guichetlaw23.SettledTells" = some 4 by kernel_rfl).symm.trans hf) |>.symm
      obtain rfl : fn = Tryd.f4 := (Option.some.inj (Tryd.func4.symm.trans hfn)).symm
      exact ⟨by kernel_rfl, fun j t ht => by
        rw [Tryd.params4] at ht
        have hm : t ∈ [33, 34] := by simpa using Array.mem_of_getElem? ht
        have hall : ([33, 34].all fun u => !Tryd.prog.wantsStandIn u) = true := by kernel_rfl
        exact (show Tryd.prog.wantsStandIn t = false by simpa using List.all_eq_true.1 hall t hm)⟩)
    (by kernel_rfl)
end Go.Proofs.YtfpighmafofoeaaDoor.settledTells
namespace Go.Proofs.YtfpighmafofoeaaDoor
/-- The row, under a short name, for the claim. -/
theorem settledTells_holds : Rows.SettledTellsCardSaid := settledTells.carded
end Go.Proofs.YtfpighmafofoeaaDoor
