/- guichetlaw20.BookRecords returns true for every input, and the input reads as it did: the given row BookRecordsSaid, with no condition of its own. -/
import Derived.Test.YthaggpicjpkjiaaGreatRows
import Derived.Test.YthaggpicjpkjiaaGreatReQ
import Derived.Test.YthaggpicjpkjiaaGreatBlO
import Derived.Test.YthaggpicjpkjiaaGreatGlL
import Derived.WalkKit
import Derived.ProofKit
import Derived.OpenShut
import Derived.ShutString
import Derived.ChangeOld
import Derived.Below
import Derived.SizedLaws
import Derived.Carry
namespace Go.Proofs.YthaggpicjpkjiaaGreat.bookRecords
open Go.ChangeShapes Go.WideShapes Go.ChangeAt Go.RowKit
open Go.Proofs.YthaggpicjpkjiaaGreat.GL
open Go.ChangeMaps (open_string shut_string)
set_option linter.unusedVariables false
set_option linter.unusedSimpArgs false
theorem own : ownKnob Tryz.prog.godebug = none := by kernel_rfl
theorem laidOut : laidOutB Tryz.prog = true := by kernel_rfl
theorem readable : (Tryz.f3.params.toList.all fun t => Tryz.prog.readableRec t && decide (t < Tryz.prog.types.size)) = true := by kernel_rfl
set_option maxRecDepth 100000 in
theorem lifted (os : Os) (started : os.Started) (H : Type) (enc : TypeId × Value → H) :
    ReturnsInHanded {} Tryz.checked os 3 .any (Rows.bookRecordsSpec.pre6 enc Tryz.prog Tryz.f3 Rows.bookRecordsRow.domain false) (Rows.bookRecordsSpec.post enc Tryz.prog Tryz.f3 false true false false) := by
  refine returnsInHanded_of_change_sized (C := Tryz.checked) own started (by kernel_rfl) Tryz.func3
    (ChangeSpec.witness6 (enc := enc) (C := Tryz.checked) false ⟨#[], #[.int .u8 0, .int .u8 0, .slice none 0 0, .slice none 0 0], []⟩ 8 (by kernel_rfl) (by kernel_rfl) (by kernel_rfl) (by kernel_rfl)) ?_
  intro W base args ds gs before hval0 hW hcnd hsz0 _
  have hval : ∀ (j : Nat) t v, Tryz.f3.params[j]? = some t → args[j]? = some v → Value.okWide Tryz.prog W .any base t v := hval0
  have hW' := hW
  obtain ⟨p, q, hA0, hV, rfl, hfz, hnd⟩ := hW
  obtain ⟨rfl, rfl⟩ := trodVars_none hV
  have hAk : DataW.TrodAll enc Tryz.prog W 0 (fun _ => true) true Tryz.f3.params.toList args.toList ds p := hA0
  have hlt : ∀ x ∈ p, x.block < W.heap.size := fun x hx => hW'.lt x (by simpa using hx)
  have hA := hAk
  rw [Tryz.params3] at hA hval
  obtain ⟨v0, vs0, d0, ds0, p0, q0, hargs, rfl, rfl, g0, r0⟩ := trodAll_cons hA
  obtain ⟨v1, vs1, d1, ds1, p1, q1, rfl, rfl, rfl, g1, r1⟩ := trodAll_cons r0
  obtain ⟨v2, vs2, d2, ds2, p2, q2, rfl, rfl, rfl, g2, r2⟩ := trodAll_cons r1
  obtain ⟨v3, vs3, d3, ds3, p3, q3, rfl, rfl, rfl, g3, r3⟩ := trodAll_cons r2
  obtain ⟨rfl, rfl, rfl⟩ := trodAll_nil r3
  obtain rfl : args = #[v0, v1, v2, v3] := by cases args; simp_all
  obtain ⟨a0, rfl, rfl, rfl, w0⟩ := open_int Tryz.underlying5 (hval 0 5 v0 rfl rfl) g0
  have b0 := (u8_wf a0).1 w0
  obtain ⟨a1, rfl, rfl, rfl, w1⟩ := open_int Tryz.underlying5 (hval 1 5 v1 rfl rfl) g1
  have b1 := (u8_wf a1).1 w1
  obtain ⟨a2, n2, c2, z2, rfl, l2, m2, h2, x2⟩ := arg_rows (e := 43) (s := 21) (ls := in20Leaves) 6 (by kernel_rfl) Tryz.underlying22 (by kernel_rfl) (by decide) (hval 2 22 v2 rfl rfl) g2
  obtain ⟨a3, n3, c3, z3, rfl, l3, m3, h3, x3⟩ := arg_rows (e := 43) (s := 21) (ls := in20Leaves) 6 (by kernel_rfl) Tryz.underlying22 (by kernel_rfl) (by decide) (hval 3 22 v3 rfl rfl) g3
  clear hA0 hval0 hsz0
  obtain ⟨L2, rfl, hL2⟩ := in20s_of h2.len x2
  obtain ⟨L3, rfl, hL3⟩ := in20s_of h3.len x3
  have hc := bookRecords_c a0.toNat a1.toNat a2 n2 c2 L2 a3 n3 c3 L3 (heapOf W) (by omega) (by omega) h2 h3 hL2 hL3
  rw [Int.toNat_of_nonneg b0.1, Int.toNat_of_nonneg b1.1] at hc
  refine (hc.world W).mono fun e W' ⟨v, H', he, hv, bel⟩ => ?_
  subst hv he
  exact ⟨_, rfl, _, _, _, [], _, [], hW', trodAll_mk1 (shut_bool Tryz.underlying4 _), trodAll_belowB laidOut bel readable hAk hlt, rfl, bel.frame _, fun h => by cases h⟩
theorem over : Rows.bookRecordsRow.holds Tryz.pinned (OpenSpec.ofChange Rows.bookRecordsSpec) :=
  OpenClaim.holds_of_wide 3 Tryz.f3 rfl rfl rfl rfl rfl rfl rfl ⟨rfl, rfl, rfl, rfl, rfl⟩ rfl rfl rfl rfl rfl (by kernel_rfl) Tryz.func3 (by kernel_rfl)
    (of_decide_eq_true (by kernel_rfl)) (by unfold Func.isWrapper; first | (rw [if_pos (by decide +kernel)]; kernel_rfl) | (rw [if_neg (by decide +kernel)]; exact ⟨rfl, rfl⟩))
    (fun os started H enc _ => lifted os started H enc)
theorem proved : Rows.BookRecordsSaid := over
end Go.Proofs.YthaggpicjpkjiaaGreat.bookRecords
namespace Go.Proofs.YthaggpicjpkjiaaGreat
/-- The row, under a short name, for the claim. -/
theorem bookRecords_holds : Rows.BookRecordsSaid := bookRecords.proved
end Go.Proofs.YthaggpicjpkjiaaGreat
