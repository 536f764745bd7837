/- Layer 1: the chapter's example. -/
import Derived.Test.YtkeojbgafkiciaaArC
namespace Go.Proofs.Ytkeojbgafkiciaa.GL
open Go Go.RowKit
set_option maxRecDepth 10000
set_option pp.deepTerms.threshold 8
set_option pp.maxSteps 3000
set_option linter.unusedSimpArgs false
set_option linter.unusedVariables false

theorem row_u8 {H : Heap} {b : Nat} (xs : List UInt8) : SlA (upd H b (.row true 0 (xs.map u8V) 0)) (some ⟨b, 0, none⟩) xs.length 1 (xs.map u8V) :=
  SlA.row (upd_same _ _ _) (Nat.le_refl _) (by simp) (by simp) (by rw [Nat.sub_self, List.drop_zero, Nat.mul_one, List.take_of_length_le (by simp)])

theorem known_c (H : Heap) : ECalls Try.prog 8 #[] H fun v H' => v = .bool true ∧ Heap.le H H' := by
  refine ecalls_of_ewp (args := []) Try.func8 rfl rfl rfl (by simp [Try.ntmps8]) (by kernel_rfl) ?_
  have n1 : narrowZ 200 8 = .tuple #[.int .i64 0, .bool false] := by unfold narrowZ; rw [if_pos (by decide +kernel)]
  have n2 : narrowZ 100 8 = .tuple #[.int .i64 100, .bool true] := by unfold narrowZ; rw [if_neg (by decide +kernel)]
  have n3 : numB [1, 0] = some 256 := by decide +kernel
  have n4 : wrapZ 200 8 = -56 := by decide +kernel
  have n5 : lowZ 255 4 = 15 := by decide +kernel
  have n6 : rotZ 1 33 = 2 := by decide +kernel
  have n7 : bytesL 258 3 = [0, 1, 2] := by decide +kernel
  have n8 : sizeZ 3 = 3 := by decide +kernel
  simp (disch := first | omega | assumption | decide | (simp <;> omega) | fail) [facts, ]
  refine (narrow_c 200 8 H (by simp [i64In]) (by simp [i64In])).mono ?_
  rintro v H' ⟨rfl, rfl⟩
  simp (disch := first | omega | assumption | decide | (simp <;> omega) | fail) [facts, n1]
  refine (narrow_c 100 8 _ (by simp [i64In]) (by simp [i64In])).mono ?_
  rintro v H1 ⟨rfl, rfl⟩
  simp (disch := first | omega | assumption | decide | (simp <;> omega) | fail) [facts, n2]
  refine fresh_intro fun b hb => ?_
  simp (disch := first | omega | assumption | decide | (simp <;> omega) | fail) [facts, ]
  have hle := le_upd (.row true 0 (([1, 0] : List UInt8).map u8V) 0) hb
  refine (number_c _ _ _ [1, 0] _ (row_u8 [1, 0]) (by decide)).mono ?_
  rintro v H2 ⟨rfl, rfl⟩
  simp (disch := first | omega | assumption | decide | (simp <;> omega) | fail) [facts, n3, numV]
  refine (wrap_c 200 8 _ (by simp [i64In]) (by simp [i64In])).mono ?_
  rintro v H2 ⟨rfl, rfl⟩
  simp (disch := first | omega | assumption | decide | (simp <;> omega) | fail) [facts, n4]
  refine (low_c 255 4 _ (by simp [u64In]) (by simp [i64In])).mono ?_
  rintro v H2 ⟨rfl, rfl⟩
  simp (disch := first | omega | assumption | decide | (simp <;> omega) | fail) [facts, n5]
  refine (rot_c 1 33 _ (by simp [i64In])).mono ?_
  rintro v H2 ⟨rfl, rfl⟩
  simp (disch := first | omega | assumption | decide | (simp <;> omega) | fail) [facts, n6]
  refine (bytes_c 258 3 _ (by decide) (by simp [i64In])).mono ?_
  rintro v H3 ⟨hle3, hout⟩
  rw [n8, n7] at hout
  obtain ⟨a, c, rfl, hs⟩ := hout.sl
  simp (disch := first | omega | assumption | decide | (simp <;> omega) | fail) [facts, conv_bytes (P := Try.prog) (el := 5) (by simp [facts]) hs]
  exact ⟨_, Heap.le_refl _, Heap.le_trans (le_upd _ hb) hle3⟩
end Go.Proofs.Ytkeojbgafkiciaa.GL
