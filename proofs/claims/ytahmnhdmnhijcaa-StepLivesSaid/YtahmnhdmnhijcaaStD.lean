/- Layer 19: the chapter's example; a transaction of numbers. -/
import Derived.Test.YtahmnhdmnhijcaaStC
namespace Go.Proofs.Ytahmnhdmnhijcaa.GL
open Go Go.RowKit
set_option maxRecDepth 10000
set_option pp.deepTerms.threshold 8
set_option pp.maxSteps 3000
set_option linter.unusedSimpArgs false
set_option linter.unusedVariables false

theorem few0 : fewIn 0 := ⟨by decide, by decide⟩
theorem rightR_plain (k te st am : Int) (h1 : 1 ≤ k ∧ k ≤ 7) (h2 : 0 ≤ am ∧ am ≤ 1000000) : RightR ⟨k, te, st, [], am, 0, 0, 0, 0⟩ :=
  ⟨h1, by simp, fun c hc => by simp at hc, h2, few0, few0, few0, few0⟩
theorem pan51 : ∀ c ∈ ([53, 49] : List UInt8), digitB c := by
  intro c hc; simp only [List.mem_cons, List.not_mem_nil, or_false] at hc; rcases hc with rfl | rfl <;> exact ⟨by decide, by decide⟩
theorem known_c (H : Heap) : ECalls Try.prog 6 #[] H fun v H' => v = .bool true ∧ Heap.le H H' := by
  refine ecalls_of_ewp (args := []) Try.func6 rfl rfl rfl (by simp [Try.ntmps6]) (by kernel_rfl) ?_
  have ok1 : OkT ⟨1, 2, [53, 49], 600, 1, 0, 0, 0, 0, 0, 0⟩ := ⟨by decide, by decide, pan51, by decide, by decide, ⟨few0, few0, few0, few0⟩, .inl ⟨.inl rfl, ⟨rfl, rfl, rfl, rfl⟩, rfl, rfl⟩⟩
  have ok2 : OkT ⟨1, 2, [53, 49], 600, 2, 0, 0, 0, 0, 0, 0⟩ := ⟨by decide, by decide, pan51, by decide, by decide, ⟨few0, few0, few0, few0⟩, .inl ⟨.inr (.inl rfl), ⟨rfl, rfl, rfl, rfl⟩, rfl, rfl⟩⟩
  have r1 : RightR ⟨1, 1, 2, [53, 49], 600, 0, 0, 0, 0⟩ := ⟨by decide, by decide, pan51, by decide, few0, few0, few0, few0⟩
  have c1 := fun H => step_c zeroT ⟨1, 1, 2, [53, 49], 600, 0, 0, 0, 0⟩ H (.inl rfl) r1 (.inl rfl)
  have c2 := fun H => step_c ⟨1, 2, [53, 49], 600, 1, 0, 0, 0, 0, 0, 0⟩ ⟨2, 1, 2, [], 0, 0, 0, 0, 0⟩ H (.inr ok1) (rightR_plain 2 1 2 0 (by decide) (by decide)) (.inr ⟨rfl, rfl⟩)
  have c3 := fun H => step_c ⟨1, 2, [53, 49], 600, 2, 0, 0, 0, 0, 0, 0⟩ ⟨2, 1, 2, [], 0, 0, 0, 0, 0⟩ H (.inr ok2) (rightR_plain 2 1 2 0 (by decide) (by decide)) (.inr ⟨rfl, rfl⟩)
  have s1 : stepF zeroT ⟨1, 1, 2, [53, 49], 600, 0, 0, 0, 0⟩ = (⟨1, 2, [53, 49], 600, 1, 0, 0, 0, 0, 0, 0⟩, 0) := by simp [stepF, fromL, zeroT]
  have s2 : stepF ⟨1, 2, [53, 49], 600, 1, 0, 0, 0, 0, 0, 0⟩ ⟨2, 1, 2, [], 0, 0, 0, 0, 0⟩ = (⟨1, 2, [53, 49], 600, 2, 0, 0, 0, 0, 0, 0⟩, 0) := by simp [stepF, fromL]
  have s3 : stepF ⟨1, 2, [53, 49], 600, 2, 0, 0, 0, 0, 0, 0⟩ ⟨2, 1, 2, [], 0, 0, 0, 0, 0⟩ = (zeroT, 30) := by simp [stepF, fromL]
  rw [s1] at c1
  rw [s2] at c2
  rw [s3] at c3
  have cr := fun H => rightT_c ⟨1, 2, [53, 49], 600, 2, 0, 0, 0, 0, 0, 0⟩ H (.inr ok2)
  have co := fun H => open_c ⟨1, 2, [53, 49], 600, 2, 0, 0, 0, 0, 0, 0⟩ H
  have cd := fun H => due_c ⟨1, 2, [53, 49], 600, 2, 0, 0, 0, 0, 0, 0⟩ H
  have cz := fun H => due_c zeroT H
  simp only [pairV, txnV, txnL, recV, zeroT] at c1 c2 c3 cr co cd cz
  clear ok1 ok2 r1 s1 s2 s3
  simp (disch := first | omega | assumption | decide | (simp <;> omega) | fail) [facts, ]
  refine fresh_intro fun b1 hb1 => ?_
  simp (disch := first | omega | assumption | decide | (simp <;> omega) | fail) [facts, upd_upd]
  have l1 := upd_same H b1 (.row true 0 [.int .u16 1, .int .u32 2] 0)
  have hle0 := le_upd (.row true 0 [.int .u16 1, .int .u32 2] 0) hb1
  generalize upd H b1 (.row true 0 [.int .u16 1, .int .u32 2] 0) = H0 at l1 hle0 ⊢
  try simp (disch := first | omega | assumption | decide | (simp <;> omega) | fail) [facts, l1]
  refine (c1 _).mono ?_
  rintro v H1 ⟨rfl, hle1⟩
  replace l1 := hle1 _ _ l1
  replace hle0 := Heap.le_trans hle0 hle1
  try simp (disch := first | omega | assumption | decide | (simp <;> omega) | fail) [facts, l1]
  refine fresh_intro fun b2 hb2 => ?_
  simp (disch := first | omega | assumption | decide | (simp <;> omega) | fail) [facts, upd_upd]
  obtain ⟨r2, hr2⟩ : ∃ r2 : GObj, r2 = .row true 0 [.int .u16 1, .int .u32 2, .string (mkS [53, 49]), .int .i64 600, .int .i64 1, .int .i64 0, .int .i64 0, .int .i64 0, .int .i64 0, .int .i64 0, .int .i64 0] 0 := ⟨_, rfl⟩
  rw [← hr2]
  replace l1 := upd_other (o := r2) hb2 l1
  have l2 := upd_same H1 b2 r2
  replace hle0 := Heap.le_trans hle0 (le_upd r2 hb2)
  generalize upd H1 b2 r2 = H2 at l1 l2 hle0 ⊢
  subst hr2
  try simp (disch := first | omega | assumption | decide | (simp <;> omega) | fail) [facts, l1, l2]
  refine (c2 _).mono ?_
  rintro v H3 ⟨rfl, hle3⟩
  replace l1 := hle3 _ _ l1
  replace l2 := hle3 _ _ l2
  replace hle0 := Heap.le_trans hle0 hle3
  try simp (disch := first | omega | assumption | decide | (simp <;> omega) | fail) [facts, l1, l2]
  refine fresh_intro fun b4 hb4 => ?_
  simp (disch := first | omega | assumption | decide | (simp <;> omega) | fail) [facts, upd_upd]
  obtain ⟨r4, hr4⟩ : ∃ r4 : GObj, r4 = .row true 0 [.int .u16 1, .int .u32 2, .string (mkS [53, 49]), .int .i64 600, .int .i64 2, .int .i64 0, .int .i64 0, .int .i64 0, .int .i64 0, .int .i64 0, .int .i64 0] 0 := ⟨_, rfl⟩
  rw [← hr4]
  replace l1 := upd_other (o := r4) hb4 l1
  replace l2 := upd_other (o := r4) hb4 l2
  have l4 := upd_same H3 b4 r4
  replace hle0 := Heap.le_trans hle0 (le_upd r4 hb4)
  generalize upd H3 b4 r4 = H4 at l1 l2 l4 hle0 ⊢
  subst hr4
  try simp (disch := first | omega | assumption | decide | (simp <;> omega) | fail) [facts, l1, l2, l4]
  refine (c3 _).mono ?_
  rintro v H5 ⟨rfl, hle5⟩
  replace l2 := hle5 _ _ l2
  replace l4 := hle5 _ _ l4
  replace hle0 := Heap.le_trans hle0 hle5
  try simp (disch := first | omega | assumption | decide | (simp <;> omega) | fail) [facts, l2, l4]
  refine fresh_intro fun b6 hb6 => ?_
  simp (disch := first | omega | assumption | decide | (simp <;> omega) | fail) [facts, upd_upd]
  obtain ⟨r6, hr6⟩ : ∃ r6 : GObj, r6 = .row true 0 [.int .u16 0, .int .u32 0, .string (mkS []), .int .i64 0, .int .i64 0, .int .i64 0, .int .i64 0, .int .i64 0, .int .i64 0, .int .i64 0, .int .i64 0] 0 := ⟨_, rfl⟩
  rw [← hr6]
  replace l2 := upd_other (o := r6) hb6 l2
  replace l4 := upd_other (o := r6) hb6 l4
  replace hle0 := Heap.le_trans hle0 (le_upd r6 hb6)
  generalize upd H5 b6 r6 = H6 at l2 l4 hle0 ⊢
  try simp (disch := first | omega | assumption | decide | (simp <;> omega) | fail) [facts, l2, l4]
  refine (co _).mono ?_
  rintro v H7 ⟨rfl, hle7⟩
  replace l4 := hle7 _ _ l4
  try simp (disch := first | omega | assumption | decide | (simp <;> omega) | fail) [facts, l4]
  refine (cr _).mono ?_
  rintro v H8 ⟨rfl, hle8⟩
  replace l4 := hle8 _ _ l4
  try simp (disch := first | omega | assumption | decide | (simp <;> omega) | fail) [facts, l4]
  refine (cd _).mono ?_
  rintro v H9 ⟨rfl, hle9⟩
  simp (disch := first | omega | assumption | decide | (simp <;> omega) | fail) [facts, ]
  refine (cz _).mono ?_
  rintro v H10 ⟨rfl, hle10⟩
  simp (disch := first | omega | assumption | decide | (simp <;> omega) | fail) [facts, ]
  exact ⟨_, Heap.le_refl _, Heap.le_trans hle0 (Heap.le_trans hle7 (Heap.le_trans hle8 (Heap.le_trans hle9 hle10)))⟩

def panL (k : Nat) : List UInt8 := if k % 4 = 0 then [52, 48, 48, 48, 49, 50, 51, 52, 49, 50, 51, 52, 49, 50, 51, 52] else if k % 4 = 1 then [53, 49] else if k % 4 = 2 then [57] else [54, 48, 49, 49, 48, 48, 48, 57, 57, 48, 49, 51, 57, 52, 50, 52]
theorem pan_c (k : Nat) (H : Heap) (hk : k < 256) : ECalls Try.prog 17 #[.int .u8 k] H fun v H' => v = .string (mkS (panL k)) ∧ Heap.le H H' := by
  refine ecalls_of_ewp (args := [_]) Try.func17 rfl rfl rfl (by simp [Try.ntmps17]) (by kernel_rfl) ?_
  have hm : (k : Int) % 4 = ((k % 4 : Nat) : Int) := by omega
  have h4 : k % 4 < 4 := Nat.mod_lt _ (by decide)
  unfold panL
  generalize k % 4 = j at hm h4
  simp (disch := first | omega | assumption | decide | (simp <;> omega) | fail) [facts, hm]
  refine fresh_intro fun b hb => ?_
  have hj : j = 0 ∨ j = 1 ∨ j = 2 ∨ j = 3 := by omega
  rcases hj with rfl | rfl | rfl | rfl
  all_goals
    simp (disch := first | omega | assumption | decide | (simp <;> omega) | fail) [facts, hm]
    exact ⟨_, Heap.le_refl _, le_upd _ hb⟩
end Go.Proofs.Ytahmnhdmnhijcaa.GL
