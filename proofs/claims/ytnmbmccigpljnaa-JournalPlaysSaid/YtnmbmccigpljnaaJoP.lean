/- Layer 5: the chapter's example. -/
import Derived.Test.YtnmbmccigpljnaaJoO
namespace Go.Proofs.Ytnmbmccigpljnaa.GL
open Go Go.RowKit
set_option maxRecDepth 10000
set_option pp.deepTerms.threshold 8
set_option pp.maxSteps 3000
set_option linter.unusedSimpArgs false
set_option linter.unusedVariables false

theorem newZ_left (m : Nat) : (newZ m).left = -1 := rfl
theorem framesB_one_le {r : RZ} (h : r.good) : 42 ≤ (framesB [r]).length ∧ (framesB [r]).length ≤ 61 := by
  have := putB_len h.1
  simpa [framesB] using this
set_option maxHeartbeats 4000000 in
theorem known_c (H : Heap) : ECalls Try.prog 10 #[] H fun v H' => v = .bool true ∧ Heap.le H H' := by
  refine ecalls_of_ewp (args := []) Try.func10 rfl rfl rfl (by simp [Try.ntmps10]) (by kernel_rfl) ?_
  obtain ⟨r, hr⟩ : ∃ r, r = recS 0 1 2 300 := ⟨_, rfl⟩
  have hrg : r.good := by rw [hr]; exact recS_good _ _ _ _ (by decide) (by decide)
  have hfl := framesB_one_le hrg
  simp (disch := first | omega | assumption | decide | (simp <;> omega) | fail) [facts, ]
  refine (newJ 100 (by decide) (by decide) H).mono ?_
  rintro v H1 ⟨pd, RD, rfl, j1⟩
  simp (disch := first | omega | assumption | decide | (simp <;> omega) | fail) [facts, ]
  refine (openJ j1 (by decide) (by decide)).mono ?_
  rintro v H2 ⟨p, a, cp, F2, RL, l, rfl, hF2, j2, _, _, hu2⟩
  simp (disch := first | omega | assumption | decide | (simp <;> omega) | fail) [facts, ]
  refine (rec_c 0 1 2 300 (by decide) (by decide) (by decide) (by decide) H2 r hr).mono ?_
  rintro v H3 ⟨rfl, hl3⟩
  simp (disch := first | omega | assumption | decide | (simp <;> omega) | fail) [facts, ]
  refine fresh_intro fun b5 hb5 => ?_
  simp (disch := first | omega | assumption | decide | (simp <;> omega) | fail) [facts, upd_upd]
  generalize e4 : upd H3 b5 _ = H4 at *
  obtain ⟨j4, hF4, q5, r5, _⟩ := (j2.grow hl3).box hb5 e4
  generalize upd F2 b5 _ = F4 at *
  refine fresh_intro fun b6 hb6 => ?_
  rw [spl_rec r]
  generalize e5 : upd H4 b6 _ = H5 at *
  obtain ⟨j5, hF5, q6, r6, hl5⟩ := j4.box hb6 e5
  generalize upd F4 b6 _ = F5 at *
  have r5' := hl5 _ _ r5
  simp (disch := first | omega | assumption | decide | (simp <;> omega) | fail) [facts, ]
  refine (addJ j5 (rec_row q6) (by simpa using hrg) (by decide) (by decide) (by decide) (by decide)).mono ?_
  rintro v H6 ⟨RL6, RD6, d6, l6, e, rfl, hh⟩
  have hu0 : l.used = 0 := by rw [hu2]; exact newJn_used 100
  have hh2 := j2.jn.half
  obtain ⟨rfl, j6⟩ : e = 0 ∧ JH F5 RL6 RD6 H6 p pd d6 l6 ([] ++ [r]) (0 + 1) 100 := by
    rcases hh with ⟨h1, h2, _⟩ | ⟨_, _, _, h3⟩ | ⟨_, _, _, _, h3, _⟩
    · exact ⟨h1, h2⟩
    · unfold secsN at h3; omega
    · rw [newZ_left] at h3; omega
  rw [List.nil_append] at j6
  clear hh
  simp (disch := first | omega | assumption | decide | (simp <;> omega) | fail) [facts, ]
  refine (lenJ j6).mono ?_
  rintro v H7 ⟨rfl, rfl⟩
  obtain ⟨j7, hF7, hRL7⟩ := j6.aside
  simp (disch := first | omega | assumption | decide | (simp <;> omega) | fail) [facts, ]
  refine (openJ j7 (by decide) (by simp)).mono ?_
  rintro v H8 ⟨p8, a8, cp8, F8, RL8, l8, rfl, hF8, j8, hs8, hcp8, _⟩
  simp (disch := first | omega | assumption | decide | (simp <;> omega) | fail) [facts, ]
  refine (diskNew_c H8 7).mono ?_
  rintro v H9 ⟨pd9, RD9, rfl, ow9, hd9⟩
  simp (disch := first | omega | assumption | decide | (simp <;> omega) | fail) [facts, ]
  refine (jopen_few ow9.le hd9 (by decide)).mono ?_
  rintro v H10 ⟨rfl, rfl⟩
  have hF9 : Heap.le F8 H10 := Heap.le_trans j8.two.fle ow9.all
  have q5' := hF9 _ _ (hF8 _ _ (hF7 _ _ (hF5 _ _ q5)))
  simp (disch := first | omega | assumption | decide | (simp <;> omega) | fail) [facts, q5']
  refine fresh_intro fun b10 hb10 => ?_
  rw [spl_rec r]
  have hl10 := le_upd (.row true 0 (rowsC RZ.cells [r]) 0) hb10
  have s10 := rec_row (upd_same H10 b10 (.row true 0 (rowsC RZ.cells [r]) 0))
  generalize upd H10 b10 _ = H11 at *
  simp (disch := first | omega | assumption | decide | (simp <;> omega) | fail) [facts, ]
  refine (recs_c _ _ _ _ _ _ [r] [r] H11 (hs8.le (Heap.le_trans hF9 hl10)) s10 (by simp)).mono ?_
  rintro v H13 ⟨rfl, rfl⟩
  have hRLx := Heap.le_trans hRL7 (Heap.le_trans hF8 (Heap.le_trans hF9 hl10))
  obtain ⟨lv6, lg6⟩ := j6.log
  simp (disch := first | omega | assumption | decide | (simp <;> omega) | fail) [facts, ]
  refine (jfree_c hRLx lg6).mono ?_
  rintro v H12 ⟨rfl, rfl⟩
  have hge : (0 : Int) ≤ (((l6.half - l6.used) * 51 : Nat) : Int) := Int.natCast_nonneg _
  generalize (((l6.half - l6.used) * 51 : Nat) : Int) = z at hge
  simp (disch := first | omega | assumption | decide | (simp <;> omega) | fail) [facts, hge]
  exact ⟨_, Heap.le_refl _, Heap.le_trans hF2 (Heap.le_trans hF4 (Heap.le_trans hF5 (Heap.le_trans hF7 (Heap.le_trans hF8 (Heap.le_trans hF9 hl10)))))⟩
end Go.Proofs.Ytnmbmccigpljnaa.GL
