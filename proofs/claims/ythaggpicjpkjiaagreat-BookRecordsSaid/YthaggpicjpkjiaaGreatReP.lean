/- Layer 20: what was given, rejected, loaded.; Layer 20: the records that make a transaction.; Layer 20: a transaction's record of a kind.; Layer 20: maps.Clone; a book's clone. -/
import Derived.Test.YthaggpicjpkjiaaGreatBnY
import Derived.Test.YthaggpicjpkjiaaGreatSoK
namespace Go.Proofs.YthaggpicjpkjiaaGreat.GL.Ca
open Go Go.RowKit Go.Proofs.YthaggpicjpkjiaaGreat.GL
set_option maxRecDepth 10000
set_option pp.deepTerms.threshold 8
set_option pp.maxSteps 3000
set_option linter.unusedSimpArgs false
set_option linter.unusedVariables false

set_option maxHeartbeats 400000 in
theorem given_c (s : S4) (p : Nat) (ob : Bool) (lo : Int) (H : Heap) (lp : H p = some (.row true 0 (flat s ++ [.bool ob, .int .i64 lo]) 0)) : ECalls Tryz.prog 39 #[.pointer (some ⟨p, 0, none⟩)] H fun v H' => v = notesV s.a.g s.b.g s.c.g s.e.g ∧ Heap.le H H' := by
  refine ecalls_of_ewp (args := [_]) Tryz.func39 rfl rfl rfl (by simp [Tryz.ntmps39]) (by kernel_rfl) ?_
  obtain ⟨⟨d0, l0, g0, r0⟩, ⟨d1, l1, g1, r1⟩, ⟨d2, l2, g2, r2⟩, ⟨d3, l3, g3, r3⟩⟩ := s
  simp only [notesV, flat, List.cons_append, List.nil_append] at lp ⊢
  simp (disch := first | omega | assumption | decide | (simp <;> omega) | fail) [facts, ]
  refine fresh_intro fun b2 hb2 => ?_
  simp (disch := first | omega | assumption | decide | (simp <;> omega) | fail) [facts, ]
  refine fresh_intro fun b3 hb3 => ?_
  have q2 : p ≠ b2 := ne_of_fresh hb2 lp
  have q23 : b2 ≠ b3 := ne_of_fresh hb3 (upd_same _ _ _)
  have q3 : p ≠ b3 := ne_of_fresh hb3 (by rw [upd_ne _ _ q2]; exact lp)
  have q32 := q23.symm
  have hb3' : H b3 = none := le_of_none (le_upd _ hb2) hb3
  have hle := Heap.le_refl H
  simp (disch := first | omega | assumption | decide | (simp <;> omega) | fail) [facts, lp, upd_ne]
  refine w_unroll 5 ?_
  simp (disch := first | omega | assumption | decide | (simp <;> omega) | fail) [facts, lp, upd_ne]
  refine fresh_abs (fun H' => Heap.le H H' ∧ H' b2 = some (.row true 0 [.int .i64 0, .int .i64 0, .int .i64 0, .int .i64 0] 0) ∧ H' b3 = some (.row true 0 [.int .i64 0, .int .i64 0, .int .i64 0, .int .i64 0] 0)) ⟨?_, by simp [upd_ne, q23, q32], by simp [upd_ne, q23, q32]⟩ ?_
  · repeat' (first | exact hle | exact Heap.le_refl _ | assumption | (refine le_of_none hle ?_; assumption) | apply le_updN)
  rintro H0 x0 ⟨hle, l2, l3⟩ hx0
  have y0a : b2 ≠ x0 := ne_of_fresh hx0 l2
  have y0b : b3 ≠ x0 := ne_of_fresh hx0 l3
  have y0c := y0b.symm
  have z0 : H x0 = none := le_of_none hle hx0
  simp (disch := first | omega | assumption | decide | (simp <;> omega) | fail) [facts, l2, l3, upd_ne, upd_upd]
  refine fresh_abs (fun H' => Heap.le H H' ∧ H' b2 = some (.row true 0 [.int .i64 0, .int .i64 0, .int .i64 0, .int .i64 0] 0) ∧ H' b3 = some (.row true 0 [.int .i64 g0, .int .i64 0, .int .i64 0, .int .i64 0] 0)) ⟨?_, by simp [upd_ne, q23, q32, l2, l3, y0a, y0b], by simp [upd_ne, q23, q32, l2, l3, y0a, y0b]⟩ ?_
  · repeat' (first | exact hle | exact Heap.le_refl _ | assumption | (refine le_of_none hle ?_; assumption) | apply le_updN)
  rintro H1 x1 ⟨hle, l2, l3⟩ hx1
  have y1a : b2 ≠ x1 := ne_of_fresh hx1 l2
  have y1b : b3 ≠ x1 := ne_of_fresh hx1 l3
  have y1c := y1b.symm
  have z1 : H x1 = none := le_of_none hle hx1
  simp (disch := first | omega | assumption | decide | (simp <;> omega) | fail) [facts, l2, l3, upd_ne, upd_upd]
  refine fresh_abs (fun H' => Heap.le H H' ∧ H' b2 = some (.row true 0 [.int .i64 0, .int .i64 0, .int .i64 0, .int .i64 0] 0) ∧ H' b3 = some (.row true 0 [.int .i64 g0, .int .i64 g1, .int .i64 0, .int .i64 0] 0)) ⟨?_, by simp [upd_ne, q23, q32, l2, l3, y1a, y1b], by simp [upd_ne, q23, q32, l2, l3, y1a, y1b]⟩ ?_
  · repeat' (first | exact hle | exact Heap.le_refl _ | assumption | (refine le_of_none hle ?_; assumption) | apply le_updN)
  rintro H2 x2 ⟨hle, l2, l3⟩ hx2
  have y2a : b2 ≠ x2 := ne_of_fresh hx2 l2
  have y2b : b3 ≠ x2 := ne_of_fresh hx2 l3
  have y2c := y2b.symm
  have z2 : H x2 = none := le_of_none hle hx2
  simp (disch := first | omega | assumption | decide | (simp <;> omega) | fail) [facts, l2, l3, upd_ne, upd_upd]
  refine fresh_abs (fun H' => Heap.le H H' ∧ H' b2 = some (.row true 0 [.int .i64 0, .int .i64 0, .int .i64 0, .int .i64 0] 0) ∧ H' b3 = some (.row true 0 [.int .i64 g0, .int .i64 g1, .int .i64 g2, .int .i64 0] 0)) ⟨?_, by simp [upd_ne, q23, q32, l2, l3, y2a, y2b], by simp [upd_ne, q23, q32, l2, l3, y2a, y2b]⟩ ?_
  · repeat' (first | exact hle | exact Heap.le_refl _ | assumption | (refine le_of_none hle ?_; assumption) | apply le_updN)
  rintro H3 x3 ⟨hle, l2, l3⟩ hx3
  have y3a : b2 ≠ x3 := ne_of_fresh hx3 l2
  have y3b : b3 ≠ x3 := ne_of_fresh hx3 l3
  have y3c := y3b.symm
  have z3 : H x3 = none := le_of_none hle hx3
  simp (disch := first | omega | assumption | decide | (simp <;> omega) | fail) [facts, l2, l3, upd_ne, upd_upd]
  refine ⟨_, Heap.le_refl _, ?_⟩
  repeat' (first | exact hle | exact Heap.le_refl _ | assumption | (refine le_of_none hle ?_; assumption) | apply le_updN)
set_option maxHeartbeats 400000 in
theorem rejected_c (s : S4) (p : Nat) (ob : Bool) (lo : Int) (H : Heap) (lp : H p = some (.row true 0 (flat s ++ [.bool ob, .int .i64 lo]) 0)) : ECalls Tryz.prog 40 #[.pointer (some ⟨p, 0, none⟩)] H fun v H' => v = notesV s.a.r s.b.r s.c.r s.e.r ∧ Heap.le H H' := by
  refine ecalls_of_ewp (args := [_]) Tryz.func40 rfl rfl rfl (by simp [Tryz.ntmps40]) (by kernel_rfl) ?_
  obtain ⟨⟨d0, l0, g0, r0⟩, ⟨d1, l1, g1, r1⟩, ⟨d2, l2, g2, r2⟩, ⟨d3, l3, g3, r3⟩⟩ := s
  simp only [notesV, flat, List.cons_append, List.nil_append] at lp ⊢
  simp (disch := first | omega | assumption | decide | (simp <;> omega) | fail) [facts, ]
  refine fresh_intro fun b2 hb2 => ?_
  simp (disch := first | omega | assumption | decide | (simp <;> omega) | fail) [facts, ]
  refine fresh_intro fun b3 hb3 => ?_
  have q2 : p ≠ b2 := ne_of_fresh hb2 lp
  have q23 : b2 ≠ b3 := ne_of_fresh hb3 (upd_same _ _ _)
  have q3 : p ≠ b3 := ne_of_fresh hb3 (by rw [upd_ne _ _ q2]; exact lp)
  have q32 := q23.symm
  have hb3' : H b3 = none := le_of_none (le_upd _ hb2) hb3
  have hle := Heap.le_refl H
  simp (disch := first | omega | assumption | decide | (simp <;> omega) | fail) [facts, lp, upd_ne]
  refine w_unroll 5 ?_
  simp (disch := first | omega | assumption | decide | (simp <;> omega) | fail) [facts, lp, upd_ne]
  refine fresh_abs (fun H' => Heap.le H H' ∧ H' b2 = some (.row true 0 [.int .i64 0, .int .i64 0, .int .i64 0, .int .i64 0] 0) ∧ H' b3 = some (.row true 0 [.int .i64 0, .int .i64 0, .int .i64 0, .int .i64 0] 0)) ⟨?_, by simp [upd_ne, q23, q32], by simp [upd_ne, q23, q32]⟩ ?_
  · repeat' (first | exact hle | exact Heap.le_refl _ | assumption | (refine le_of_none hle ?_; assumption) | apply le_updN)
  rintro H0 x0 ⟨hle, l2, l3⟩ hx0
  have y0a : b2 ≠ x0 := ne_of_fresh hx0 l2
  have y0b : b3 ≠ x0 := ne_of_fresh hx0 l3
  have y0c := y0b.symm
  have z0 : H x0 = none := le_of_none hle hx0
  simp (disch := first | omega | assumption | decide | (simp <;> omega) | fail) [facts, l2, l3, upd_ne, upd_upd]
  refine fresh_abs (fun H' => Heap.le H H' ∧ H' b2 = some (.row true 0 [.int .i64 0, .int .i64 0, .int .i64 0, .int .i64 0] 0) ∧ H' b3 = some (.row true 0 [.int .i64 r0, .int .i64 0, .int .i64 0, .int .i64 0] 0)) ⟨?_, by simp [upd_ne, q23, q32, l2, l3, y0a, y0b], by simp [upd_ne, q23, q32, l2, l3, y0a, y0b]⟩ ?_
  · repeat' (first | exact hle | exact Heap.le_refl _ | assumption | (refine le_of_none hle ?_; assumption) | apply le_updN)
  rintro H1 x1 ⟨hle, l2, l3⟩ hx1
  have y1a : b2 ≠ x1 := ne_of_fresh hx1 l2
  have y1b : b3 ≠ x1 := ne_of_fresh hx1 l3
  have y1c := y1b.symm
  have z1 : H x1 = none := le_of_none hle hx1
  simp (disch := first | omega | assumption | decide | (simp <;> omega) | fail) [facts, l2, l3, upd_ne, upd_upd]
  refine fresh_abs (fun H' => Heap.le H H' ∧ H' b2 = some (.row true 0 [.int .i64 0, .int .i64 0, .int .i64 0, .int .i64 0] 0) ∧ H' b3 = some (.row true 0 [.int .i64 r0, .int .i64 r1, .int .i64 0, .int .i64 0] 0)) ⟨?_, by simp [upd_ne, q23, q32, l2, l3, y1a, y1b], by simp [upd_ne, q23, q32, l2, l3, y1a, y1b]⟩ ?_
  · repeat' (first | exact hle | exact Heap.le_refl _ | assumption | (refine le_of_none hle ?_; assumption) | apply le_updN)
  rintro H2 x2 ⟨hle, l2, l3⟩ hx2
  have y2a : b2 ≠ x2 := ne_of_fresh hx2 l2
  have y2b : b3 ≠ x2 := ne_of_fresh hx2 l3
  have y2c := y2b.symm
  have z2 : H x2 = none := le_of_none hle hx2
  simp (disch := first | omega | assumption | decide | (simp <;> omega) | fail) [facts, l2, l3, upd_ne, upd_upd]
  refine fresh_abs (fun H' => Heap.le H H' ∧ H' b2 = some (.row true 0 [.int .i64 0, .int .i64 0, .int .i64 0, .int .i64 0] 0) ∧ H' b3 = some (.row true 0 [.int .i64 r0, .int .i64 r1, .int .i64 r2, .int .i64 0] 0)) ⟨?_, by simp [upd_ne, q23, q32, l2, l3, y2a, y2b], by simp [upd_ne, q23, q32, l2, l3, y2a, y2b]⟩ ?_
  · repeat' (first | exact hle | exact Heap.le_refl _ | assumption | (refine le_of_none hle ?_; assumption) | apply le_updN)
  rintro H3 x3 ⟨hle, l2, l3⟩ hx3
  have y3a : b2 ≠ x3 := ne_of_fresh hx3 l2
  have y3b : b3 ≠ x3 := ne_of_fresh hx3 l3
  have y3c := y3b.symm
  have z3 : H x3 = none := le_of_none hle hx3
  simp (disch := first | omega | assumption | decide | (simp <;> omega) | fail) [facts, l2, l3, upd_ne, upd_upd]
  refine ⟨_, Heap.le_refl _, ?_⟩
  repeat' (first | exact hle | exact Heap.le_refl _ | assumption | (refine le_of_none hle ?_; assumption) | apply le_updN)
set_option maxHeartbeats 400000 in
theorem all16_c (s : S4) (p : Nat) (H : Heap) (lp : H p = some (.row true 0 (flat s) 0)) : ECalls Tryz.prog 48 #[.pointer (some ⟨p, 0, none⟩)] H fun v H' => v = setV s ∧ Heap.le H H' := by
  refine ecalls_of_ewp (args := [_]) Tryz.func48 rfl rfl rfl (by simp [Tryz.ntmps48]) (by kernel_rfl) ?_
  obtain ⟨⟨d0, l0, g0, r0⟩, ⟨d1, l1, g1, r1⟩, ⟨d2, l2, g2, r2⟩, ⟨d3, l3, g3, r3⟩⟩ := s
  simp only [setV, flat] at lp ⊢
  simp (disch := first | omega | assumption | decide | (simp <;> omega) | fail) [facts, ]
  refine fresh_intro fun b2 hb2 => ?_
  have q : p ≠ b2 := ne_of_fresh hb2 lp
  simp (disch := first | omega | assumption | decide | (simp <;> omega) | fail) [facts, lp, upd_ne, upd_upd]
  exact ⟨_, Heap.le_refl _, le_upd _ hb2⟩
set_option maxHeartbeats 400000 in
theorem loaded_c (s : S4) (H : Heap) : ECalls Tryz.prog 41 #[setV s] H fun v H' => v = notesV s.a.l s.b.l s.c.l s.e.l ∧ Heap.le H H' := by
  refine ecalls_of_ewp (args := [_]) Tryz.func41 rfl rfl rfl (by simp [Tryz.ntmps41]) (by kernel_rfl) ?_
  have ha := fun p H lp => all16_c s p H lp
  obtain ⟨⟨d0, l0, g0, r0⟩, ⟨d1, l1, g1, r1⟩, ⟨d2, k2, g2, r2⟩, ⟨d3, k3, g3, r3⟩⟩ := s
  simp only [setV, notesV, flat] at ha ⊢
  simp (disch := first | omega | assumption | decide | (simp <;> omega) | fail) [facts, ]
  refine fresh_intro fun b1 hb1 => ?_
  simp (disch := first | omega | assumption | decide | (simp <;> omega) | fail) [facts, ]
  refine fresh_intro fun b2 hb2 => ?_
  simp (disch := first | omega | assumption | decide | (simp <;> omega) | fail) [facts, ]
  refine fresh_intro fun b3 hb3 => ?_
  have q12 : b1 ≠ b2 := ne_of_fresh hb2 (upd_same _ _ _)
  have q23 : b2 ≠ b3 := ne_of_fresh hb3 (upd_same _ _ _)
  have q13 : b1 ≠ b3 := ne_of_fresh hb3 (by rw [upd_ne _ _ q12]; exact upd_same _ _ _)
  have q32 := q23.symm
  have hb2' : H b2 = none := le_of_none (le_upd _ hb1) hb2
  have hb3' : H b3 = none := le_of_none (Heap.le_trans (le_upd _ hb1) (le_upd _ hb2)) hb3
  have hl3 := Heap.le_trans (le_upd (.row true 0 [.int .i64 d0, .int .i64 l0, .int .i64 g0, .int .i64 r0, .int .i64 d1, .int .i64 l1, .int .i64 g1, .int .i64 r1, .int .i64 d2, .int .i64 k2, .int .i64 g2, .int .i64 r2, .int .i64 d3, .int .i64 k3, .int .i64 g3, .int .i64 r3] 0) hb1) (Heap.le_trans (le_upd (.row true 0 [.int .i64 0, .int .i64 0, .int .i64 0, .int .i64 0] 0) hb2) (le_upd (.row true 0 [.int .i64 0, .int .i64 0, .int .i64 0, .int .i64 0] 0) hb3))
  simp (disch := first | omega | assumption | decide | (simp <;> omega) | fail) [facts, ]
  refine (ha b1 _ (upd_other (o := .row true 0 [.int .i64 0, .int .i64 0, .int .i64 0, .int .i64 0] 0) hb3 (upd_other (o := .row true 0 [.int .i64 0, .int .i64 0, .int .i64 0, .int .i64 0] 0) hb2 (upd_same H b1 (.row true 0 [.int .i64 d0, .int .i64 l0, .int .i64 g0, .int .i64 r0, .int .i64 d1, .int .i64 l1, .int .i64 g1, .int .i64 r1, .int .i64 d2, .int .i64 k2, .int .i64 g2, .int .i64 r2, .int .i64 d3, .int .i64 k3, .int .i64 g3, .int .i64 r3] 0))))).mono ?_
  rintro v G ⟨rfl, hleG⟩
  have hle := Heap.le_trans hl3 hleG
  have l2 : G b2 = some (.row true 0 [.int .i64 0, .int .i64 0, .int .i64 0, .int .i64 0] 0) := hleG _ _ (by rw [upd_ne _ _ q23]; exact upd_same _ _ _)
  have l3 : G b3 = some (.row true 0 [.int .i64 0, .int .i64 0, .int .i64 0, .int .i64 0] 0) := hleG _ _ (upd_same _ _ _)
  simp (disch := first | omega | assumption | decide | (simp <;> omega) | fail) [facts, ]
  refine w_unroll 5 ?_
  simp (disch := first | omega | assumption | decide | (simp <;> omega) | fail) [facts, l2, l3]
  refine fresh_abs (fun H' => Heap.le H H' ∧ H' b2 = some (.row true 0 [.int .i64 0, .int .i64 0, .int .i64 0, .int .i64 0] 0) ∧ H' b3 = some (.row true 0 [.int .i64 0, .int .i64 0, .int .i64 0, .int .i64 0] 0)) ⟨?_, by simp [upd_ne, q23, q32, l2, l3], by simp [upd_ne, q23, q32, l2, l3]⟩ ?_
  · repeat' (first | exact hle | exact Heap.le_refl _ | assumption | (refine le_of_none hle ?_; assumption) | apply le_updN)
  rintro H0 x0 ⟨hle, l2, l3⟩ hx0
  have y0a : b2 ≠ x0 := ne_of_fresh hx0 l2
  have y0b : b3 ≠ x0 := ne_of_fresh hx0 l3
  have y0c := y0b.symm
  have z0 : H x0 = none := le_of_none hle hx0
  simp (disch := first | omega | assumption | decide | (simp <;> omega) | fail) [facts, l2, l3, upd_ne, upd_upd]
  refine fresh_abs (fun H' => Heap.le H H' ∧ H' b2 = some (.row true 0 [.int .i64 0, .int .i64 0, .int .i64 0, .int .i64 0] 0) ∧ H' b3 = some (.row true 0 [.int .i64 l0, .int .i64 0, .int .i64 0, .int .i64 0] 0)) ⟨?_, by simp [upd_ne, q23, q32, l2, l3, y0a, y0b], by simp [upd_ne, q23, q32, l2, l3, y0a, y0b]⟩ ?_
  · repeat' (first | exact hle | exact Heap.le_refl _ | assumption | (refine le_of_none hle ?_; assumption) | apply le_updN)
  rintro H1 x1 ⟨hle, l2, l3⟩ hx1
  have y1a : b2 ≠ x1 := ne_of_fresh hx1 l2
  have y1b : b3 ≠ x1 := ne_of_fresh hx1 l3
  have y1c := y1b.symm
  have z1 : H x1 = none := le_of_none hle hx1
  simp (disch := first | omega | assumption | decide | (simp <;> omega) | fail) [facts, l2, l3, upd_ne, upd_upd]
  refine fresh_abs (fun H' => Heap.le H H' ∧ H' b2 = some (.row true 0 [.int .i64 0, .int .i64 0, .int .i64 0, .int .i64 0] 0) ∧ H' b3 = some (.row true 0 [.int .i64 l0, .int .i64 l1, .int .i64 0, .int .i64 0] 0)) ⟨?_, by simp [upd_ne, q23, q32, l2, l3, y1a, y1b], by simp [upd_ne, q23, q32, l2, l3, y1a, y1b]⟩ ?_
  · repeat' (first | exact hle | exact Heap.le_refl _ | assumption | (refine le_of_none hle ?_; assumption) | apply le_updN)
  rintro H2 x2 ⟨hle, l2, l3⟩ hx2
  have y2a : b2 ≠ x2 := ne_of_fresh hx2 l2
  have y2b : b3 ≠ x2 := ne_of_fresh hx2 l3
  have y2c := y2b.symm
  have z2 : H x2 = none := le_of_none hle hx2
  simp (disch := first | omega | assumption | decide | (simp <;> omega) | fail) [facts, l2, l3, upd_ne, upd_upd]
  refine fresh_abs (fun H' => Heap.le H H' ∧ H' b2 = some (.row true 0 [.int .i64 0, .int .i64 0, .int .i64 0, .int .i64 0] 0) ∧ H' b3 = some (.row true 0 [.int .i64 l0, .int .i64 l1, .int .i64 k2, .int .i64 0] 0)) ⟨?_, by simp [upd_ne, q23, q32, l2, l3, y2a, y2b], by simp [upd_ne, q23, q32, l2, l3, y2a, y2b]⟩ ?_
  · repeat' (first | exact hle | exact Heap.le_refl _ | assumption | (refine le_of_none hle ?_; assumption) | apply le_updN)
  rintro H3 x3 ⟨hle, l2, l3⟩ hx3
  have y3a : b2 ≠ x3 := ne_of_fresh hx3 l2
  have y3b : b3 ≠ x3 := ne_of_fresh hx3 l3
  have y3c := y3b.symm
  have z3 : H x3 = none := le_of_none hle hx3
  simp (disch := first | omega | assumption | decide | (simp <;> omega) | fail) [facts, l2, l3, upd_ne, upd_upd]
  refine ⟨_, Heap.le_refl _, ?_⟩
  repeat' (first | exact hle | exact Heap.le_refl _ | assumption | (refine le_of_none hle ?_; assumption) | apply le_updN)
end Go.Proofs.YthaggpicjpkjiaaGreat.GL.Ca

namespace Go.Proofs.YthaggpicjpkjiaaGreat.GL
open Go Go.RowKit
open St (Txn txnL txnV zeroT RightT OkT Rec recV stepF fromL revT)
open Ca (S4 flat setV OkS)
set_option maxRecDepth 10000
set_option pp.deepTerms.threshold 8
set_option pp.maxSteps 3000
set_option linter.unusedSimpArgs false
set_option linter.unusedVariables false

def sentB (t : Txn) : Bool := !(decide (t.n0 = 0) && decide (t.n1 = 0) && decide (t.n2 = 0) && decide (t.n3 = 0)) || decide (0 < t.given)
def kindsZ (t : Txn) : List Int :=
  if t.state = 1 then [1] else if t.state = 6 then [1, 3] else if t.state = 2 then [1, 2] else if t.state = 3 then [1, 2, 5]
  else if t.state = 5 ∧ 0 < t.owed then (if sentB t = true then [1, 2, 5, 6, 7] else [1, 4, 7]) else (if sentB t = true then [1, 2, 5, 6] else [1, 4])
theorem kindsZ_len (t : Txn) : (kindsZ t).length ≤ 5 := by
  unfold kindsZ
  repeat' split
  all_goals decide
theorem i_app {H R : Heap} {K : Kont} {v : Value} {n b m : Nat} {xs ys : List Int} (h : LstR R v 1 n (xs.map i64V)) (hl : Heap.le R H) (hb : H b = some (.row true 0 (ys.map i64V) 0)) (hm : ys.length = m) (hn : n + m ≤ 1000)
    (hK : ∀ v' H' R', Own H R H' R' → LstR R' v' 1 (n + m) ((xs ++ ys).map i64V) → K v' H') :
    eApp Tryz.prog 102 102 v (.slice (some ⟨b, 0, none⟩) m m) H K := by
  have hs : SlA H (some ⟨b, 0, none⟩) m 1 (ys.map i64V) := SlA.row hb (Nat.le_refl _) (by simp [hm]) (by simp [hm]) (by rw [Nat.sub_self, List.drop_zero]; exact List.take_of_length_le (by simp [hm]))
  refine LstR.app (H0 := H) (B0 := R) (e := 3) (s := 1) (nbs := 8) (z := .int .i64 0) (m := m) (ys := ys.map i64V) (by simp [facts]) (by simp [facts]) (by simp [facts]) (by simp [facts]) rfl (by decide) h (Own.refl hl)
    (src_sl (e1 := 3) (z := .int .i64 0) (by simp [facts]) (by simp [facts]) (by simp [facts]) hs) (by simp [hm]) (by simp [List.all_eq_true]) (by omega) ?_
  intro v' H' B' ow l k _
  exact hK v' H' B' ow (by rw [List.map_append]; exact l)
set_option maxHeartbeats 800000 in
theorem kinds_c (t : Txn) (H : Heap) : ECalls Tryz.prog 37 #[txnV t] H fun v H' => ∃ R, Own H (fun _ => none) H' R ∧ LstR R v 1 (kindsZ t).length ((kindsZ t).map i64V) := by
  refine ecalls_of_ewp (args := [_]) Tryz.func37 rfl rfl rfl (by simp [Tryz.ntmps37]) (by kernel_rfl) ?_
  obtain ⟨ks, hks⟩ : ∃ ks, ks = kindsZ t := ⟨_, rfl⟩
  obtain ⟨sb, hsb⟩ : ∃ sb, sb = sentB t := ⟨_, rfl⟩
  rw [← hks]
  unfold kindsZ at hks
  rw [← hsb] at hks
  unfold sentB at hsb
  obtain ⟨te, st, pan, am, sta, n0, n1, n2, n3, gi, ow⟩ := t
  simp only at hks hsb
  simp only [txnV, txnL]
  simp (disch := first | omega | assumption | decide | (simp <;> omega) | fail) [facts, ]
  refine fresh_intro fun b1 hb1 => ?_
  have r1 := upd_same H b1 (.row true 0 [.int .u16 te, .int .u32 st, .string (mkS pan), .int .i64 am, .int .i64 sta, .int .i64 n0, .int .i64 n1, .int .i64 n2, .int .i64 n3, .int .i64 gi, .int .i64 ow] 0)
  have hl1 := le_upd (.row true 0 [.int .u16 te, .int .u32 st, .string (mkS pan), .int .i64 am, .int .i64 sta, .int .i64 n0, .int .i64 n1, .int .i64 n2, .int .i64 n3, .int .i64 gi, .int .i64 ow] 0) hb1
  generalize upd H b1 _ = H1 at *
  simp (disch := first | omega | assumption | decide | (simp <;> omega) | fail) [facts, ]
  refine fresh_intro fun b5 hb5 => ?_
  have ow5 := Own.new (o := .row true 0 [.int .i64 1] 0) hl1 hb5
  have r1' := upd_other (o := .row true 0 [.int .i64 1] 0) hb5 r1
  have l5 : LstR (upd (fun _ => none) b5 (.row true 0 [.int .i64 1] 0)) (.slice (some ⟨b5, 0, none⟩) 1 1) 1 1 ([1].map i64V) := .inr ⟨b5, 0, 1, [], 0, rfl, by rw [upd_same, List.append_nil]; rfl, rfl, Nat.le_refl _, by decide⟩
  obtain ⟨I, hI⟩ : ∃ I : St → Prop, I = (fun s => s.env 1 = .pointer (some ⟨b1, 0, none⟩) ∧ s.env 3 = .slice (some ⟨b5, 0, none⟩) 1 1 ∧ s.env 4 = .bool sb ∧ ∃ R, Own H (fun _ => none) s.heap R ∧ s.heap b1 = some (.row true 0 [.int .u16 te, .int .u32 st, .string (mkS pan), .int .i64 am, .int .i64 sta, .int .i64 n0, .int .i64 n1, .int .i64 n2, .int .i64 n3, .int .i64 gi, .int .i64 ow] 0) ∧ LstR R (.slice (some ⟨b5, 0, none⟩) 1 1) 1 1 ([1].map i64V) ∧ R b1 = none) := ⟨_, rfl⟩
  have hRb : upd (fun _ => none) b5 (.row true 0 [.int .i64 1] 0) b1 = none := by rw [upd_ne _ _ (ne_of_fresh hb5 r1)]
  simp (disch := first | omega | assumption | decide | (simp <;> omega) | fail) [facts, -w_region, -w_seq]
  generalize upd H1 b5 _ = G at *
  generalize upd (fun _ => none) b5 _ = R at *
  rw [w_seq]
  refine w_cut I ?_ ?_
  · by_cases hz : n0 = 0 ∧ n1 = 0 ∧ n2 = 0 ∧ n3 = 0
    · obtain ⟨rfl, rfl, rfl, rfl⟩ := hz
      simp (disch := first | omega | assumption | decide | (simp <;> omega) | fail) [facts, r1']
      subst hI
      refine ⟨by simp, by simp, ?_, R, ow5, r1', l5, hRb⟩
      rw [hsb]
      simp
    · have hz3 : (!decide (n0 = 0) || (!decide (n1 = 0) || (!decide (n2 = 0) || !decide (n3 = 0)))) = true := by
        rcases Decidable.not_and_iff_or_not.1 hz with h | h
        · simp [h]
        · rcases Decidable.not_and_iff_or_not.1 h with h | h
          · simp [h]
          · rcases Decidable.not_and_iff_or_not.1 h with h | h <;> simp [h]
      simp (disch := first | omega | assumption | decide | (simp <;> omega) | fail) [facts, r1', hz3]
      subst hI
      refine ⟨by simp, by simp, ?_, R, ow5, r1', l5, hRb⟩
      rw [hsb]
      simp [hz3, Bool.or_assoc]
  clear ow5 r1' l5 hRb
  rintro ⟨env, G2⟩ hII
  subst hI
  obtain ⟨e1, e3, e4, R2, ow2, r1', l2, hR2⟩ := hII
  simp only at e1 e3 e4 ow2 r1'
  have fin : ∀ {v : Value} {n b28 m : Nat} {xs ys : List Int} {R G : Heap} {K : Kont}, LstR R v 1 n (xs.map i64V) → Own H (fun _ => none) G R → R b1 = none → G b1 = some (.row true 0 [.int .u16 te, .int .u32 st, .string (mkS pan), .int .i64 am, .int .i64 sta, .int .i64 n0, .int .i64 n1, .int .i64 n2, .int .i64 n3, .int .i64 gi, .int .i64 ow] 0) → G b28 = none → ys.length = m → m ≤ 10 → n ≤ 10 → (∀ v' H' R', Own H (fun _ => none) H' R' → LstR R' v' 1 (n + m) ((xs ++ ys).map i64V) → R' b1 = none → H' b1 = some (.row true 0 [.int .u16 te, .int .u32 st, .string (mkS pan), .int .i64 am, .int .i64 sta, .int .i64 n0, .int .i64 n1, .int .i64 n2, .int .i64 n3, .int .i64 gi, .int .i64 ow] 0) → K v' H') → eApp Tryz.prog 102 102 v (.slice (some ⟨b28, 0, none⟩) m m) (upd G b28 (.row true 0 (ys.map i64V) 0)) K := by
    intro v n b28 m xs ys R G K l o hRn hr hb hm hm10 hn10 hK
    have ow3 := o.grow (le_upd (.row true 0 (ys.map i64V) 0) hb)
    refine i_app l ow3.le (upd_same _ _ _) hm (by omega) ?_
    intro v' H' R' ow' l'
    obtain ⟨h1, h2⟩ := ow'.mv b1 _ hRn (upd_other hb hr)
    exact hK v' H' R' (ow3.trans ow') l' h1 h2
  by_cases s1 : sta = 1
  · rw [if_pos s1] at hks
    simp (disch := first | omega | assumption | decide | (simp <;> omega) | fail) [facts, e1, e3, r1', s1]
    exact ⟨_, Heap.le_refl _, R2, ow2, by rw [hks]; exact l2⟩
  rw [if_neg s1] at hks
  by_cases s6 : sta = 6
  · rw [if_pos s6] at hks
    simp (disch := first | omega | assumption | decide | (simp <;> omega) | fail) [facts, e1, e3, r1', s1, s6]
    refine fresh_intro fun b28 hb28 => ?_
    simp (disch := first | omega | assumption | decide | (simp <;> omega) | fail) [facts, ]
    refine fin (ys := [3]) l2 ow2 hR2 r1' hb28 rfl (by decide) (by decide) fun v' H' R' ow' l' hR' r' => ?_
    simp (disch := first | omega | assumption | decide | (simp <;> omega) | fail) [facts, ]
    exact ⟨_, Heap.le_refl _, R', ow', by rw [hks]; exact l'⟩
  rw [if_neg s6] at hks
  by_cases s2 : sta = 2
  · rw [if_pos s2] at hks
    simp (disch := first | omega | assumption | decide | (simp <;> omega) | fail) [facts, e1, e3, r1', s1, s6, s2]
    refine fresh_intro fun b28 hb28 => ?_
    simp (disch := first | omega | assumption | decide | (simp <;> omega) | fail) [facts, ]
    refine fin (ys := [2]) l2 ow2 hR2 r1' hb28 rfl (by decide) (by decide) fun v' H' R' ow' l' hR' r' => ?_
    simp (disch := first | omega | assumption | decide | (simp <;> omega) | fail) [facts, ]
    exact ⟨_, Heap.le_refl _, R', ow', by rw [hks]; exact l'⟩
  rw [if_neg s2] at hks
  by_cases s3 : sta = 3
  · rw [if_pos s3] at hks
    simp (disch := first | omega | assumption | decide | (simp <;> omega) | fail) [facts, e1, e3, r1', s1, s6, s2, s3]
    refine fresh_intro fun b28 hb28 => ?_
    simp (disch := first | omega | assumption | decide | (simp <;> omega) | fail) [facts, ]
    refine fin (ys := [2, 5]) l2 ow2 hR2 r1' hb28 rfl (by decide) (by decide) fun v' H' R' ow' l' hR' r' => ?_
    simp (disch := first | omega | assumption | decide | (simp <;> omega) | fail) [facts, ]
    exact ⟨_, Heap.le_refl _, R', ow', by rw [hks]; exact l'⟩
  rw [if_neg s3] at hks
  cases sb with
  | true =>
    simp only [if_true] at hks
    simp (disch := first | omega | assumption | decide | (simp <;> omega) | fail) [facts, e1, e3, e4, r1', s1, s6, s2, s3]
    refine fresh_intro fun b28 hb28 => ?_
    simp (disch := first | omega | assumption | decide | (simp <;> omega) | fail) [facts, ]
    refine fin (ys := [2, 5, 6]) l2 ow2 hR2 r1' hb28 rfl (by decide) (by decide) fun v' H' R' ow' l' hR' r' => ?_
    by_cases s5 : sta = 5
    · by_cases how : 0 < ow
      · rw [if_pos ⟨s5, how⟩] at hks
        simp (disch := first | omega | assumption | decide | (simp <;> omega) | fail) [facts, e1, r', s5, how]
        refine fresh_intro fun b29 hb29 => ?_
        simp (disch := first | omega | assumption | decide | (simp <;> omega) | fail) [facts, ]
        refine fin (ys := [7]) l' ow' hR' r' hb29 rfl (by decide) (by decide) fun v2 H2 R3 ow3 l3 _ _ => ?_
        simp (disch := first | omega | assumption | decide | (simp <;> omega) | fail) [facts, ]
        exact ⟨_, Heap.le_refl _, R3, ow3, by rw [hks]; exact l3⟩
      · rw [if_neg (fun h => how h.2)] at hks
        simp (disch := first | omega | assumption | decide | (simp <;> omega) | fail) [facts, e1, r', s5, how]
        exact ⟨_, Heap.le_refl _, R', ow', by rw [hks]; exact l'⟩
    · rw [if_neg (fun h => s5 h.1)] at hks
      simp (disch := first | omega | assumption | decide | (simp <;> omega) | fail) [facts, e1, r', s5]
      exact ⟨_, Heap.le_refl _, R', ow', by rw [hks]; exact l'⟩
  | false =>
    simp only [Bool.false_eq_true, if_false] at hks
    simp (disch := first | omega | assumption | decide | (simp <;> omega) | fail) [facts, e1, e3, e4, r1', s1, s6, s2, s3]
    refine fresh_intro fun b28 hb28 => ?_
    simp (disch := first | omega | assumption | decide | (simp <;> omega) | fail) [facts, ]
    refine fin (ys := [4]) l2 ow2 hR2 r1' hb28 rfl (by decide) (by decide) fun v' H' R' ow' l' hR' r' => ?_
    by_cases s5 : sta = 5
    · by_cases how : 0 < ow
      · rw [if_pos ⟨s5, how⟩] at hks
        simp (disch := first | omega | assumption | decide | (simp <;> omega) | fail) [facts, e1, r', s5, how]
        refine fresh_intro fun b29 hb29 => ?_
        simp (disch := first | omega | assumption | decide | (simp <;> omega) | fail) [facts, ]
        refine fin (ys := [7]) l' ow' hR' r' hb29 rfl (by decide) (by decide) fun v2 H2 R3 ow3 l3 _ _ => ?_
        simp (disch := first | omega | assumption | decide | (simp <;> omega) | fail) [facts, ]
        exact ⟨_, Heap.le_refl _, R3, ow3, by rw [hks]; exact l3⟩
      · rw [if_neg (fun h => how h.2)] at hks
        simp (disch := first | omega | assumption | decide | (simp <;> omega) | fail) [facts, e1, r', s5, how]
        exact ⟨_, Heap.le_refl _, R', ow', by rw [hks]; exact l'⟩
    · rw [if_neg (fun h => s5 h.1)] at hks
      simp (disch := first | omega | assumption | decide | (simp <;> omega) | fail) [facts, e1, r', s5]
      exact ⟨_, Heap.le_refl _, R', ow', by rw [hks]; exact l'⟩
end Go.Proofs.YthaggpicjpkjiaaGreat.GL

namespace Go.Proofs.YthaggpicjpkjiaaGreat.GL
open Go Go.RowKit
open St (Txn txnL txnV zeroT RightT OkT Rec recV stepF fromL revT)
open Ca (S4 flat setV OkS)
set_option maxRecDepth 10000
set_option pp.deepTerms.threshold 8
set_option pp.maxSteps 3000
set_option linter.unusedSimpArgs false
set_option linter.unusedVariables false

def recT (t : Txn) (k : Int) : Rec :=
  if k = 1 then ⟨k, t.term, t.stan, t.pan, t.amount, 0, 0, 0, 0, 0, 0, 0, 0, 0, 0, 0, 0⟩
  else if k = 5 then ⟨k, t.term, t.stan, [], 0, t.n0, t.n1, t.n2, t.n3, 0, 0, 0, 0, 0, 0, 0, 0⟩
  else if k = 6 then ⟨k, t.term, t.stan, [], t.given, 0, 0, 0, 0, 0, 0, 0, 0, 0, 0, 0, 0⟩
  else ⟨k, t.term, t.stan, [], 0, 0, 0, 0, 0, 0, 0, 0, 0, 0, 0, 0, 0⟩
set_option maxHeartbeats 800000 in
theorem record_c (t : Txn) (k : Int) (H : Heap) : ECalls Tryz.prog 38 #[txnV t, .int .i64 k] H fun v H' => v = recV (recT t k) ∧ Heap.le H H' := by
  refine ecalls_of_ewp (args := [_, _]) Tryz.func38 rfl rfl rfl (by simp [Tryz.ntmps38]) (by kernel_rfl) ?_
  obtain ⟨res, hres⟩ : ∃ res, res = recT t k := ⟨_, rfl⟩
  rw [← hres]
  unfold recT at hres
  obtain ⟨te, st, pan, am, sta, n0, n1, n2, n3, gi, ow⟩ := t
  simp only at hres
  simp only [txnV, txnL]
  simp (disch := first | omega | assumption | decide | (simp <;> omega) | fail) [facts, ]
  refine fresh_intro fun b2 hb2 => ?_
  have r2 := upd_same H b2 (.row true 0 [.int .u16 te, .int .u32 st, .string (mkS pan), .int .i64 am, .int .i64 sta, .int .i64 n0, .int .i64 n1, .int .i64 n2, .int .i64 n3, .int .i64 gi, .int .i64 ow] 0)
  have hl2 := le_upd (.row true 0 [.int .u16 te, .int .u32 st, .string (mkS pan), .int .i64 am, .int .i64 sta, .int .i64 n0, .int .i64 n1, .int .i64 n2, .int .i64 n3, .int .i64 gi, .int .i64 ow] 0) hb2
  generalize upd H b2 _ = H1 at *
  simp (disch := first | omega | assumption | decide | (simp <;> omega) | fail) [facts, ]
  refine fresh_intro fun b4 hb4 => ?_
  have r4 := upd_same H1 b4 (.row true 0 [.int .i64 0, .int .u16 0, .int .u32 0, .string (mkS []), .int .i64 0, .int .i64 0, .int .i64 0, .int .i64 0, .int .i64 0, .int .i64 0, .int .i64 0, .int .i64 0, .int .i64 0, .int .i64 0, .int .i64 0, .int .i64 0, .int .i64 0] 0)
  have hb4H := le_of_none hl2 hb4
  have hl4 := Heap.le_trans hl2 (le_upd (.row true 0 [.int .i64 0, .int .u16 0, .int .u32 0, .string (mkS []), .int .i64 0, .int .i64 0, .int .i64 0, .int .i64 0, .int .i64 0, .int .i64 0, .int .i64 0, .int .i64 0, .int .i64 0, .int .i64 0, .int .i64 0, .int .i64 0, .int .i64 0] 0) hb4)
  replace r2 := upd_other (o := .row true 0 [.int .i64 0, .int .u16 0, .int .u32 0, .string (mkS []), .int .i64 0, .int .i64 0, .int .i64 0, .int .i64 0, .int .i64 0, .int .i64 0, .int .i64 0, .int .i64 0, .int .i64 0, .int .i64 0, .int .i64 0, .int .i64 0, .int .i64 0] 0) hb4 r2
  simp (disch := first | omega | assumption | decide | (simp <;> omega) | fail) [facts, ]
  generalize upd H1 b4 _ = H2 at *
  simp (disch := first | omega | assumption | decide | (simp <;> omega) | fail) [facts, r2]
  refine fresh_intro fun b5 hb5 => ?_
  have hb5H := le_of_none hl4 hb5
  have q45 : b4 ≠ b5 := ne_of_fresh hb5 r4
  have q25 : b2 ≠ b5 := ne_of_fresh hb5 r2
  have r5 := upd_same H2 b5 (.row true 0 [.int .i64 k, .int .u16 te, .int .u32 st, .string (mkS []), .int .i64 0, .int .i64 0, .int .i64 0, .int .i64 0, .int .i64 0, .int .i64 0, .int .i64 0, .int .i64 0, .int .i64 0, .int .i64 0, .int .i64 0, .int .i64 0, .int .i64 0] 0)
  have hl5 := Heap.le_trans hl4 (le_upd (.row true 0 [.int .i64 k, .int .u16 te, .int .u32 st, .string (mkS []), .int .i64 0, .int .i64 0, .int .i64 0, .int .i64 0, .int .i64 0, .int .i64 0, .int .i64 0, .int .i64 0, .int .i64 0, .int .i64 0, .int .i64 0, .int .i64 0, .int .i64 0] 0) hb5)
  replace r2 := upd_other (o := .row true 0 [.int .i64 k, .int .u16 te, .int .u32 st, .string (mkS []), .int .i64 0, .int .i64 0, .int .i64 0, .int .i64 0, .int .i64 0, .int .i64 0, .int .i64 0, .int .i64 0, .int .i64 0, .int .i64 0, .int .i64 0, .int .i64 0, .int .i64 0] 0) hb5 r2
  replace r4 := upd_other (o := .row true 0 [.int .i64 k, .int .u16 te, .int .u32 st, .string (mkS []), .int .i64 0, .int .i64 0, .int .i64 0, .int .i64 0, .int .i64 0, .int .i64 0, .int .i64 0, .int .i64 0, .int .i64 0, .int .i64 0, .int .i64 0, .int .i64 0, .int .i64 0] 0) hb5 r4
  simp (disch := first | omega | assumption | decide | (simp <;> omega) | fail) [facts, upd_upd]
  generalize upd H2 b5 _ = H3 at *
  have fin : ∀ {x : List Value}, Heap.le H (upd (upd H3 b5 (.row true 0 x 0)) b4 (.row true 0 x 0)) := fun {x} => le_updN (le_updN hl5 hb5H _) hb4H _
  have fin0 : ∀ {x : List Value}, Heap.le H (upd H3 b4 (.row true 0 x 0)) := fun {x} => le_updN hl5 hb4H _
  by_cases h1 : k = 1
  · subst h1
    rw [if_pos rfl] at hres
    subst hres
    simp only [recV]
    simp (disch := first | omega | assumption | decide | (simp <;> omega) | fail) [facts, ]
    refine w_plan (P := Tryz.prog) (by simp [facts]) (opsP [0,1,2,4] (.both (opsP [3,5,6,7] .done) (opsP [5,3,6,7] .done))) ?_ ?_
    · decide +kernel
    simp (disch := first | omega | assumption | decide | (simp <;> omega) | fail) [facts, r2, r5, r4, upd_upd, upd_ne]
    exact ⟨_, Heap.le_refl _, fin⟩
  rw [if_neg h1] at hres
  by_cases h5 : k = 5
  · subst h5
    rw [if_pos rfl] at hres
    subst hres
    simp only [recV]
    simp (disch := first | omega | assumption | decide | (simp <;> omega) | fail) [facts, r2, r5, r4, upd_upd, upd_ne]
    exact ⟨_, Heap.le_refl _, fin⟩
  rw [if_neg h5] at hres
  by_cases h6 : k = 6
  · subst h6
    rw [if_pos rfl] at hres
    subst hres
    simp only [recV]
    simp (disch := first | omega | assumption | decide | (simp <;> omega) | fail) [facts, r2, r5, r4, upd_upd, upd_ne]
    exact ⟨_, Heap.le_refl _, fin⟩
  rw [if_neg h6] at hres
  subst hres
  simp only [recV]
  simp (disch := first | omega | assumption | decide | (simp <;> omega) | fail) [facts, h1, h5, h6, r2, r5, r4, upd_upd, upd_ne]
  exact ⟨_, Heap.le_refl _, fin0⟩
end Go.Proofs.YthaggpicjpkjiaaGreat.GL

namespace Go.Proofs.YthaggpicjpkjiaaGreat.GL
open Go Go.RowKit
open St (Txn txnL txnV zeroT)
open Ca (S4 flat setV OkS CassOk newS)
set_option maxRecDepth 10000
set_option pp.deepTerms.threshold 8
set_option pp.maxSteps 3000
set_option linter.unusedSimpArgs false
set_option linter.unusedVariables false

theorem mapsClone_c {H : Heap} {m : Nat} {es : List (Value × Value)} (hm : H m = some (.map es)) :
    ECalls Tryz.prog 42 #[.map (some m)] H fun v H' => ∃ b, v = .map (some b) ∧ H b = none ∧ H' = upd H b (.map es) := by
  intro W0 w hs
  obtain ⟨_, ents, he, hes, hborn⟩ := hs.map hm
  have hc := AnyW.maps_Clone Tryz.cloneTxns m ents _ w he
  change Calls Tryz.prog 42 _ _ _ at hc
  refine hc.mono ?_
  rintro e w' ⟨rfl, rfl⟩
  exact ⟨_, _, rfl, ⟨w.heap.size, rfl, hs.fresh, rfl⟩, hs.new (.map ents _) (.map es) ⟨hs.below.size, ents, (Go.MapKept.heap_alloc w _).1, hes, hborn⟩⟩
set_option maxHeartbeats 1600000 in
theorem bclone_c {H R : Heap} {p m : Nat} {a b : Option Addr} {n1 c1 c : Nat} {M : List Txn} {T : List Tm} (hR : Heap.le R H) (hB : BookR R p (.slice a n1 c1) (.slice b T.length c) m M T) (hn : 0 < T.length) (hn2 : T.length ≤ 1000) :
    ECalls Tryz.prog 12 #[.pointer (some ⟨p, 0, none⟩)] H fun v H' => ∃ p' tv' m' R', v = .pointer (some ⟨p', 0, none⟩) ∧ Own H (fun _ => none) H' R' ∧ BookR R' p' (.slice a n1 c1) tv' m' M T := by
  refine ecalls_of_ewp (args := [_]) Tryz.func12 rfl rfl rfl (by simp [Tryz.ntmps12]) (by kernel_rfl) ?_
  obtain ⟨tb, to, rfl⟩ : ∃ tb to, b = some ⟨tb, to, none⟩ := by
    rcases hB.lst with ⟨e, e2, _⟩ | ⟨b', o', c', _, _, e, _⟩
    · omega
    · cases e; exact ⟨b', o', rfl⟩
  have hpG := hR _ _ hB.row
  have hmG := hR _ _ hB.map
  obtain ⟨a2, c2, e2, hts, hcap⟩ := hB.lst.sl hR
  cases e2
  have hone : (rowsC Tm.cells T).all (·.oneCell') = true := rowsC_one tm1 _
  obtain ⟨n, hnn⟩ : ∃ n, n = T.length := ⟨_, rfl⟩
  rw [← hnn] at hpG hts hn hn2
  obtain ⟨X, hX⟩ : ∃ X, X = rowsC Tm.cells T := ⟨_, rfl⟩
  have hX18 : X.length = n * 18 := by rw [hX, rowsC_len tm18, hnn]
  rw [← hX] at hts hone
  obtain ⟨es, hes⟩ : ∃ es, es = M.map entV := ⟨_, rfl⟩
  rw [← hes] at hmG
  simp (disch := first | omega | assumption | decide | (simp <;> omega) | fail) [facts, ]
  refine w_growL (by simp [facts]) 17 [3,4,5,6,7,8,9,10,11,12,13,14,15,16,17,18,2] [.eq (.pointer (some ⟨p, 0, none⟩)), .eq (.pointer (some ⟨p, 0, none⟩)), .eq (.pointer (some ⟨p, 0, none⟩)), .eq (.slice a n1 c1), .eq (.pointer (some ⟨p, 0, none⟩)), .eq (.pointer (some ⟨p, 0, none⟩)), .eq (.pointer (some ⟨p, 1, none⟩)), .eq (.slice (some ⟨tb, to, none⟩) n c),
    .as (fun v H' => ∃ b c' room, v = .slice (some ⟨b, 0, none⟩) n c' ∧ H b = none ∧ H' b = some (.row true 0 X room) ∧ n ≤ c' ∧ c' * 18 ≤ n * 18 + room) (fun _ _ _ hl ⟨b, c', r, e, h0, h1, h2⟩ => ⟨b, c', r, e, h0, hl _ _ h1, h2⟩),
    .eq (.pointer (some ⟨p, 0, none⟩)), .eq (.pointer (some ⟨p, 0, none⟩)), .eq (.pointer (some ⟨p, 2, none⟩)), .eq (.map (some m)),
    .as (fun v H' => ∃ b, v = .map (some b) ∧ H b = none ∧ H' b = some (.map es)) (fun _ _ _ hl ⟨b, e, h0, h1⟩ => ⟨b, e, h0, hl _ _ h1⟩),
    .as (fun v H' => ∃ b c' room mb, v = .agg #[.slice a n1 c1, .slice (some ⟨b, 0, none⟩) n c', .map (some mb)] ∧ H b = none ∧ H' b = some (.row true 0 X room) ∧ n ≤ c' ∧ c' * 18 ≤ n * 18 + room ∧ H mb = none ∧ H' mb = some (.map es)) (fun _ _ _ hl ⟨b, c', r, mb, e, h0, h1, h2, h3, h4, h5⟩ => ⟨b, c', r, mb, e, h0, hl _ _ h1, h2, h3, h4, hl _ _ h5⟩),
    .as (fun v H' => ∃ q b c' room mb, v = .pointer (some ⟨q, 0, none⟩) ∧ H q = none ∧ H' q = some (.row true 0 [.slice a n1 c1, .slice (some ⟨b, 0, none⟩) n c', .map (some mb)] 0) ∧ H b = none ∧ H' b = some (.row true 0 X room) ∧ n ≤ c' ∧ c' * 18 ≤ n * 18 + room ∧ H mb = none ∧ H' mb = some (.map es)) (fun _ _ _ hl ⟨q, b, c', r, mb, e, e0, e1, h0, h1, h2, h3, h4, h5⟩ => ⟨q, b, c', r, mb, e, e0, hl _ _ e1, h0, hl _ _ h1, h2, h3, h4, hl _ _ h5⟩),
    .as (fun v H' => ∃ q b c' room mb, v = .pointer (some ⟨q, 0, none⟩) ∧ H q = none ∧ H' q = some (.row true 0 [.slice a n1 c1, .slice (some ⟨b, 0, none⟩) n c', .map (some mb)] 0) ∧ H b = none ∧ H' b = some (.row true 0 X room) ∧ n ≤ c' ∧ c' * 18 ≤ n * 18 + room ∧ H mb = none ∧ H' mb = some (.map es)) (fun _ _ _ hl ⟨q, b, c', r, mb, e, e0, e1, h0, h1, h2, h3, h4, h5⟩ => ⟨q, b, c', r, mb, e, e0, hl _ _ e1, h0, hl _ _ h1, h2, h3, h4, hl _ _ h5⟩)] (by decide +kernel) rfl ?_ ?_
  · simp only [List.take_succ_cons, List.take_zero, allL_cons, allL_nil]
    refine ⟨?_, ?_, ?_, ?_, ?_, ?_, ?_, ?_, ?_, ?_, ?_, ?_, ?_, ?_, ?_, ?_, ?_, trivial⟩
    all_goals (unfold stepL; intro f Hx hl ha; have hpx := hl _ _ hpG; have hmx := hl _ _ hmG)
    all_goals try (simp (disch := first | omega | assumption | decide | (simp <;> omega) | fail) [facts, hpx]; done)
    · simp (disch := first | omega | assumption | decide | (simp <;> omega) | fail) [facts, hpx]
      refine (clone18_c Hx tb to n c X (hts.le hl) hone hn hn2).mono ?_
      rintro v H' ⟨b', c', room, rfl, h0, h1, h2, h3, hle⟩
      simp (disch := first | omega | assumption | decide | (simp <;> omega) | fail) [facts, ]
      exact ⟨hle, b', c', ⟨rfl, rfl⟩, le_of_none hl h0, room, h1, h2, h3⟩
    · simp (disch := first | omega | assumption | decide | (simp <;> omega) | fail) [facts, hpx]
      refine (mapsClone_c hmx).mono ?_
      rintro v H' ⟨b', rfl, h0, rfl⟩
      simp (disch := first | omega | assumption | decide | (simp <;> omega) | fail) [facts, ]
      exact ⟨le_upd _ h0, le_of_none hl h0⟩
    · replace ha : (∃ b c' room, f 11 = .slice (some ⟨b, 0, none⟩) n c' ∧ H b = none ∧ Hx b = some (.row true 0 X room) ∧ n ≤ c' ∧ c' * 18 ≤ n * 18 + room) ∧ (∃ b, f 16 = .map (some b) ∧ H b = none ∧ Hx b = some (.map es)) := by simpa using ha
      obtain ⟨⟨b, c', room, f11, h0, h1, h2, h3⟩, mb, f16, h4, h5⟩ := ha
      simp (disch := first | omega | assumption | decide | (simp <;> omega) | fail) [facts, f11, f16]
      refine ⟨b, c', room, mb, ?_, h0, h1, h2, h3, h4, h5⟩
      simp
    · replace ha : (∃ b c' room mb, f 17 = .agg #[.slice a n1 c1, .slice (some ⟨b, 0, none⟩) n c', .map (some mb)] ∧ H b = none ∧ Hx b = some (.row true 0 X room) ∧ n ≤ c' ∧ c' * 18 ≤ n * 18 + room ∧ H mb = none ∧ Hx mb = some (.map es)) := by simpa using ha
      obtain ⟨b, c', room, mb, f17, h0, h1, h2, h3, h4, h5⟩ := ha
      simp (disch := first | omega | assumption | decide | (simp <;> omega) | fail) [facts, f17]
      refine fresh_intro fun q hq => ?_
      simp (disch := first | omega | assumption | decide | (simp <;> omega) | fail) [facts, ]
      refine ⟨le_upd _ hq, le_of_none hl hq, b, c', room, mb, ?_, h0, upd_other hq h1, h2, h3, h4, upd_other hq h5⟩
      simp
    · simp (disch := first | omega | assumption | decide | (simp <;> omega) | fail) [facts, ]
      have h := ha
      simp at h
      exact h.1
  intro f H4 hle4 hkn
  have hk2 : (∃ q b c' room mb, f 2 = .pointer (some ⟨q, 0, none⟩) ∧ H q = none ∧ H4 q = some (.row true 0 [.slice a n1 c1, .slice (some ⟨b, 0, none⟩) n c', .map (some mb)] 0) ∧ H b = none ∧ H4 b = some (.row true 0 X room) ∧ n ≤ c' ∧ c' * 18 ≤ n * 18 + room ∧ H mb = none ∧ H4 mb = some (.map es)) := by
    have := hkn
    simp only [knownL_cons, knownL_nil, gp_known_as, gp_known_eq, true_and, and_true] at this
    exact this.2.2.2.2
  obtain ⟨q, b, c', room, mb, f2, hq, rq, hb, rb, hc1, hc2, hmb, rmb⟩ := hk2
  simp (disch := first | omega | assumption | decide | (simp <;> omega) | fail) [facts, f2]
  have qqb : q ≠ b := fun e => by
    rw [e, rb] at rq
    have h1 : X = [.slice a n1 c1, .slice (some ⟨b, 0, none⟩) n c', .map (some mb)] := (by simpa using rq : _ ∧ _).1
    rw [h1] at hX18
    simp at hX18
    omega
  have qqm : q ≠ mb := fun e => by rw [e, rmb] at rq; cases rq
  have qbm : b ≠ mb := fun e => by rw [e, rmb] at rb; cases rb
  have ow := (((Own.nil (Heap.le_refl H)).take2 hle4 hb rb).take hmb rmb).take hq rq
  refine ⟨_, Heap.le_refl _, .slice (some ⟨b, 0, none⟩) n c', mb, _, ow, upd_same _ _ _, ?_, ?_, qqm, fun e => qqb (by simpa [blkV] using e.symm), fun e => qbm (by simpa [blkV] using e)⟩
  · rw [upd_ne _ _ qqm.symm, upd_same, hes]
  · rw [← hnn]
    refine .inr ⟨b, 0, c', [], room, rfl, by rw [upd_ne _ _ qqb.symm, upd_ne _ _ qbm, upd_same, List.append_nil, hX], by rw [rowsC_len tm18, hnn], hc1, by simpa using hc2⟩
end Go.Proofs.YthaggpicjpkjiaaGreat.GL
