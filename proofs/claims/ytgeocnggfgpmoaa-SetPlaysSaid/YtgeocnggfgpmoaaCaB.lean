/- Layer 18: a set of cassettes: what its functions do with it. -/
import Derived.Test.YtgeocnggfgpmoaaCaA
import Derived.Test.YtgeocnggfgpmoaaCaSE
namespace Go.Proofs.Ytgeocnggfgpmoaa.GL
open Go Go.RowKit
set_option maxRecDepth 10000
set_option pp.deepTerms.threshold 8
set_option pp.maxSteps 3000
set_option linter.unusedSimpArgs false
set_option linter.unusedVariables false

theorem fresh_abs {f : Nat → Value} {g : GObj} {H : Heap} {K : Kont} (P : Heap → Prop) (hP : P H) (h : ∀ H' b, P H' → H' b = none → K (f b) (upd H' b g)) : eFresh f g H K := fun b hb => h H b hP hb
theorem dele_get {H : Heap} {b p : Nat} {o : GObj} (hne : b ≠ p) (h : H b = some o) : (dele H p) b = some o := by rw [dele_ne _ hne]; exact h
theorem le_dele {H H1 : Heap} (p : Nat) (hl : Heap.le H H1) : Heap.le (dele H p) H1 := Heap.le_trans (dele_le _ _) hl
theorem dele_none {H : Heap} (p : Nat) : dele H p p = none := dele_same H p
structure Cs where
  d : Int
  l : Int
  g : Int
  r : Int
structure S4 where
  a : Cs
  b : Cs
  c : Cs
  e : Cs
def flat (s : S4) : List Value := [.int .i64 s.a.d, .int .i64 s.a.l, .int .i64 s.a.g, .int .i64 s.a.r, .int .i64 s.b.d, .int .i64 s.b.l, .int .i64 s.b.g, .int .i64 s.b.r, .int .i64 s.c.d, .int .i64 s.c.l, .int .i64 s.c.g, .int .i64 s.c.r, .int .i64 s.e.d, .int .i64 s.e.l, .int .i64 s.e.g, .int .i64 s.e.r]
def setV (s : S4) : Value := .agg (flat s).toArray
def newC (c : Cs) : Cs := ⟨c.d, min (max c.l 0) 10000, 0, 0⟩
def newS (s : S4) : S4 := ⟨newC s.a, newC s.b, newC s.c, newC s.e⟩
def loadS (s : S4) (n0 n1 n2 n3 : Int) : S4 := ⟨⟨s.a.d, n0, 0, 0⟩, ⟨s.b.d, n1, 0, 0⟩, ⟨s.c.d, n2, 0, 0⟩, ⟨s.e.d, n3, 0, 0⟩⟩
def addC (c : Cs) (n r : Int) : Cs := ⟨c.d, c.l, c.g + n, c.r + r⟩
def OkC (c : Cs) : Prop := fewIn c.l ∧ fewIn c.g ∧ fewIn c.r ∧ c.g + c.r ≤ c.l ∧ i64In c.d
def OkS (s : S4) : Prop := OkC s.a ∧ OkC s.b ∧ OkC s.c ∧ OkC s.e
def fitC (c : Cs) (n r : Int) : Prop := n + r ≤ leftZ c.l c.g c.r

set_option maxHeartbeats 400000 in
theorem new_c (s : S4) (H : Heap) : ECalls Try.prog 7 #[setV s] H fun v H' => ∃ p, v = .pointer (some ⟨p, 0, none⟩) ∧ H p = none ∧ H' p = some (.row true 0 (flat (newS s)) 0) ∧ Heap.le H H' := by
  refine ecalls_of_ewp (args := [_]) Try.func7 rfl rfl rfl (by simp [Try.ntmps7]) (by kernel_rfl) ?_
  obtain ⟨⟨d0, l0, g0, r0⟩, ⟨d1, l1, g1, r1⟩, ⟨d2, l2, g2, r2⟩, ⟨d3, l3, g3, r3⟩⟩ := s
  simp only [setV, flat, newS, newC]
  simp (disch := first | omega | assumption | decide | (simp <;> omega) | fail) [facts, ]
  refine fresh_intro fun b1 hb1 => ?_
  simp (disch := first | omega | assumption | decide | (simp <;> omega) | fail) [facts, ]
  refine fresh_intro fun p hp => ?_
  have q1 : b1 ≠ p := ne_of_fresh hp (upd_same _ _ _)
  have hpn : H p = none := le_of_none (le_upd _ hb1) hp
  simp (disch := first | omega | assumption | decide | (simp <;> omega) | fail) [facts, upd_ne]
  refine w_unroll 5 ?_
  simp (disch := first | omega | assumption | decide | (simp <;> omega) | fail) [facts, upd_ne]
  refine fresh_abs (fun H' => Heap.le H H' ∧ H' p = some (.row true 0 [.int .i64 0, .int .i64 0, .int .i64 0, .int .i64 0, .int .i64 0, .int .i64 0, .int .i64 0, .int .i64 0, .int .i64 0, .int .i64 0, .int .i64 0, .int .i64 0, .int .i64 0, .int .i64 0, .int .i64 0, .int .i64 0] 0)) ⟨?_, by simp⟩ ?_
  · repeat' (first | exact hle | exact Heap.le_refl _ | assumption | (refine le_of_none hle ?_; assumption) | apply le_updN)
  rintro H0 x0 ⟨hle, lp⟩ hx0
  have y0 : p ≠ x0 := ne_of_fresh hx0 lp
  have z0 : H x0 = none := le_of_none hle hx0
  simp (disch := first | omega | assumption | decide | (simp <;> omega) | fail) [facts, lp, upd_ne, upd_upd]
  refine w_plan (P := Try.prog) (by simp [facts]) (opsP [0,1,2,3,4,5,6,7,8,9,10,11,12] .done) ?_ ?_
  · decide +kernel
  simp (disch := first | omega | assumption | decide | (simp <;> omega) | fail) [facts, lp, upd_ne, upd_upd]
  refine fresh_abs (fun H' => Heap.le H H' ∧ H' p = some (.row true 0 [.int .i64 d0, .int .i64 (min (max l0 0) 10000), .int .i64 0, .int .i64 0, .int .i64 0, .int .i64 0, .int .i64 0, .int .i64 0, .int .i64 0, .int .i64 0, .int .i64 0, .int .i64 0, .int .i64 0, .int .i64 0, .int .i64 0, .int .i64 0] 0)) ⟨?_, by simp⟩ ?_
  · repeat' (first | exact hle | exact Heap.le_refl _ | assumption | (refine le_of_none hle ?_; assumption) | apply le_updN)
  rintro H1 x1 ⟨hle, lp⟩ hx1
  have y1 : p ≠ x1 := ne_of_fresh hx1 lp
  have z1 : H x1 = none := le_of_none hle hx1
  simp (disch := first | omega | assumption | decide | (simp <;> omega) | fail) [facts, lp, upd_ne, upd_upd]
  refine w_plan (P := Try.prog) (by simp [facts]) (opsP [0,1,2,3,4,5,6,7,8,9,10,11,12] .done) ?_ ?_
  · decide +kernel
  simp (disch := first | omega | assumption | decide | (simp <;> omega) | fail) [facts, lp, upd_ne, upd_upd]
  refine fresh_abs (fun H' => Heap.le H H' ∧ H' p = some (.row true 0 [.int .i64 d0, .int .i64 (min (max l0 0) 10000), .int .i64 0, .int .i64 0, .int .i64 d1, .int .i64 (min (max l1 0) 10000), .int .i64 0, .int .i64 0, .int .i64 0, .int .i64 0, .int .i64 0, .int .i64 0, .int .i64 0, .int .i64 0, .int .i64 0, .int .i64 0] 0)) ⟨?_, by simp⟩ ?_
  · repeat' (first | exact hle | exact Heap.le_refl _ | assumption | (refine le_of_none hle ?_; assumption) | apply le_updN)
  rintro H2 x2 ⟨hle, lp⟩ hx2
  have y2 : p ≠ x2 := ne_of_fresh hx2 lp
  have z2 : H x2 = none := le_of_none hle hx2
  simp (disch := first | omega | assumption | decide | (simp <;> omega) | fail) [facts, lp, upd_ne, upd_upd]
  refine w_plan (P := Try.prog) (by simp [facts]) (opsP [0,1,2,3,4,5,6,7,8,9,10,11,12] .done) ?_ ?_
  · decide +kernel
  simp (disch := first | omega | assumption | decide | (simp <;> omega) | fail) [facts, lp, upd_ne, upd_upd]
  refine fresh_abs (fun H' => Heap.le H H' ∧ H' p = some (.row true 0 [.int .i64 d0, .int .i64 (min (max l0 0) 10000), .int .i64 0, .int .i64 0, .int .i64 d1, .int .i64 (min (max l1 0) 10000), .int .i64 0, .int .i64 0, .int .i64 d2, .int .i64 (min (max l2 0) 10000), .int .i64 0, .int .i64 0, .int .i64 0, .int .i64 0, .int .i64 0, .int .i64 0] 0)) ⟨?_, by simp⟩ ?_
  · repeat' (first | exact hle | exact Heap.le_refl _ | assumption | (refine le_of_none hle ?_; assumption) | apply le_updN)
  rintro H3 x3 ⟨hle, lp⟩ hx3
  have y3 : p ≠ x3 := ne_of_fresh hx3 lp
  have z3 : H x3 = none := le_of_none hle hx3
  simp (disch := first | omega | assumption | decide | (simp <;> omega) | fail) [facts, lp, upd_ne, upd_upd]
  refine w_plan (P := Try.prog) (by simp [facts]) (opsP [0,1,2,3,4,5,6,7,8,9,10,11,12] .done) ?_ ?_
  · decide +kernel
  simp (disch := first | omega | assumption | decide | (simp <;> omega) | fail) [facts, lp, upd_ne, upd_upd]
  refine ⟨_, Heap.le_refl _, hpn, by simp, ?_⟩
  repeat' (first | exact hle | exact Heap.le_refl _ | assumption | (refine le_of_none hle ?_; assumption) | apply le_updN)

set_option maxHeartbeats 400000 in
theorem all_c (s : S4) (p : Nat) (H : Heap) (lp : H p = some (.row true 0 (flat s) 0)) : ECalls Try.prog 11 #[.pointer (some ⟨p, 0, none⟩)] H fun v H' => v = setV s ∧ Heap.le H H' := by
  refine ecalls_of_ewp (args := [_]) Try.func11 rfl rfl rfl (by simp [Try.ntmps11]) (by kernel_rfl) ?_
  obtain ⟨⟨d0, l0, g0, r0⟩, ⟨d1, l1, g1, r1⟩, ⟨d2, l2, g2, r2⟩, ⟨d3, l3, g3, r3⟩⟩ := s
  simp only [setV, flat] at lp ⊢
  simp (disch := first | omega | assumption | decide | (simp <;> omega) | fail) [facts, ]
  refine fresh_intro fun b2 hb2 => ?_
  have q : p ≠ b2 := ne_of_fresh hb2 lp
  simp (disch := first | omega | assumption | decide | (simp <;> omega) | fail) [facts, lp, upd_ne, upd_upd]
  exact ⟨_, Heap.le_refl _, le_upd _ hb2⟩

set_option maxHeartbeats 400000 in
theorem given_c (s : S4) (p : Nat) (H : Heap) (lp : H p = some (.row true 0 (flat s) 0)) : ECalls Try.prog 18 #[.pointer (some ⟨p, 0, none⟩)] H fun v H' => v = notesV s.a.g s.b.g s.c.g s.e.g ∧ Heap.le H H' := by
  refine ecalls_of_ewp (args := [_]) Try.func18 rfl rfl rfl (by simp [Try.ntmps18]) (by kernel_rfl) ?_
  obtain ⟨⟨d0, l0, g0, r0⟩, ⟨d1, l1, g1, r1⟩, ⟨d2, l2, g2, r2⟩, ⟨d3, l3, g3, r3⟩⟩ := s
  simp only [notesV, flat] at lp ⊢
  simp (disch := first | omega | assumption | decide | (simp <;> omega) | fail) [facts, ]
  refine fresh_intro fun b2 hb2 => ?_
  simp (disch := first | omega | assumption | decide | (simp <;> omega) | fail) [facts, ]
  refine fresh_intro fun b3 hb3 => ?_
  have q2 : p ≠ b2 := ne_of_fresh hb2 lp
  have q23 : b2 ≠ b3 := ne_of_fresh hb3 (upd_same _ _ _)
  have q3 : p ≠ b3 := ne_of_fresh hb3 (by rw [upd_ne _ _ q2]; exact lp)
  have q32 := q23.symm
  have hb3' : H b3 = none := le_of_none (le_upd _ hb2) hb3
  simp (disch := first | omega | assumption | decide | (simp <;> omega) | fail) [facts, lp, upd_ne]
  refine w_unroll 5 ?_
  simp (disch := first | omega | assumption | decide | (simp <;> omega) | fail) [facts, lp, upd_ne]
  refine fresh_abs (fun H' => Heap.le H H' ∧ H' b2 = some (.row true 0 [.int .i64 0, .int .i64 0, .int .i64 0, .int .i64 0] 0) ∧ H' b3 = some (.row true 0 [.int .i64 0, .int .i64 0, .int .i64 0, .int .i64 0] 0)) ⟨?_, by simp [upd_ne, q23, q32], by simp [upd_ne, q23, q32]⟩ ?_
  · have hle := Heap.le_refl H; repeat' (first | exact hle | exact Heap.le_refl _ | assumption | (refine le_of_none hle ?_; assumption) | apply le_updN)
  rintro H0 x0 ⟨hle, l2, l3⟩ hx0
  have y0a : b2 ≠ x0 := ne_of_fresh hx0 l2
  have y0b : b3 ≠ x0 := ne_of_fresh hx0 l3
  have y0c := y0b.symm
  have z0 : H x0 = none := le_of_none hle hx0
  simp (disch := first | omega | assumption | decide | (simp <;> omega) | fail) [facts, l2, l3, upd_ne, upd_upd]
  refine fresh_abs (fun H' => Heap.le H H' ∧ H' b2 = some (.row true 0 [.int .i64 0, .int .i64 0, .int .i64 0, .int .i64 0] 0) ∧ H' b3 = some (.row true 0 [.int .i64 g0, .int .i64 0, .int .i64 0, .int .i64 0] 0)) ⟨?_, by simp [upd_ne, q23, q32, l2, l3, y0a, y0b], by simp [upd_ne, q23, q32, l2, l3, y0a, y0b]⟩ ?_
  · repeat' (first | exact hle | exact Heap.le_refl _ | assumption | (refine le_of_none hle ?_; assumption) | apply le_updN)
  rintro H1 x1 ⟨hle, l2, l3⟩ hx1
  have y1a : b2 ≠ x1 := ne_of_fresh hx1 l2
  have y1b : b3 ≠ x1 := ne_of_fresh hx1 l3
  have y1c := y1b.symm
  have z1 : H x1 = none := le_of_none hle hx1
  simp (disch := first | omega | assumption | decide | (simp <;> omega) | fail) [facts, l2, l3, upd_ne, upd_upd]
  refine fresh_abs (fun H' => Heap.le H H' ∧ H' b2 = some (.row true 0 [.int .i64 0, .int .i64 0, .int .i64 0, .int .i64 0] 0) ∧ H' b3 = some (.row true 0 [.int .i64 g0, .int .i64 g1, .int .i64 0, .int .i64 0] 0)) ⟨?_, by simp [upd_ne, q23, q32, l2, l3, y1a, y1b], by simp [upd_ne, q23, q32, l2, l3, y1a, y1b]⟩ ?_
  · repeat' (first | exact hle | exact Heap.le_refl _ | assumption | (refine le_of_none hle ?_; assumption) | apply le_updN)
  rintro H2 x2 ⟨hle, l2, l3⟩ hx2
  have y2a : b2 ≠ x2 := ne_of_fresh hx2 l2
  have y2b : b3 ≠ x2 := ne_of_fresh hx2 l3
  have y2c := y2b.symm
  have z2 : H x2 = none := le_of_none hle hx2
  simp (disch := first | omega | assumption | decide | (simp <;> omega) | fail) [facts, l2, l3, upd_ne, upd_upd]
  refine fresh_abs (fun H' => Heap.le H H' ∧ H' b2 = some (.row true 0 [.int .i64 0, .int .i64 0, .int .i64 0, .int .i64 0] 0) ∧ H' b3 = some (.row true 0 [.int .i64 g0, .int .i64 g1, .int .i64 g2, .int .i64 0] 0)) ⟨?_, by simp [upd_ne, q23, q32, l2, l3, y2a, y2b], by simp [upd_ne, q23, q32, l2, l3, y2a, y2b]⟩ ?_
  · repeat' (first | exact hle | exact Heap.le_refl _ | assumption | (refine le_of_none hle ?_; assumption) | apply le_updN)
  rintro H3 x3 ⟨hle, l2, l3⟩ hx3
  have y3a : b2 ≠ x3 := ne_of_fresh hx3 l2
  have y3b : b3 ≠ x3 := ne_of_fresh hx3 l3
  have y3c := y3b.symm
  have z3 : H x3 = none := le_of_none hle hx3
  simp (disch := first | omega | assumption | decide | (simp <;> omega) | fail) [facts, l2, l3, upd_ne, upd_upd]
  refine ⟨_, Heap.le_refl _, ?_⟩
  repeat' (first | exact hle | exact Heap.le_refl _ | assumption | (refine le_of_none hle ?_; assumption) | apply le_updN)

set_option maxHeartbeats 400000 in
theorem rejected_c (s : S4) (p : Nat) (H : Heap) (lp : H p = some (.row true 0 (flat s) 0)) : ECalls Try.prog 20 #[.pointer (some ⟨p, 0, none⟩)] H fun v H' => v = notesV s.a.r s.b.r s.c.r s.e.r ∧ Heap.le H H' := by
  refine ecalls_of_ewp (args := [_]) Try.func20 rfl rfl rfl (by simp [Try.ntmps20]) (by kernel_rfl) ?_
  obtain ⟨⟨d0, l0, g0, r0⟩, ⟨d1, l1, g1, r1⟩, ⟨d2, l2, g2, r2⟩, ⟨d3, l3, g3, r3⟩⟩ := s
  simp only [notesV, flat] at lp ⊢
  simp (disch := first | omega | assumption | decide | (simp <;> omega) | fail) [facts, ]
  refine fresh_intro fun b2 hb2 => ?_
  simp (disch := first | omega | assumption | decide | (simp <;> omega) | fail) [facts, ]
  refine fresh_intro fun b3 hb3 => ?_
  have q2 : p ≠ b2 := ne_of_fresh hb2 lp
  have q23 : b2 ≠ b3 := ne_of_fresh hb3 (upd_same _ _ _)
  have q3 : p ≠ b3 := ne_of_fresh hb3 (by rw [upd_ne _ _ q2]; exact lp)
  have q32 := q23.symm
  have hb3' : H b3 = none := le_of_none (le_upd _ hb2) hb3
  simp (disch := first | omega | assumption | decide | (simp <;> omega) | fail) [facts, lp, upd_ne]
  refine w_unroll 5 ?_
  simp (disch := first | omega | assumption | decide | (simp <;> omega) | fail) [facts, lp, upd_ne]
  refine fresh_abs (fun H' => Heap.le H H' ∧ H' b2 = some (.row true 0 [.int .i64 0, .int .i64 0, .int .i64 0, .int .i64 0] 0) ∧ H' b3 = some (.row true 0 [.int .i64 0, .int .i64 0, .int .i64 0, .int .i64 0] 0)) ⟨?_, by simp [upd_ne, q23, q32], by simp [upd_ne, q23, q32]⟩ ?_
  · have hle := Heap.le_refl H; repeat' (first | exact hle | exact Heap.le_refl _ | assumption | (refine le_of_none hle ?_; assumption) | apply le_updN)
  rintro H0 x0 ⟨hle, l2, l3⟩ hx0
  have y0a : b2 ≠ x0 := ne_of_fresh hx0 l2
  have y0b : b3 ≠ x0 := ne_of_fresh hx0 l3
  have y0c := y0b.symm
  have z0 : H x0 = none := le_of_none hle hx0
  simp (disch := first | omega | assumption | decide | (simp <;> omega) | fail) [facts, l2, l3, upd_ne, upd_upd]
  refine fresh_abs (fun H' => Heap.le H H' ∧ H' b2 = some (.row true 0 [.int .i64 0, .int .i64 0, .int .i64 0, .int .i64 0] 0) ∧ H' b3 = some (.row true 0 [.int .i64 r0, .int .i64 0, .int .i64 0, .int .i64 0] 0)) ⟨?_, by simp [upd_ne, q23, q32, l2, l3, y0a, y0b], by simp [upd_ne, q23, q32, l2, l3, y0a, y0b]⟩ ?_
  · repeat' (first | exact hle | exact Heap.le_refl _ | assumption | (refine le_of_none hle ?_; assumption) | apply le_updN)
  rintro H1 x1 ⟨hle, l2, l3⟩ hx1
  have y1a : b2 ≠ x1 := ne_of_fresh hx1 l2
  have y1b : b3 ≠ x1 := ne_of_fresh hx1 l3
  have y1c := y1b.symm
  have z1 : H x1 = none := le_of_none hle hx1
  simp (disch := first | omega | assumption | decide | (simp <;> omega) | fail) [facts, l2, l3, upd_ne, upd_upd]
  refine fresh_abs (fun H' => Heap.le H H' ∧ H' b2 = some (.row true 0 [.int .i64 0, .int .i64 0, .int .i64 0, .int .i64 0] 0) ∧ H' b3 = some (.row true 0 [.int .i64 r0, .int .i64 r1, .int .i64 0, .int .i64 0] 0)) ⟨?_, by simp [upd_ne, q23, q32, l2, l3, y1a, y1b], by simp [upd_ne, q23, q32, l2, l3, y1a, y1b]⟩ ?_
  · repeat' (first | exact hle | exact Heap.le_refl _ | assumption | (refine le_of_none hle ?_; assumption) | apply le_updN)
  rintro H2 x2 ⟨hle, l2, l3⟩ hx2
  have y2a : b2 ≠ x2 := ne_of_fresh hx2 l2
  have y2b : b3 ≠ x2 := ne_of_fresh hx2 l3
  have y2c := y2b.symm
  have z2 : H x2 = none := le_of_none hle hx2
  simp (disch := first | omega | assumption | decide | (simp <;> omega) | fail) [facts, l2, l3, upd_ne, upd_upd]
  refine fresh_abs (fun H' => Heap.le H H' ∧ H' b2 = some (.row true 0 [.int .i64 0, .int .i64 0, .int .i64 0, .int .i64 0] 0) ∧ H' b3 = some (.row true 0 [.int .i64 r0, .int .i64 r1, .int .i64 r2, .int .i64 0] 0)) ⟨?_, by simp [upd_ne, q23, q32, l2, l3, y2a, y2b], by simp [upd_ne, q23, q32, l2, l3, y2a, y2b]⟩ ?_
  · repeat' (first | exact hle | exact Heap.le_refl _ | assumption | (refine le_of_none hle ?_; assumption) | apply le_updN)
  rintro H3 x3 ⟨hle, l2, l3⟩ hx3
  have y3a : b2 ≠ x3 := ne_of_fresh hx3 l2
  have y3b : b3 ≠ x3 := ne_of_fresh hx3 l3
  have y3c := y3b.symm
  have z3 : H x3 = none := le_of_none hle hx3
  simp (disch := first | omega | assumption | decide | (simp <;> omega) | fail) [facts, l2, l3, upd_ne, upd_upd]
  refine ⟨_, Heap.le_refl _, ?_⟩
  repeat' (first | exact hle | exact Heap.le_refl _ | assumption | (refine le_of_none hle ?_; assumption) | apply le_updN)

set_option maxHeartbeats 400000 in
theorem load_c (s : S4) (p : Nat) (n0 n1 n2 n3 : Int) (H : Heap) (lp : H p = some (.row true 0 (flat s) 0)) : ECalls Try.prog 13 #[.pointer (some ⟨p, 0, none⟩), notesV n0 n1 n2 n3] H fun v H' => v = .int .i64 (if fourIn n0 n1 n2 n3 then 0 else 20) ∧ Heap.le (dele H p) H' ∧ H' p = some (.row true 0 (flat (if fourIn n0 n1 n2 n3 then loadS s n0 n1 n2 n3 else s)) 0) := by
  refine ecalls_of_ewp (args := [_, _]) Try.func13 rfl rfl rfl (by simp [Try.ntmps13]) (by kernel_rfl) ?_
  have cr := fun H => right_c n0 n1 n2 n3 H
  by_cases hf : fourIn n0 n1 n2 n3
  · rw [if_pos hf, if_pos hf]
    simp only [hf, decide_true] at cr
    obtain ⟨⟨d0, l0, g0, r0⟩, ⟨d1, l1, g1, r1⟩, ⟨d2, l2, g2, r2⟩, ⟨d3, l3, g3, r3⟩⟩ := s
    simp only [notesV, flat, loadS] at lp cr ⊢
    simp (disch := first | omega | assumption | decide | (simp <;> omega) | fail) [facts, ]
    refine fresh_intro fun b3 hb3 => ?_
    have q : p ≠ b3 := ne_of_fresh hb3 lp
    have q' := q.symm
    simp (disch := first | omega | assumption | decide | (simp <;> omega) | fail) [facts, upd_ne]
    refine (cr _).mono ?_
    rintro v H2 ⟨rfl, hle2⟩
    have l3 := hle2 _ _ (upd_same _ _ _)
    have hle : Heap.le (dele H p) H2 := le_dele p (Heap.le_trans (le_upd _ hb3) hle2)
    replace lp := hle2 _ _ (upd_other hb3 lp)
    have hpn := dele_none (H := H) p
    simp (disch := first | omega | assumption | decide | (simp <;> omega) | fail) [facts, l3, lp, upd_ne]
    refine w_unroll 5 ?_
    simp (disch := first | omega | assumption | decide | (simp <;> omega) | fail) [facts, l3, lp, upd_ne]
    refine w_plan (P := Try.prog) (by simp [facts]) (opsP [0,1,2,3,4,5,6,7,8,9,10,11,12,14,15,19,20,13,16,17,18,21,22,23] .done) ?_ ?_
    · decide +kernel
    simp (disch := first | omega | assumption | decide | (simp <;> omega) | fail) [facts, l3, lp, upd_ne, upd_upd]
    refine w_plan (P := Try.prog) (by simp [facts]) (opsP [0,1,2,3,4,5,6,7,8,9,10,11,12,14,15,19,20,13,16,17,18,21,22,23] .done) ?_ ?_
    · decide +kernel
    simp (disch := first | omega | assumption | decide | (simp <;> omega) | fail) [facts, l3, lp, upd_ne, upd_upd]
    refine w_plan (P := Try.prog) (by simp [facts]) (opsP [0,1,2,3,4,5,6,7,8,9,10,11,12,14,15,19,20,13,16,17,18,21,22,23] .done) ?_ ?_
    · decide +kernel
    simp (disch := first | omega | assumption | decide | (simp <;> omega) | fail) [facts, l3, lp, upd_ne, upd_upd]
    refine w_plan (P := Try.prog) (by simp [facts]) (opsP [0,1,2,3,4,5,6,7,8,9,10,11,12,14,15,19,20,13,16,17,18,21,22,23] .done) ?_ ?_
    · decide +kernel
    simp (disch := first | omega | assumption | decide | (simp <;> omega) | fail) [facts, l3, lp, upd_ne, upd_upd]
    refine ⟨_, Heap.le_refl _, ?_, by simp⟩
    repeat' (first | exact hle | exact Heap.le_refl _ | assumption | (refine le_of_none hle ?_; assumption) | apply le_updN)
  · rw [if_neg hf, if_neg hf]
    simp only [hf, decide_false] at cr
    simp only [notesV] at cr ⊢
    simp (disch := first | omega | assumption | decide | (simp <;> omega) | fail) [facts, ]
    refine fresh_intro fun b3 hb3 => ?_
    simp (disch := first | omega | assumption | decide | (simp <;> omega) | fail) [facts, ]
    refine (cr _).mono ?_
    rintro v H2 ⟨rfl, hle2⟩
    simp (disch := first | omega | assumption | decide | (simp <;> omega) | fail) [facts, ]
    exact ⟨_, Heap.le_refl _, le_dele p (Heap.le_trans (le_upd _ hb3) hle2), hle2 _ _ (upd_other hb3 lp)⟩

end Go.Proofs.Ytgeocnggfgpmoaa.GL
