/- Layer 17: the small functions on cassettes (as in layers 2, 18). -/
import Derived.Test.YtiaigpkaajnpoaaCaSE
import Derived.Test.YtiaigpkaajnpoaaGlO
namespace Go.Proofs.Ytiaigpkaajnpoaa.GL
open Go Go.RowKit
set_option maxRecDepth 10000
set_option pp.deepTerms.threshold 8
set_option pp.maxSteps 3000
set_option linter.unusedSimpArgs false
set_option linter.unusedVariables false

def fewIn (z : Int) : Prop := 0 ≤ z ∧ z ≤ 10000
instance (z : Int) : Decidable (fewIn z) := inferInstanceAs (Decidable (_ ∧ _))
theorem few_or (z : Int) : fewIn z ∨ z < 0 ∨ (¬ z < 0 ∧ 10000 < z) := by unfold fewIn; omega
def notesV (a b c d : Int) : Value := .agg #[.int .i64 a, .int .i64 b, .int .i64 c, .int .i64 d]
def leftZ (l g r : Int) : Int := if fewIn l ∧ fewIn g ∧ fewIn r then max (l - g - r) 0 else 0
def cassV (d l g r : Int) : Value := .agg #[.int .i64 d, .int .i64 l, .int .i64 g, .int .i64 r]
theorem left_c (d l g r : Int) (H : Heap) : ECalls Try.prog 13 #[cassV d l g r] H fun v H' => v = .int .i64 (leftZ l g r) ∧ Heap.le H H' := by
  refine ecalls_of_ewp (args := [_]) Try.func13 rfl rfl rfl (by simp [Try.ntmps13]) (by kernel_rfl) ?_
  unfold cassV leftZ
  simp (disch := first | omega | assumption | decide | (simp <;> omega) | fail) [facts, ]
  refine fresh_intro fun b1 hb1 => ?_
  simp (disch := first | omega | assumption | decide | (simp <;> omega) | fail) [facts, ]
  refine fresh_intro fun b2 hb2 => ?_
  have q : b1 ≠ b2 := ne_of_fresh hb2 (upd_same _ _ _)
  have hle := Heap.le_trans (le_upd (.row true 0 [.int .i64 d, .int .i64 l, .int .i64 g, .int .i64 r] 0) hb1) (le_upd (.row true 0 [.int .i64 l, .int .i64 g, .int .i64 r] 0) hb2)
  simp (disch := first | omega | assumption | decide | (simp <;> omega) | fail) [facts, upd_ne]
  refine w_unroll 4 ?_
  rcases few_or l with hl | hl | ⟨hl1, hl2⟩
  rotate_left
  · simp (disch := first | omega | assumption | decide | (simp <;> omega) | fail) [facts, hl, show ¬ fewIn l by unfold fewIn; omega, upd_ne]
    exact ⟨_, Heap.le_refl _, hle⟩
  · simp (disch := first | omega | assumption | decide | (simp <;> omega) | fail) [facts, hl1, hl2, show ¬ fewIn l by unfold fewIn; omega, upd_ne]
    exact ⟨_, Heap.le_refl _, hle⟩
  have l1 : ¬ l < 0 := by unfold fewIn at hl; omega
  have l2 : ¬ 10000 < l := by unfold fewIn at hl; omega
  rcases few_or g with hg | hg | ⟨hg1, hg2⟩
  rotate_left
  · simp (disch := first | omega | assumption | decide | (simp <;> omega) | fail) [facts, l1, l2, hl, hg, show ¬ fewIn g by unfold fewIn; omega, upd_ne]
    exact ⟨_, Heap.le_refl _, hle⟩
  · simp (disch := first | omega | assumption | decide | (simp <;> omega) | fail) [facts, l1, l2, hl, hg1, hg2, show ¬ fewIn g by unfold fewIn; omega, upd_ne]
    exact ⟨_, Heap.le_refl _, hle⟩
  have g1 : ¬ g < 0 := by unfold fewIn at hg; omega
  have g2 : ¬ 10000 < g := by unfold fewIn at hg; omega
  rcases few_or r with hr | hr | ⟨hr1, hr2⟩
  rotate_left
  · simp (disch := first | omega | assumption | decide | (simp <;> omega) | fail) [facts, l1, l2, hl, g1, g2, hg, hr, show ¬ fewIn r by unfold fewIn; omega, upd_ne]
    exact ⟨_, Heap.le_refl _, hle⟩
  · simp (disch := first | omega | assumption | decide | (simp <;> omega) | fail) [facts, l1, l2, hl, g1, g2, hg, hr1, hr2, show ¬ fewIn r by unfold fewIn; omega, upd_ne]
    exact ⟨_, Heap.le_refl _, hle⟩
  have r1 : ¬ r < 0 := by unfold fewIn at hr; omega
  have r2 : ¬ 10000 < r := by unfold fewIn at hr; omega
  have hl' := hl
  have hg' := hg
  have hr' := hr
  unfold fewIn at hl' hg' hr'
  simp (disch := first | omega | assumption | decide | (simp <;> omega) | fail) [facts, l1, l2, hl, g1, g2, hg, r1, r2, hr, upd_ne]
  exact ⟨_, Heap.le_refl _, hle⟩
theorem fresh_abs {f : Nat → Value} {g : GObj} {H : Heap} {K : Kont} (P : Heap → Prop) (hP : P H) (h : ∀ H' b, P H' → H' b = none → K (f b) (upd H' b g)) : eFresh f g H K := fun b hb => h H b hP hb
structure Cs where
  d : Int
  l : Int
  g : Int
  r : Int
structure S4 where
  a : Cs
  b : Cs
  c : Cs
  e : Cs
def flat (s : S4) : List Value := [.int .i64 s.a.d, .int .i64 s.a.l, .int .i64 s.a.g, .int .i64 s.a.r, .int .i64 s.b.d, .int .i64 s.b.l, .int .i64 s.b.g, .int .i64 s.b.r, .int .i64 s.c.d, .int .i64 s.c.l, .int .i64 s.c.g, .int .i64 s.c.r, .int .i64 s.e.d, .int .i64 s.e.l, .int .i64 s.e.g, .int .i64 s.e.r]
def setV (s : S4) : Value := .agg (flat s).toArray
theorem in4 {a b c d : Int} (h0 : i64In a) (h1 : i64In b) (h2 : i64In c) (h3 : i64In d) : allIn [a, b, c, d] := fun z hz => by
  simp only [List.mem_cons, List.not_mem_nil, or_false] at hz
  rcases hz with rfl | rfl | rfl | rfl <;> assumption
theorem few_in {z : Int} (h : fewIn z) : i64In z := by unfold fewIn at h; unfold i64In; omega
theorem worthM_c (s : S4) (n0 n1 n2 n3 : Int) (H : Heap) (hn : allIn [n0, n1, n2, n3]) (hd : allIn [s.a.d, s.b.d, s.c.d, s.e.d]) :
    ECalls Try.prog 15 #[setV s, notesV n0 n1 n2 n3] H fun v H' => v = worthV [n0, n1, n2, n3] [s.a.d, s.b.d, s.c.d, s.e.d] ∧ Heap.le H H' := by
  refine ecalls_of_ewp (args := [_, _]) Try.func15 rfl rfl rfl (by simp [Try.ntmps15]) (by kernel_rfl) ?_
  obtain ⟨⟨d0, l0, g0, r0⟩, ⟨d1, l1, g1, r1⟩, ⟨d2, l2, g2, r2⟩, ⟨d3, l3, g3, r3⟩⟩ := s
  simp only at hd ⊢
  have cw := fun H => worth_c [n0, n1, n2, n3] [d0, d1, d2, d3] H rfl rfl hn hd
  obtain ⟨R, Rb, hR⟩ : ∃ R Rb, worthV [n0, n1, n2, n3] [d0, d1, d2, d3] = .tuple #[.int .i64 R, .bool Rb] := by
    unfold worthV totV
    repeat' split
    all_goals exact ⟨_, _, rfl⟩
  rw [hR] at cw ⊢
  simp only [aggV, List.map_cons, List.map_nil, i64V_def] at cw
  simp only [setV, notesV, flat]
  simp (disch := first | omega | assumption | decide | (simp <;> omega) | fail) [facts, ]
  refine fresh_intro fun b2 hb2 => ?_
  simp (disch := first | omega | assumption | decide | (simp <;> omega) | fail) [facts, ]
  refine fresh_intro fun b3 hb3 => ?_
  simp (disch := first | omega | assumption | decide | (simp <;> omega) | fail) [facts, ]
  refine fresh_intro fun b6 hb6 => ?_
  have q23 : b2 ≠ b3 := ne_of_fresh hb3 (upd_same _ _ _)
  have q36 : b3 ≠ b6 := ne_of_fresh hb6 (upd_same _ _ _)
  have q26 : b2 ≠ b6 := ne_of_fresh hb6 (by rw [upd_ne _ _ q23]; exact upd_same _ _ _)
  have h3n : H b3 = none := le_of_none (le_upd _ hb2) hb3
  have h6n : H b6 = none := le_of_none (le_upd _ hb2) (le_of_none (le_upd _ hb3) hb6)
  have q63 := q36.symm
  have hle := Heap.le_refl H
  simp (disch := first | omega | assumption | decide | (simp <;> omega) | fail) [facts, upd_ne]
  refine w_unroll 5 ?_
  simp (disch := first | omega | assumption | decide | (simp <;> omega) | fail) [facts, upd_ne]
  refine fresh_abs (fun H' => Heap.le H H' ∧ H' b3 = some (.row true 0 [.int .i64 n0, .int .i64 n1, .int .i64 n2, .int .i64 n3] 0) ∧ H' b6 = some (.row true 0 [.int .i64 0, .int .i64 0, .int .i64 0, .int .i64 0] 0)) ⟨?_, by simp [upd_ne, q23, q26, q36, q63], by simp [upd_ne, q23, q26, q36, q63]⟩ ?_
  · repeat' (first | exact hle | exact Heap.le_refl _ | assumption | (refine le_of_none hle ?_; assumption) | apply le_updN)
  clear hle
  rintro H0 x0 ⟨hle, l3, l6⟩ hx0
  have y03 : b3 ≠ x0 := ne_of_fresh hx0 l3
  have y06 : b6 ≠ x0 := ne_of_fresh hx0 l6
  have y06' := y06.symm
  have z0 : H x0 = none := le_of_none hle hx0
  simp (disch := first | omega | assumption | decide | (simp <;> omega) | fail) [facts, l3, l6, upd_ne, upd_upd]
  refine fresh_abs (fun H' => Heap.le H H' ∧ H' b3 = some (.row true 0 [.int .i64 n0, .int .i64 n1, .int .i64 n2, .int .i64 n3] 0) ∧ H' b6 = some (.row true 0 [.int .i64 d0, .int .i64 0, .int .i64 0, .int .i64 0] 0)) ⟨?_, by simp [upd_ne, q36, q63, l3, l6, y03, y06], by simp [upd_ne, q36, q63, l3, l6, y03, y06]⟩ ?_
  · repeat' (first | exact hle | exact Heap.le_refl _ | assumption | (refine le_of_none hle ?_; assumption) | apply le_updN)
  clear hle
  rintro H1 x1 ⟨hle, l3, l6⟩ hx1
  have y13 : b3 ≠ x1 := ne_of_fresh hx1 l3
  have y16 : b6 ≠ x1 := ne_of_fresh hx1 l6
  have y16' := y16.symm
  have z1 : H x1 = none := le_of_none hle hx1
  simp (disch := first | omega | assumption | decide | (simp <;> omega) | fail) [facts, l3, l6, upd_ne, upd_upd]
  refine fresh_abs (fun H' => Heap.le H H' ∧ H' b3 = some (.row true 0 [.int .i64 n0, .int .i64 n1, .int .i64 n2, .int .i64 n3] 0) ∧ H' b6 = some (.row true 0 [.int .i64 d0, .int .i64 d1, .int .i64 0, .int .i64 0] 0)) ⟨?_, by simp [upd_ne, q36, q63, l3, l6, y13, y16], by simp [upd_ne, q36, q63, l3, l6, y13, y16]⟩ ?_
  · repeat' (first | exact hle | exact Heap.le_refl _ | assumption | (refine le_of_none hle ?_; assumption) | apply le_updN)
  clear hle
  rintro H2 x2 ⟨hle, l3, l6⟩ hx2
  have y23 : b3 ≠ x2 := ne_of_fresh hx2 l3
  have y26 : b6 ≠ x2 := ne_of_fresh hx2 l6
  have y26' := y26.symm
  have z2 : H x2 = none := le_of_none hle hx2
  simp (disch := first | omega | assumption | decide | (simp <;> omega) | fail) [facts, l3, l6, upd_ne, upd_upd]
  refine fresh_abs (fun H' => Heap.le H H' ∧ H' b3 = some (.row true 0 [.int .i64 n0, .int .i64 n1, .int .i64 n2, .int .i64 n3] 0) ∧ H' b6 = some (.row true 0 [.int .i64 d0, .int .i64 d1, .int .i64 d2, .int .i64 0] 0)) ⟨?_, by simp [upd_ne, q36, q63, l3, l6, y23, y26], by simp [upd_ne, q36, q63, l3, l6, y23, y26]⟩ ?_
  · repeat' (first | exact hle | exact Heap.le_refl _ | assumption | (refine le_of_none hle ?_; assumption) | apply le_updN)
  clear hle
  rintro H3 x3 ⟨hle, l3, l6⟩ hx3
  have y33 : b3 ≠ x3 := ne_of_fresh hx3 l3
  have y36 : b6 ≠ x3 := ne_of_fresh hx3 l6
  have y36' := y36.symm
  have z3 : H x3 = none := le_of_none hle hx3
  simp (disch := first | omega | assumption | decide | (simp <;> omega) | fail) [facts, l3, l6, upd_ne, upd_upd]
  refine (cw _).mono ?_
  rintro v H9 ⟨rfl, hle9⟩
  simp (disch := first | omega | assumption | decide | (simp <;> omega) | fail) [facts, ]
  refine ⟨_, Heap.le_refl _, Heap.le_trans ?_ hle9⟩
  repeat' (first | exact hle | exact Heap.le_refl _ | assumption | (refine le_of_none hle ?_; assumption) | apply le_updN)
theorem count_c (z : Int) (H : Heap) : ECalls Try.prog 20 #[.int .i64 z] H fun v H' => v = .bool (decide (fewIn z)) ∧ H' = H := by
  refine ecalls_of_ewp (args := [_]) Try.func20 rfl rfl rfl (by simp [Try.ntmps20]) (by kernel_rfl) ?_
  by_cases h1 : 0 ≤ z
  · by_cases h2 : z ≤ 10000
    · simp (disch := first | omega | assumption | decide | (simp <;> omega) | fail) [facts, h1, h2, show fewIn z from ⟨h1, h2⟩]
    · simp (disch := first | omega | assumption | decide | (simp <;> omega) | fail) [facts, h1, h2, show ¬ fewIn z from fun h => h2 h.2]
  · simp (disch := first | omega | assumption | decide | (simp <;> omega) | fail) [facts, h1, show ¬ fewIn z from fun h => h1 h.1]
theorem leftR_c (d l g r : Int) (H : Heap) : ECalls Try.prog 14 #[cassV d l g r] H fun v H' => v = .int .i64 (leftZ l g r) ∧ Heap.le H H' := by
  refine ecalls_of_ewp (args := [_]) Try.func14 rfl rfl rfl (by simp [Try.ntmps14]) (by kernel_rfl) ?_
  unfold cassV leftZ
  simp (disch := first | omega | assumption | decide | (simp <;> omega) | fail) [facts, ]
  refine fresh_intro fun b1 hb1 => ?_
  have hle := le_upd (.row true 0 [.int .i64 d, .int .i64 l, .int .i64 g, .int .i64 r] 0) hb1
  have l1 := upd_same H b1 (.row true 0 [.int .i64 d, .int .i64 l, .int .i64 g, .int .i64 r] 0)
  generalize upd H b1 (.row true 0 [.int .i64 d, .int .i64 l, .int .i64 g, .int .i64 r] 0) = H1 at *
  simp (disch := first | omega | assumption | decide | (simp <;> omega) | fail) [facts, l1]
  refine (count_c l _).mono ?_
  rintro v H2 ⟨rfl, rfl⟩
  by_cases hl : fewIn l
  · simp (disch := first | omega | assumption | decide | (simp <;> omega) | fail) [facts, l1, hl]
    refine (count_c g _).mono ?_
    rintro v H2 ⟨rfl, rfl⟩
    by_cases hg : fewIn g
    · simp (disch := first | omega | assumption | decide | (simp <;> omega) | fail) [facts, l1, hg]
      refine (count_c r _).mono ?_
      rintro v H2 ⟨rfl, rfl⟩
      by_cases hr : fewIn r
      · have hl' := hl
        have hg' := hg
        have hr' := hr
        unfold fewIn at hl' hg' hr'
        simp (disch := first | omega | assumption | decide | (simp <;> omega) | fail) [facts, l1, hr]
        exact ⟨_, Heap.le_refl _, hle⟩
      · simp (disch := first | omega | assumption | decide | (simp <;> omega) | fail) [facts, l1, hr]
        exact ⟨_, Heap.le_refl _, hle⟩
    · simp (disch := first | omega | assumption | decide | (simp <;> omega) | fail) [facts, l1, hg]
      exact ⟨_, Heap.le_refl _, hle⟩
  · simp (disch := first | omega | assumption | decide | (simp <;> omega) | fail) [facts, l1, hl]
    exact ⟨_, Heap.le_refl _, hle⟩
theorem denoms_c (s : S4) (H : Heap) : ECalls Try.prog 23 #[setV s] H fun v H' => v = notesV s.a.d s.b.d s.c.d s.e.d ∧ Heap.le H H' := by
  refine ecalls_of_ewp (args := [_]) Try.func23 rfl rfl rfl (by simp [Try.ntmps23]) (by kernel_rfl) ?_
  obtain ⟨⟨d0, l0, g0, r0⟩, ⟨d1, l1, g1, r1⟩, ⟨d2, l2, g2, r2⟩, ⟨d3, l3, g3, r3⟩⟩ := s
  simp only [setV, notesV, flat]
  simp (disch := first | omega | assumption | decide | (simp <;> omega) | fail) [facts, ]
  refine fresh_intro fun b1 hb1 => ?_
  simp (disch := first | omega | assumption | decide | (simp <;> omega) | fail) [facts, ]
  refine fresh_intro fun b2 hb2 => ?_
  simp (disch := first | omega | assumption | decide | (simp <;> omega) | fail) [facts, ]
  refine fresh_intro fun b3 hb3 => ?_
  have q12 : b1 ≠ b2 := ne_of_fresh hb2 (upd_same _ _ _)
  have q23 : b2 ≠ b3 := ne_of_fresh hb3 (upd_same _ _ _)
  have q13 : b1 ≠ b3 := ne_of_fresh hb3 (by rw [upd_ne _ _ q12]; exact upd_same _ _ _)
  have h2n : H b2 = none := le_of_none (le_upd _ hb1) hb2
  have h3n : H b3 = none := le_of_none (le_upd _ hb1) (le_of_none (le_upd _ hb2) hb3)
  have q32 := q23.symm
  have hle := Heap.le_refl H
  simp (disch := first | omega | assumption | decide | (simp <;> omega) | fail) [facts, upd_ne]
  refine w_unroll 5 ?_
  simp (disch := first | omega | assumption | decide | (simp <;> omega) | fail) [facts, upd_ne, upd_upd]
  refine ⟨_, Heap.le_refl _, ?_⟩
  repeat' (first | exact hle | exact Heap.le_refl _ | assumption | (refine le_of_none hle ?_; assumption) | apply le_updN)
theorem worth17_c (s : S4) (n0 n1 n2 n3 : Int) (H : Heap) (hn : allIn [n0, n1, n2, n3]) (hd : allIn [s.a.d, s.b.d, s.c.d, s.e.d]) :
    ECalls Try.prog 16 #[setV s, notesV n0 n1 n2 n3] H fun v H' => v = worthV [n0, n1, n2, n3] [s.a.d, s.b.d, s.c.d, s.e.d] ∧ Heap.le H H' := by
  refine ecalls_of_ewp (args := [_, _]) Try.func16 rfl rfl rfl (by simp [Try.ntmps16]) (by kernel_rfl) ?_
  have cd := fun H => denoms_c s H
  have cw := fun H => worthR_c [n0, n1, n2, n3] [s.a.d, s.b.d, s.c.d, s.e.d] H rfl rfl hn hd
  obtain ⟨R, Rb, hR⟩ : ∃ R Rb, worthV [n0, n1, n2, n3] [s.a.d, s.b.d, s.c.d, s.e.d] = .tuple #[.int .i64 R, .bool Rb] := by
    unfold worthV totV
    repeat' split
    all_goals exact ⟨_, _, rfl⟩
  rw [hR] at cw ⊢
  clear hR
  simp only [aggV, List.map_cons, List.map_nil, i64V_def] at cw
  have hfl : (flat s).length = 16 := rfl
  have htk : List.take 16 (flat s) = flat s := rfl
  unfold setV at cd ⊢
  unfold notesV at cd ⊢
  generalize flat s = F at *
  simp (disch := first | omega | assumption | decide | (simp <;> omega) | fail) [facts, ]
  refine fresh_intro fun b2 hb2 => ?_
  have l2 := upd_same H b2 (.row true 0 F 0)
  have hle := le_upd (.row true 0 F 0) hb2
  simp (disch := first | omega | assumption | decide | (simp <;> omega) | fail) [facts, ]
  generalize upd H b2 (.row true 0 F 0) = H2 at *
  refine fresh_intro fun b3 hb3 => ?_
  have l3 := upd_same H2 b3 (.row true 0 [.int .i64 n0, .int .i64 n1, .int .i64 n2, .int .i64 n3] 0)
  replace l2 := upd_other (o := .row true 0 [.int .i64 n0, .int .i64 n1, .int .i64 n2, .int .i64 n3] 0) hb3 l2
  replace hle := Heap.le_trans hle (le_upd (.row true 0 [.int .i64 n0, .int .i64 n1, .int .i64 n2, .int .i64 n3] 0) hb3)
  simp (disch := first | omega | assumption | decide | (simp <;> omega) | fail) [facts, ]
  generalize upd H2 b3 (.row true 0 [.int .i64 n0, .int .i64 n1, .int .i64 n2, .int .i64 n3] 0) = H3 at *
  refine w_plan (P := Try.prog) (by simp [facts]) (.both (opsP [0,1,2,3,4,5,6,7] .done) (opsP [1] (.both (opsP [0,2,3,4,5,6,7] .done) (opsP [2,0,3,4,5,6,7] .done)))) ?_ ?_
  · decide +kernel
  simp (disch := first | omega | assumption | decide | (simp <;> omega) | fail) [facts, l2, l3, hfl, htk]
  repeat' apply And.intro
  all_goals
    refine (cd _).mono ?_
    rintro v H4 ⟨rfl, hle4⟩
    have m3 := hle4 _ _ l3
    simp (disch := first | omega | assumption | decide | (simp <;> omega) | fail) [facts, m3]
    refine (cw _).mono ?_
    rintro v H5 ⟨rfl, hle5⟩
    simp (disch := first | omega | assumption | decide | (simp <;> omega) | fail) [facts, ]
    exact ⟨_, Heap.le_refl _, Heap.le_trans hle (Heap.le_trans hle4 hle5)⟩
theorem countR_c (ns : List Int) (H : Heap) (hn : ns.length = 4) (hni : allIn ns) :
    ECalls Try.prog 17 #[aggV ns] H fun r H' => r = totV ns.sum ∧ Heap.le H H' := by
  refine ecalls_of_ewp (args := [_]) Try.func17 rfl rfl rfl (by simp [Try.ntmps17]) (by kernel_rfl) ?_
  unfold aggV
  simp (disch := first | omega | assumption | decide | (simp <;> omega) | fail) [facts, ]
  refine fresh_intro fun b hb => ?_
  have hle0 := le_upd (.row true 0 (ns.map i64V) 0) hb
  have hl2 := upd_same H b (.row true 0 (ns.map i64V) 0)
  generalize upd H b (.row true 0 (ns.map i64V) 0) = H2 at *
  simp (disch := first | omega | assumption | decide | (simp <;> omega) | fail) [facts, hl2]
  refine w_loop (fun s => ∃ k : Nat, k ≤ 4 ∧ s.env 1 = .pointer (some ⟨b, 0, none⟩) ∧ s.env 5 = .int .i64 k ∧ Heap.le H2 s.heap ∧ Out H2 s.heap (s.env 4) 1 k ((ns.map i64V).take k)) (fun s => 4 - (intOf (s.env 5)).toNat) ?_ ?_
  · exact ⟨0, by decide, by simp, by simp, by simp [Heap.le_refl], by simp [Out.nil]⟩
  · rintro ⟨e, H1⟩ ⟨k, hk, e9, e10, hle, hout⟩
    simp only at e9 e10 hle hout
    generalize e4 : e 4 = sv at hout
    by_cases hlt : (k : Int) < 4
    · obtain ⟨x, hx⟩ : ∃ x, ns[k]? = some x := ⟨_, List.getElem?_eq_getElem (by omega)⟩
      have hxin : i64In x := hni x (List.mem_of_getElem? hx)
      obtain ⟨hxk, hx'⟩ := List.getElem?_eq_some_iff.1 hx
      have hl1 := hle _ _ hl2
      simp (disch := first | omega | assumption | decide | (simp <;> omega) | fail) [facts, e9, e10, e4, hlt, hx, hx', hl1, hn]
      refine fresh_intro fun b4 hb4 => ?_
      simp (disch := first | omega | assumption | decide | (simp <;> omega) | fail) [facts, e9, e10, e4, hlt]
      refine Out.app (e := 2) (s := 1) (nbs := 8) (z := .int .i64 0) (H := H2) (by simp [facts]) (by simp [facts]) (by simp [facts]) (by simp [facts]) rfl (by decide) (Heap.le_trans hle (le_upd _ hb4)) (hout.up (le_upd _ hb4))
        (srcOne (e1 := 2) (z := .int .i64 0) (by simp [facts]) (by simp [facts]) (by simp [facts]) rfl) (by simp) (by simp [Value.oneCell']) (by omega) ?_
      intro sv2 H4 hle4 _ hout4
      simp (disch := first | omega | assumption | decide | (simp <;> omega) | fail) [facts, e9, e10, e4, hlt]
      refine ⟨_, Heap.le_refl _, ⟨k + 1, by omega, by simp [e9], by simp, by simpa using hle4, ?_⟩, by simp [intOf, e10]; omega⟩
      rw [take_snoc (xs := ns.map i64V) (x := i64V x) (by rw [List.getElem?_map, hx]; rfl)]; simpa using hout4
    · have hk4 : k = 4 := by omega
      subst hk4
      rw [List.take_of_length_le (by simp [hn])] at hout
      obtain ⟨a6, c6, rfl, hsl⟩ := hout.sl
      simp (disch := first | omega | assumption | decide | (simp <;> omega) | fail) [facts, e9, e10, e4, hlt]
      refine (totalR_c a6 4 c6 _ _ hsl hni (by decide)).mono ?_
      rintro r H3 ⟨rfl, hle3⟩
      have hle9 := Heap.le_trans hle0 (Heap.le_trans hle hle3)
      by_cases hin : i64In ns.sum
      · have hi2 := hin
        unfold i64In at hi2
        rw [totV_yes hin]
        simp (disch := first | omega | assumption | decide | (simp <;> omega) | fail) [facts, e9, e10, e4, hlt]
        exact ⟨_, Heap.le_refl _, hle9⟩
      · rw [totV_no hin]
        simp (disch := first | omega | assumption | decide | (simp <;> omega) | fail) [facts, e9, e10, e4, hlt]
        exact ⟨_, Heap.le_refl _, hle9⟩
/-- What a number is brought to, below n. -/
def placeM (k n : Int) : Int := if k.tmod n < 0 then k.tmod n + n else k.tmod n
theorem placeM_in (k n : Int) (h : 0 < n) : 0 ≤ placeM k n ∧ placeM k n < n := by
  have h1 := Int.tmod_lt_of_pos k h
  have h3 : (-k).tmod n = -(k.tmod n) := Int.neg_tmod k n
  have h4 := Int.tmod_lt_of_pos (-k) h
  unfold placeM; split <;> omega
theorem placeM_c (k n : Int) (hn : 0 < n) (hn2 : n ≤ 1000000) (H : Heap) : ECalls Try.prog 10 #[.int .i64 k, .int .i64 n] H fun v H' => v = .int .i64 (placeM k n) ∧ H' = H := by
  refine ecalls_of_ewp (args := [_, _]) Try.func10 rfl rfl rfl (by simp [Try.ntmps10]) (by kernel_rfl) ?_
  have hz := placeM_in k n hn
  have hn0 : ¬ n = 0 := by omega
  unfold placeM at *
  generalize hm : k.tmod n = m at *
  by_cases h : m < 0
  · rw [if_pos h] at *
    simp (disch := first | omega | assumption | decide | (simp <;> omega) | fail) [facts, hm, h, hn0]
  · rw [if_neg h] at *
    simp (disch := first | omega | assumption | decide | (simp <;> omega) | fail) [facts, hm, h, hn0]
end Go.Proofs.Ytiaigpkaajnpoaa.GL
