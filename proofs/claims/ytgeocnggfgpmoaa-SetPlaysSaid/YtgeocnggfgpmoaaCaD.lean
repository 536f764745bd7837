/- Layer 18: what was given is worth; the chapter's example. -/
import Derived.Test.YtgeocnggfgpmoaaCaC
namespace Go.Proofs.Ytgeocnggfgpmoaa.GL
open Go Go.RowKit
set_option maxRecDepth 10000
set_option pp.deepTerms.threshold 8
set_option pp.maxSteps 3000
set_option linter.unusedSimpArgs false
set_option linter.unusedVariables false

theorem in4 {a b c d : Int} (h0 : i64In a) (h1 : i64In b) (h2 : i64In c) (h3 : i64In d) : allIn [a, b, c, d] := fun z hz => by
  simp only [List.mem_cons, List.not_mem_nil, or_false] at hz
  rcases hz with rfl | rfl | rfl | rfl <;> assumption
theorem le_deleN {F H : Heap} {p : Nat} (hl : Heap.le F H) (hp : F p = none) : Heap.le F (dele H p) := fun i o e => by
  rw [dele_ne _ (ne_of_fresh hp e)]; exact hl i o e
theorem few_in {z : Int} (h : fewIn z) : i64In z := by unfold fewIn at h; unfold i64In; omega

set_option maxHeartbeats 1600000 in
theorem worthM_c (s : S4) (n0 n1 n2 n3 : Int) (H : Heap) (hn : allIn [n0, n1, n2, n3]) (hd : allIn [s.a.d, s.b.d, s.c.d, s.e.d]) :
    ECalls Try.prog 27 #[setV s, notesV n0 n1 n2 n3] H fun v H' => v = worthV [n0, n1, n2, n3] [s.a.d, s.b.d, s.c.d, s.e.d] ∧ Heap.le H H' := by
  refine ecalls_of_ewp (args := [_, _]) Try.func27 rfl rfl rfl (by simp [Try.ntmps27]) (by kernel_rfl) ?_
  obtain ⟨⟨d0, l0, g0, r0⟩, ⟨d1, l1, g1, r1⟩, ⟨d2, l2, g2, r2⟩, ⟨d3, l3, g3, r3⟩⟩ := s
  simp only at hd ⊢
  have cw := fun H => worth_c [n0, n1, n2, n3] [d0, d1, d2, d3] H rfl rfl hn hd
  obtain ⟨R, Rb, hR⟩ : ∃ R Rb, worthV [n0, n1, n2, n3] [d0, d1, d2, d3] = .tuple #[.int .i64 R, .bool Rb] := by
    unfold worthV totV
    repeat' split
    all_goals exact ⟨_, _, rfl⟩
  rw [hR] at cw ⊢
  simp only [aggV, List.map_cons, List.map_nil, i64V_def] at cw
  simp only [setV, notesV, flat]
  simp (disch := first | omega | assumption | decide | (simp <;> omega) | fail) [facts, ]
  refine fresh_intro fun b2 hb2 => ?_
  simp (disch := first | omega | assumption | decide | (simp <;> omega) | fail) [facts, ]
  refine fresh_intro fun b3 hb3 => ?_
  simp (disch := first | omega | assumption | decide | (simp <;> omega) | fail) [facts, ]
  refine fresh_intro fun b6 hb6 => ?_
  have q23 : b2 ≠ b3 := ne_of_fresh hb3 (upd_same _ _ _)
  have q36 : b3 ≠ b6 := ne_of_fresh hb6 (upd_same _ _ _)
  have q26 : b2 ≠ b6 := ne_of_fresh hb6 (by rw [upd_ne _ _ q23]; exact upd_same _ _ _)
  have h3n : H b3 = none := le_of_none (le_upd _ hb2) hb3
  have h6n : H b6 = none := le_of_none (le_upd _ hb2) (le_of_none (le_upd _ hb3) hb6)
  have q63 := q36.symm
  have hle := Heap.le_refl H
  simp (disch := first | omega | assumption | decide | (simp <;> omega) | fail) [facts, upd_ne]
  refine w_unroll 5 ?_
  simp (disch := first | omega | assumption | decide | (simp <;> omega) | fail) [facts, upd_ne]
  refine fresh_abs (fun H' => Heap.le H H' ∧ H' b3 = some (.row true 0 [.int .i64 n0, .int .i64 n1, .int .i64 n2, .int .i64 n3] 0) ∧ H' b6 = some (.row true 0 [.int .i64 0, .int .i64 0, .int .i64 0, .int .i64 0] 0)) ⟨?_, by simp [upd_ne, q23, q26, q36, q63], by simp [upd_ne, q23, q26, q36, q63]⟩ ?_
  · repeat' (first | exact hle | exact Heap.le_refl _ | assumption | (refine le_of_none hle ?_; assumption) | apply le_updN)
  clear hle
  rintro H0 x0 ⟨hle, l3, l6⟩ hx0
  have y03 : b3 ≠ x0 := ne_of_fresh hx0 l3
  have y06 : b6 ≠ x0 := ne_of_fresh hx0 l6
  have y06' := y06.symm
  have z0 : H x0 = none := le_of_none hle hx0
  simp (disch := first | omega | assumption | decide | (simp <;> omega) | fail) [facts, l3, l6, upd_ne, upd_upd]
  refine fresh_abs (fun H' => Heap.le H H' ∧ H' b3 = some (.row true 0 [.int .i64 n0, .int .i64 n1, .int .i64 n2, .int .i64 n3] 0) ∧ H' b6 = some (.row true 0 [.int .i64 d0, .int .i64 0, .int .i64 0, .int .i64 0] 0)) ⟨?_, by simp [upd_ne, q36, q63, l3, l6, y03, y06], by simp [upd_ne, q36, q63, l3, l6, y03, y06]⟩ ?_
  · repeat' (first | exact hle | exact Heap.le_refl _ | assumption | (refine le_of_none hle ?_; assumption) | apply le_updN)
  clear hle
  rintro H1 x1 ⟨hle, l3, l6⟩ hx1
  have y13 : b3 ≠ x1 := ne_of_fresh hx1 l3
  have y16 : b6 ≠ x1 := ne_of_fresh hx1 l6
  have y16' := y16.symm
  have z1 : H x1 = none := le_of_none hle hx1
  simp (disch := first | omega | assumption | decide | (simp <;> omega) | fail) [facts, l3, l6, upd_ne, upd_upd]
  refine fresh_abs (fun H' => Heap.le H H' ∧ H' b3 = some (.row true 0 [.int .i64 n0, .int .i64 n1, .int .i64 n2, .int .i64 n3] 0) ∧ H' b6 = some (.row true 0 [.int .i64 d0, .int .i64 d1, .int .i64 0, .int .i64 0] 0)) ⟨?_, by simp [upd_ne, q36, q63, l3, l6, y13, y16], by simp [upd_ne, q36, q63, l3, l6, y13, y16]⟩ ?_
  · repeat' (first | exact hle | exact Heap.le_refl _ | assumption | (refine le_of_none hle ?_; assumption) | apply le_updN)
  clear hle
  rintro H2 x2 ⟨hle, l3, l6⟩ hx2
  have y23 : b3 ≠ x2 := ne_of_fresh hx2 l3
  have y26 : b6 ≠ x2 := ne_of_fresh hx2 l6
  have y26' := y26.symm
  have z2 : H x2 = none := le_of_none hle hx2
  simp (disch := first | omega | assumption | decide | (simp <;> omega) | fail) [facts, l3, l6, upd_ne, upd_upd]
  refine fresh_abs (fun H' => Heap.le H H' ∧ H' b3 = some (.row true 0 [.int .i64 n0, .int .i64 n1, .int .i64 n2, .int .i64 n3] 0) ∧ H' b6 = some (.row true 0 [.int .i64 d0, .int .i64 d1, .int .i64 d2, .int .i64 0] 0)) ⟨?_, by simp [upd_ne, q36, q63, l3, l6, y23, y26], by simp [upd_ne, q36, q63, l3, l6, y23, y26]⟩ ?_
  · repeat' (first | exact hle | exact Heap.le_refl _ | assumption | (refine le_of_none hle ?_; assumption) | apply le_updN)
  clear hle
  rintro H3 x3 ⟨hle, l3, l6⟩ hx3
  have y33 : b3 ≠ x3 := ne_of_fresh hx3 l3
  have y36 : b6 ≠ x3 := ne_of_fresh hx3 l6
  have y36' := y36.symm
  have z3 : H x3 = none := le_of_none hle hx3
  simp (disch := first | omega | assumption | decide | (simp <;> omega) | fail) [facts, l3, l6, upd_ne, upd_upd]
  refine (cw _).mono ?_
  rintro v H9 ⟨rfl, hle9⟩
  simp (disch := first | omega | assumption | decide | (simp <;> omega) | fail) [facts, ]
  refine ⟨_, Heap.le_refl _, Heap.le_trans ?_ hle9⟩
  repeat' (first | exact hle | exact Heap.le_refl _ | assumption | (refine le_of_none hle ?_; assumption) | apply le_updN)

theorem worthS_c (s : S4) (p : Nat) (H : Heap) (lp : H p = some (.row true 0 (flat s) 0)) (hs : OkS s) :
    ECalls Try.prog 16 #[.pointer (some ⟨p, 0, none⟩)] H fun v H' => v = worthV [s.a.g, s.b.g, s.c.g, s.e.g] [s.a.d, s.b.d, s.c.d, s.e.d] ∧ Heap.le H H' := by
  refine ecalls_of_ewp (args := [_]) Try.func16 rfl rfl rfl (by simp [Try.ntmps16]) (by kernel_rfl) ?_
  obtain ⟨⟨_, g0, _, _, e0⟩, ⟨_, g1, _, _, e1⟩, ⟨_, g2, _, _, e2⟩, ⟨_, g3, _, _, e3⟩⟩ := hs
  have cg := fun H lp => given_c s p H lp
  have cw := fun H => worthM_c s s.a.g s.b.g s.c.g s.e.g H (in4 (few_in g0) (few_in g1) (few_in g2) (few_in g3)) (in4 e0 e1 e2 e3)
  obtain ⟨R, Rb, hR⟩ : ∃ R Rb, worthV [s.a.g, s.b.g, s.c.g, s.e.g] [s.a.d, s.b.d, s.c.d, s.e.d] = .tuple #[.int .i64 R, .bool Rb] := by
    unfold worthV totV
    repeat' split
    all_goals exact ⟨_, _, rfl⟩
  rw [hR] at cw ⊢
  clear hR e0 e1 e2 e3 g0 g1 g2 g3
  have hfl : (flat s).length = 16 := rfl
  have htk : List.take 16 (flat s) = flat s := rfl
  unfold setV at cw
  generalize flat s = F at *
  simp (disch := first | omega | assumption | decide | (simp <;> omega) | fail) [facts, ]
  refine w_plan (P := Try.prog) (by simp [facts]) (opsP [0,1,2,4] (.both (opsP [3,5,6,7,8,9,10] .done) (opsP [5,3,6,7,8,9,10] .done))) ?_ ?_
  · decide +kernel
  simp (disch := first | omega | assumption | decide | (simp <;> omega) | fail) [facts, lp, hfl, htk]
  refine ⟨?_, ?_⟩
  all_goals
    refine (cg _ lp).mono ?_
    rintro v H2 ⟨rfl, hle2⟩
    have lp2 := hle2 _ _ lp
    try simp (disch := first | omega | assumption | decide | (simp <;> omega) | fail) [facts, lp2, hfl, htk]
    refine (cw _).mono ?_
    rintro v H3 ⟨rfl, hle3⟩
    simp (disch := first | omega | assumption | decide | (simp <;> omega) | fail) [facts, ]
    exact ⟨_, Heap.le_refl _, Heap.le_trans hle2 hle3⟩

theorem known_c (H : Heap) : ECalls Try.prog 6 #[] H fun v H' => v = .bool true ∧ Heap.le H H' := by
  refine ecalls_of_ewp (args := []) Try.func6 rfl rfl rfl (by simp [Try.ntmps6]) (by kernel_rfl) ?_
  have c1 := fun H => new_c ⟨⟨50, 3, 9, 0⟩, ⟨0, 0, 0, 0⟩, ⟨0, 0, 0, 0⟩, ⟨0, 0, 0, 0⟩⟩ H
  have ns : newS ⟨⟨50, 3, 9, 0⟩, ⟨0, 0, 0, 0⟩, ⟨0, 0, 0, 0⟩, ⟨0, 0, 0, 0⟩⟩ = ⟨⟨50, 3, 0, 0⟩, ⟨0, 0, 0, 0⟩, ⟨0, 0, 0, 0⟩, ⟨0, 0, 0, 0⟩⟩ := by unfold newS newC; rfl
  rw [ns] at c1
  have ok1 : OkS ⟨⟨50, 3, 0, 0⟩, ⟨0, 0, 0, 0⟩, ⟨0, 0, 0, 0⟩, ⟨0, 0, 0, 0⟩⟩ := by unfold OkS OkC; simp only; decide
  have ok2 : OkS ⟨⟨50, 3, 2, 1⟩, ⟨0, 0, 0, 0⟩, ⟨0, 0, 0, 0⟩, ⟨0, 0, 0, 0⟩⟩ := by unfold OkS OkC; simp only; decide
  have fit1 : fitS ⟨⟨50, 3, 0, 0⟩, ⟨0, 0, 0, 0⟩, ⟨0, 0, 0, 0⟩, ⟨0, 0, 0, 0⟩⟩ 2 0 0 0 1 0 0 0 := by decide
  have fit2 : ¬ fitS ⟨⟨50, 3, 2, 1⟩, ⟨0, 0, 0, 0⟩, ⟨0, 0, 0, 0⟩, ⟨0, 0, 0, 0⟩⟩ 1 0 0 0 0 0 0 0 := by decide
  have c2 := fun p H lp => give_c ⟨⟨50, 3, 0, 0⟩, ⟨0, 0, 0, 0⟩, ⟨0, 0, 0, 0⟩, ⟨0, 0, 0, 0⟩⟩ p 2 0 0 0 1 0 0 0 H lp ok1 (by decide) (by decide)
  have c3 := fun p H lp => give_c ⟨⟨50, 3, 2, 1⟩, ⟨0, 0, 0, 0⟩, ⟨0, 0, 0, 0⟩, ⟨0, 0, 0, 0⟩⟩ p 1 0 0 0 0 0 0 0 H lp ok2 (by decide) (by decide)
  have c4 := fun p H lp => give_c_bad ⟨⟨50, 3, 2, 1⟩, ⟨0, 0, 0, 0⟩, ⟨0, 0, 0, 0⟩, ⟨0, 0, 0, 0⟩⟩ p (-1) 0 0 0 0 0 0 0 H lp (by decide)
  have hadd : addS ⟨⟨50, 3, 0, 0⟩, ⟨0, 0, 0, 0⟩, ⟨0, 0, 0, 0⟩, ⟨0, 0, 0, 0⟩⟩ 2 0 0 0 1 0 0 0 = ⟨⟨50, 3, 2, 1⟩, ⟨0, 0, 0, 0⟩, ⟨0, 0, 0, 0⟩, ⟨0, 0, 0, 0⟩⟩ := rfl
  simp only [fit1, if_true, hadd] at c2
  simp only [fit2, if_false] at c3
  have c5 := fun p H lp => worthS_c ⟨⟨50, 3, 2, 1⟩, ⟨0, 0, 0, 0⟩, ⟨0, 0, 0, 0⟩, ⟨0, 0, 0, 0⟩⟩ p H lp ok2
  have w5 : worthV [2, 0, 0, 0] [50, 0, 0, 0] = .tuple #[.int .i64 100, .bool true] := by
    unfold worthV; rw [if_pos (by decide)]; exact totV_yes (by decide)
  simp only [w5] at c5
  have c6 := fun p H lp => given_c ⟨⟨50, 3, 2, 1⟩, ⟨0, 0, 0, 0⟩, ⟨0, 0, 0, 0⟩, ⟨0, 0, 0, 0⟩⟩ p H lp
  have c7 := fun p H lp => rejected_c ⟨⟨50, 3, 2, 1⟩, ⟨0, 0, 0, 0⟩, ⟨0, 0, 0, 0⟩, ⟨0, 0, 0, 0⟩⟩ p H lp
  have c8 := fun p H lp => all_c ⟨⟨50, 3, 2, 1⟩, ⟨0, 0, 0, 0⟩, ⟨0, 0, 0, 0⟩, ⟨0, 0, 0, 0⟩⟩ p H lp
  simp only [setV, notesV, flat] at c1 c2 c3 c4 c5 c6 c7 c8
  clear ns ok1 ok2 fit1 fit2 hadd w5
  simp (disch := first | omega | assumption | decide | (simp <;> omega) | fail) [facts, ]
  refine (c1 _).mono ?_
  rintro v H1 ⟨p, rfl, hp, lp, hle⟩
  simp (disch := first | omega | assumption | decide | (simp <;> omega) | fail) [facts, ]
  refine (c2 p _ lp).mono ?_
  clear lp
  rintro v H2 ⟨rfl, hle2, lp⟩
  replace hle := Heap.le_trans (le_deleN hle hp) hle2
  simp (disch := first | omega | assumption | decide | (simp <;> omega) | fail) [facts, ]
  refine (c3 p _ lp).mono ?_
  clear lp
  rintro v H3 ⟨rfl, hle3, lp⟩
  replace hle := Heap.le_trans (le_deleN hle hp) hle3
  simp (disch := first | omega | assumption | decide | (simp <;> omega) | fail) [facts, ]
  refine (c4 p _ lp).mono ?_
  rintro v H4 ⟨rfl, hle4⟩
  replace lp := hle4 _ _ lp
  replace hle := Heap.le_trans hle hle4
  simp (disch := first | omega | assumption | decide | (simp <;> omega) | fail) [facts, ]
  refine (c5 p _ lp).mono ?_
  rintro v H5 ⟨rfl, hle5⟩
  replace lp := hle5 _ _ lp
  replace hle := Heap.le_trans hle hle5
  simp (disch := first | omega | assumption | decide | (simp <;> omega) | fail) [facts, ]
  refine (c6 p _ lp).mono ?_
  rintro v H6 ⟨rfl, hle6⟩
  replace lp := hle6 _ _ lp
  replace hle := Heap.le_trans hle hle6
  simp (disch := first | omega | assumption | decide | (simp <;> omega) | fail) [facts, ]
  refine (c7 p _ lp).mono ?_
  rintro v H7 ⟨rfl, hle7⟩
  replace lp := hle7 _ _ lp
  replace hle := Heap.le_trans hle hle7
  simp (disch := first | omega | assumption | decide | (simp <;> omega) | fail) [facts, ]
  refine (c8 p _ lp).mono ?_
  rintro v H8 ⟨rfl, hle8⟩
  simp (disch := first | omega | assumption | decide | (simp <;> omega) | fail) [facts, ]
  exact ⟨_, Heap.le_refl _, Heap.le_trans hle hle8⟩

end Go.Proofs.Ytgeocnggfgpmoaa.GL
