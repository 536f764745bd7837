/- Layer 18: the reference's set of cassettes. -/
import Derived.Test.YtgeocnggfgpmoaaCaG
namespace Go.Proofs.Ytgeocnggfgpmoaa.GL
open Go Go.RowKit
set_option maxRecDepth 10000
set_option pp.deepTerms.threshold 8
set_option pp.maxSteps 3000
set_option linter.unusedSimpArgs false
set_option linter.unusedVariables false

theorem count_c (z : Int) (H : Heap) : ECalls Try.prog 29 #[.int .i64 z] H fun v H' => v = .bool (decide (fewIn z)) ∧ H' = H := by
  refine ecalls_of_ewp (args := [_]) Try.func29 rfl rfl rfl (by simp [Try.ntmps29]) (by kernel_rfl) ?_
  by_cases h1 : 0 ≤ z
  · by_cases h2 : z ≤ 10000
    · simp (disch := first | omega | assumption | decide | (simp <;> omega) | fail) [facts, h1, h2, show fewIn z from ⟨h1, h2⟩]
    · simp (disch := first | omega | assumption | decide | (simp <;> omega) | fail) [facts, h1, h2, show ¬ fewIn z from fun h => h2 h.2]
  · simp (disch := first | omega | assumption | decide | (simp <;> omega) | fail) [facts, h1, show ¬ fewIn z from fun h => h1 h.1]
theorem leftR_c (d l g r : Int) (H : Heap) : ECalls Try.prog 26 #[cassV d l g r] H fun v H' => v = .int .i64 (leftZ l g r) ∧ Heap.le H H' := by
  refine ecalls_of_ewp (args := [_]) Try.func26 rfl rfl rfl (by simp [Try.ntmps26]) (by kernel_rfl) ?_
  unfold cassV leftZ
  simp (disch := first | omega | assumption | decide | (simp <;> omega) | fail) [facts, ]
  refine fresh_intro fun b1 hb1 => ?_
  have hle := le_upd (.row true 0 [.int .i64 d, .int .i64 l, .int .i64 g, .int .i64 r] 0) hb1
  have l1 := upd_same H b1 (.row true 0 [.int .i64 d, .int .i64 l, .int .i64 g, .int .i64 r] 0)
  generalize upd H b1 (.row true 0 [.int .i64 d, .int .i64 l, .int .i64 g, .int .i64 r] 0) = H1 at *
  simp (disch := first | omega | assumption | decide | (simp <;> omega) | fail) [facts, l1]
  refine (count_c l _).mono ?_
  rintro v H2 ⟨rfl, rfl⟩
  by_cases hl : fewIn l
  · simp (disch := first | omega | assumption | decide | (simp <;> omega) | fail) [facts, l1, hl]
    refine (count_c g _).mono ?_
    rintro v H2 ⟨rfl, rfl⟩
    by_cases hg : fewIn g
    · simp (disch := first | omega | assumption | decide | (simp <;> omega) | fail) [facts, l1, hg]
      refine (count_c r _).mono ?_
      rintro v H2 ⟨rfl, rfl⟩
      by_cases hr : fewIn r
      · have hl' := hl
        have hg' := hg
        have hr' := hr
        unfold fewIn at hl' hg' hr'
        simp (disch := first | omega | assumption | decide | (simp <;> omega) | fail) [facts, l1, hr]
        exact ⟨_, Heap.le_refl _, hle⟩
      · simp (disch := first | omega | assumption | decide | (simp <;> omega) | fail) [facts, l1, hr]
        exact ⟨_, Heap.le_refl _, hle⟩
    · simp (disch := first | omega | assumption | decide | (simp <;> omega) | fail) [facts, l1, hg]
      exact ⟨_, Heap.le_refl _, hle⟩
  · simp (disch := first | omega | assumption | decide | (simp <;> omega) | fail) [facts, l1, hl]
    exact ⟨_, Heap.le_refl _, hle⟩

set_option maxHeartbeats 400000 in
theorem newR_c (s : S4) (H : Heap) : ECalls Try.prog 12 #[setV s] H fun v H' => ∃ p, v = .pointer (some ⟨p, 0, none⟩) ∧ H p = none ∧ H' p = some (.row true 0 (flat (newS s)) 0) ∧ Heap.le H H' := by
  refine ecalls_of_ewp (args := [_]) Try.func12 rfl rfl rfl (by simp [Try.ntmps12]) (by kernel_rfl) ?_
  obtain ⟨⟨d0, l0, g0, r0⟩, ⟨d1, l1, g1, r1⟩, ⟨d2, l2, g2, r2⟩, ⟨d3, l3, g3, r3⟩⟩ := s
  simp only [setV, flat, newS, newC]
  simp (disch := first | omega | assumption | decide | (simp <;> omega) | fail) [facts, ]
  refine fresh_intro fun b1 hb1 => ?_
  simp (disch := first | omega | assumption | decide | (simp <;> omega) | fail) [facts, ]
  refine fresh_intro fun p hp => ?_
  have q1 : b1 ≠ p := ne_of_fresh hp (upd_same _ _ _)
  have hpn : H p = none := le_of_none (le_upd _ hb1) hp
  simp (disch := first | omega | assumption | decide | (simp <;> omega) | fail) [facts, upd_ne]
  refine w_unroll 5 ?_
  simp (disch := first | omega | assumption | decide | (simp <;> omega) | fail) [facts, upd_ne]
  have hle := Heap.le_refl H
  refine w_plan (P := Try.prog) (by simp [facts]) (opsP [0,1,2,3,4,5,6,7,8,9,10,11,12,13,14,15,16] .done) ?_ ?_
  · decide +kernel
  simp (disch := first | omega | assumption | decide | (simp <;> omega) | fail) [facts, upd_ne, upd_upd]
  refine w_plan (P := Try.prog) (by simp [facts]) (opsP [0,1,2,3,4,5,6,7,8,9,10,11,12,13,14,15,16] .done) ?_ ?_
  · decide +kernel
  simp (disch := first | omega | assumption | decide | (simp <;> omega) | fail) [facts, upd_ne, upd_upd]
  refine w_plan (P := Try.prog) (by simp [facts]) (opsP [0,1,2,3,4,5,6,7,8,9,10,11,12,13,14,15,16] .done) ?_ ?_
  · decide +kernel
  simp (disch := first | omega | assumption | decide | (simp <;> omega) | fail) [facts, upd_ne, upd_upd]
  refine w_plan (P := Try.prog) (by simp [facts]) (opsP [0,1,2,3,4,5,6,7,8,9,10,11,12,13,14,15,16] .done) ?_ ?_
  · decide +kernel
  simp (disch := first | omega | assumption | decide | (simp <;> omega) | fail) [facts, upd_ne, upd_upd]
  refine ⟨_, Heap.le_refl _, hpn, by simp, ?_⟩
  repeat' (first | exact hle | exact Heap.le_refl _ | assumption | (refine le_of_none hle ?_; assumption) | apply le_updN)

set_option maxHeartbeats 400000 in
theorem givenR_c (s : S4) (p : Nat) (H : Heap) (lp : H p = some (.row true 0 (flat s) 0)) : ECalls Try.prog 19 #[.pointer (some ⟨p, 0, none⟩)] H fun v H' => v = notesV s.a.g s.b.g s.c.g s.e.g ∧ Heap.le H H' := by
  refine ecalls_of_ewp (args := [_]) Try.func19 rfl rfl rfl (by simp [Try.ntmps19]) (by kernel_rfl) ?_
  obtain ⟨⟨d0, l0, g0, r0⟩, ⟨d1, l1, g1, r1⟩, ⟨d2, l2, g2, r2⟩, ⟨d3, l3, g3, r3⟩⟩ := s
  simp only [notesV, flat] at lp ⊢
  simp (disch := first | omega | assumption | decide | (simp <;> omega) | fail) [facts, ]
  refine fresh_intro fun b2 hb2 => ?_
  simp (disch := first | omega | assumption | decide | (simp <;> omega) | fail) [facts, ]
  refine fresh_intro fun b3 hb3 => ?_
  have q2 : p ≠ b2 := ne_of_fresh hb2 lp
  have q23 : b2 ≠ b3 := ne_of_fresh hb3 (upd_same _ _ _)
  have q3 : p ≠ b3 := ne_of_fresh hb3 (by rw [upd_ne _ _ q2]; exact lp)
  have q32 := q23.symm
  have hb3' : H b3 = none := le_of_none (le_upd _ hb2) hb3
  simp (disch := first | omega | assumption | decide | (simp <;> omega) | fail) [facts, lp, upd_ne]
  refine w_unroll 5 ?_
  simp (disch := first | omega | assumption | decide | (simp <;> omega) | fail) [facts, lp, upd_ne, upd_upd]
  have hle := Heap.le_refl H
  refine ⟨_, Heap.le_refl _, ?_⟩
  repeat' (first | exact hle | exact Heap.le_refl _ | assumption | (refine le_of_none hle ?_; assumption) | apply le_updN)

set_option maxHeartbeats 400000 in
theorem rejectedR_c (s : S4) (p : Nat) (H : Heap) (lp : H p = some (.row true 0 (flat s) 0)) : ECalls Try.prog 21 #[.pointer (some ⟨p, 0, none⟩)] H fun v H' => v = notesV s.a.r s.b.r s.c.r s.e.r ∧ Heap.le H H' := by
  refine ecalls_of_ewp (args := [_]) Try.func21 rfl rfl rfl (by simp [Try.ntmps21]) (by kernel_rfl) ?_
  obtain ⟨⟨d0, l0, g0, r0⟩, ⟨d1, l1, g1, r1⟩, ⟨d2, l2, g2, r2⟩, ⟨d3, l3, g3, r3⟩⟩ := s
  simp only [notesV, flat] at lp ⊢
  simp (disch := first | omega | assumption | decide | (simp <;> omega) | fail) [facts, ]
  refine fresh_intro fun b2 hb2 => ?_
  simp (disch := first | omega | assumption | decide | (simp <;> omega) | fail) [facts, ]
  refine fresh_intro fun b3 hb3 => ?_
  have q2 : p ≠ b2 := ne_of_fresh hb2 lp
  have q23 : b2 ≠ b3 := ne_of_fresh hb3 (upd_same _ _ _)
  have q3 : p ≠ b3 := ne_of_fresh hb3 (by rw [upd_ne _ _ q2]; exact lp)
  have q32 := q23.symm
  have hb3' : H b3 = none := le_of_none (le_upd _ hb2) hb3
  simp (disch := first | omega | assumption | decide | (simp <;> omega) | fail) [facts, lp, upd_ne]
  refine w_unroll 5 ?_
  simp (disch := first | omega | assumption | decide | (simp <;> omega) | fail) [facts, lp, upd_ne, upd_upd]
  have hle := Heap.le_refl H
  refine ⟨_, Heap.le_refl _, ?_⟩
  repeat' (first | exact hle | exact Heap.le_refl _ | assumption | (refine le_of_none hle ?_; assumption) | apply le_updN)

set_option maxHeartbeats 400000 in
theorem loadR_c (s : S4) (p : Nat) (n0 n1 n2 n3 : Int) (H : Heap) (lp : H p = some (.row true 0 (flat s) 0)) : ECalls Try.prog 14 #[.pointer (some ⟨p, 0, none⟩), notesV n0 n1 n2 n3] H fun v H' => v = .int .i64 (if fourIn n0 n1 n2 n3 then 0 else 20) ∧ Heap.le (dele H p) H' ∧ H' p = some (.row true 0 (flat (if fourIn n0 n1 n2 n3 then loadS s n0 n1 n2 n3 else s)) 0) := by
  refine ecalls_of_ewp (args := [_, _]) Try.func14 rfl rfl rfl (by simp [Try.ntmps14]) (by kernel_rfl) ?_
  have cr := fun H => few_c n0 n1 n2 n3 H
  by_cases hf : fourIn n0 n1 n2 n3
  · rw [if_pos hf, if_pos hf]
    simp only [hf, decide_true] at cr
    obtain ⟨⟨d0, l0, g0, r0⟩, ⟨d1, l1, g1, r1⟩, ⟨d2, l2, g2, r2⟩, ⟨d3, l3, g3, r3⟩⟩ := s
    simp only [notesV, flat, loadS] at lp cr ⊢
    simp (disch := first | omega | assumption | decide | (simp <;> omega) | fail) [facts, ]
    refine fresh_intro fun b3 hb3 => ?_
    have q : p ≠ b3 := ne_of_fresh hb3 lp
    have q' := q.symm
    simp (disch := first | omega | assumption | decide | (simp <;> omega) | fail) [facts, upd_ne]
    refine (cr _).mono ?_
    rintro v H2 ⟨rfl, hle2⟩
    have l3 := hle2 _ _ (upd_same _ _ _)
    have hle : Heap.le (dele H p) H2 := le_dele p (Heap.le_trans (le_upd _ hb3) hle2)
    replace lp := hle2 _ _ (upd_other hb3 lp)
    have hpn := dele_none (H := H) p
    simp (disch := first | omega | assumption | decide | (simp <;> omega) | fail) [facts, l3, lp, upd_ne]
    refine w_unroll 5 ?_
    simp (disch := first | omega | assumption | decide | (simp <;> omega) | fail) [facts, l3, lp, upd_ne]
    refine w_plan (P := Try.prog) (by simp [facts]) (opsP [0,1,2,3,4,5,6,7,8,9,10,11,12,14,15,19,20,13,16,17,18,21,22,23] .done) ?_ ?_
    · decide +kernel
    simp (disch := first | omega | assumption | decide | (simp <;> omega) | fail) [facts, l3, lp, upd_ne, upd_upd]
    refine w_plan (P := Try.prog) (by simp [facts]) (opsP [0,1,2,3,4,5,6,7,8,9,10,11,12,14,15,19,20,13,16,17,18,21,22,23] .done) ?_ ?_
    · decide +kernel
    simp (disch := first | omega | assumption | decide | (simp <;> omega) | fail) [facts, l3, lp, upd_ne, upd_upd]
    refine w_plan (P := Try.prog) (by simp [facts]) (opsP [0,1,2,3,4,5,6,7,8,9,10,11,12,14,15,19,20,13,16,17,18,21,22,23] .done) ?_ ?_
    · decide +kernel
    simp (disch := first | omega | assumption | decide | (simp <;> omega) | fail) [facts, l3, lp, upd_ne, upd_upd]
    refine w_plan (P := Try.prog) (by simp [facts]) (opsP [0,1,2,3,4,5,6,7,8,9,10,11,12,14,15,19,20,13,16,17,18,21,22,23] .done) ?_ ?_
    · decide +kernel
    simp (disch := first | omega | assumption | decide | (simp <;> omega) | fail) [facts, l3, lp, upd_ne, upd_upd]
    refine ⟨_, Heap.le_refl _, ?_, by simp⟩
    repeat' (first | exact hle | exact Heap.le_refl _ | assumption | (refine le_of_none hle ?_; assumption) | apply le_updN)
  · rw [if_neg hf, if_neg hf]
    simp only [hf, decide_false] at cr
    simp only [notesV] at cr ⊢
    simp (disch := first | omega | assumption | decide | (simp <;> omega) | fail) [facts, ]
    refine fresh_intro fun b3 hb3 => ?_
    simp (disch := first | omega | assumption | decide | (simp <;> omega) | fail) [facts, ]
    refine (cr _).mono ?_
    rintro v H2 ⟨rfl, hle2⟩
    simp (disch := first | omega | assumption | decide | (simp <;> omega) | fail) [facts, ]
    exact ⟨_, Heap.le_refl _, le_dele p (Heap.le_trans (le_upd _ hb3) hle2), hle2 _ _ (upd_other hb3 lp)⟩

theorem giveR_c_bad (s : S4) (p : Nat) (n0 n1 n2 n3 r0 r1 r2 r3 : Int) (H : Heap) (lp : H p = some (.row true 0 (flat s) 0)) (hb : ¬ (fourIn n0 n1 n2 n3 ∧ fourIn r0 r1 r2 r3)) :
    ECalls Try.prog 15 #[.pointer (some ⟨p, 0, none⟩), notesV n0 n1 n2 n3, notesV r0 r1 r2 r3] H fun v H' => v = .int .i64 20 ∧ Heap.le H H' := by
  refine ecalls_of_ewp (args := [_, _, _]) Try.func15 rfl rfl rfl (by simp [Try.ntmps15]) (by kernel_rfl) ?_
  have cn := fun H => few_c n0 n1 n2 n3 H
  have cr := fun H => few_c r0 r1 r2 r3 H
  simp only [notesV] at cn cr ⊢
  simp (disch := first | omega | assumption | decide | (simp <;> omega) | fail) [facts, ]
  refine fresh_intro fun b4 hb4 => ?_
  simp (disch := first | omega | assumption | decide | (simp <;> omega) | fail) [facts, ]
  refine fresh_intro fun b5 hb5 => ?_
  have q45 : b4 ≠ b5 := ne_of_fresh hb5 (upd_same _ _ _)
  simp (disch := first | omega | assumption | decide | (simp <;> omega) | fail) [facts, upd_ne]
  refine (cn _).mono ?_
  rintro v H2 ⟨rfl, hle2⟩
  have hle := Heap.le_trans (le_upd _ hb4) (Heap.le_trans (le_upd _ hb5) hle2)
  have l5 := hle2 _ _ (upd_same _ _ _)
  by_cases hn : fourIn n0 n1 n2 n3
  · have hr : ¬ fourIn r0 r1 r2 r3 := fun h => hb ⟨hn, h⟩
    simp only [hr, decide_false] at cr
    simp (disch := first | omega | assumption | decide | (simp <;> omega) | fail) [facts, hn, l5]
    refine (cr _).mono ?_
    rintro v H3 ⟨rfl, hle3⟩
    simp (disch := first | omega | assumption | decide | (simp <;> omega) | fail) [facts, ]
    exact ⟨_, Heap.le_refl _, Heap.le_trans hle hle3⟩
  · simp (disch := first | omega | assumption | decide | (simp <;> omega) | fail) [facts, hn]
    exact ⟨_, Heap.le_refl _, hle⟩
set_option maxHeartbeats 1600000 in
theorem giveR_c (s : S4) (p : Nat) (n0 n1 n2 n3 r0 r1 r2 r3 : Int) (H : Heap) (lp : H p = some (.row true 0 (flat s) 0)) (hs : OkS s) (hn : fourIn n0 n1 n2 n3) (hr : fourIn r0 r1 r2 r3) :
    ECalls Try.prog 15 #[.pointer (some ⟨p, 0, none⟩), notesV n0 n1 n2 n3, notesV r0 r1 r2 r3] H fun v H' => v = .int .i64 (if fitS s n0 n1 n2 n3 r0 r1 r2 r3 then 0 else 25) ∧ Heap.le (dele H p) H' ∧ H' p = some (.row true 0 (flat (if fitS s n0 n1 n2 n3 r0 r1 r2 r3 then addS s n0 n1 n2 n3 r0 r1 r2 r3 else s)) 0) := by
  refine ecalls_of_ewp (args := [_, _, _]) Try.func15 rfl rfl rfl (by simp [Try.ntmps15]) (by kernel_rfl) ?_
  have cn := fun H => few_c n0 n1 n2 n3 H
  have cr := fun H => few_c r0 r1 r2 r3 H
  have cl := fun d l g r H => leftR_c d l g r H
  simp only [hn, decide_true] at cn
  simp only [hr, decide_true] at cr
  obtain ⟨⟨d0, l0, g0, rr0⟩, ⟨d1, l1, g1, rr1⟩, ⟨d2, l2, g2, rr2⟩, ⟨d3, l3, g3, rr3⟩⟩ := s
  obtain ⟨⟨ol0, og0, or0, oe0, _⟩, ⟨ol1, og1, or1, oe1, _⟩, ⟨ol2, og2, or2, oe2, _⟩, ⟨ol3, og3, or3, oe3, _⟩⟩ := hs
  obtain ⟨fn0, fn1, fn2, fn3⟩ := hn
  obtain ⟨fr0, fr1, fr2, fr3⟩ := hr
  unfold fewIn at fn0 fn1 fn2 fn3 fr0 fr1 fr2 fr3 ol0 og0 or0 ol1 og1 or1 ol2 og2 or2 ol3 og3 or3
  simp only at ol0 og0 or0 oe0 ol1 og1 or1 oe1 ol2 og2 or2 oe2 ol3 og3 or3 oe3
  simp only [notesV, cassV, flat] at lp cn cr cl ⊢
  obtain ⟨E, hE⟩ : ∃ E : Int, E = if fitS ⟨⟨d0, l0, g0, rr0⟩, ⟨d1, l1, g1, rr1⟩, ⟨d2, l2, g2, rr2⟩, ⟨d3, l3, g3, rr3⟩⟩ n0 n1 n2 n3 r0 r1 r2 r3 then 0 else 25 := ⟨_, rfl⟩
  simp (disch := first | omega | assumption | decide | (simp <;> omega) | fail) [facts, ]
  refine fresh_intro fun b4 hb4 => ?_
  simp (disch := first | omega | assumption | decide | (simp <;> omega) | fail) [facts, ]
  refine fresh_intro fun b5 hb5 => ?_
  have q4 : p ≠ b4 := ne_of_fresh hb4 lp
  have q45 : b4 ≠ b5 := ne_of_fresh hb5 (upd_same _ _ _)
  have q5 : p ≠ b5 := ne_of_fresh hb5 (by rw [upd_ne _ _ q4]; exact lp)
  have q4' := q4.symm
  have q5' := q5.symm
  simp (disch := first | omega | assumption | decide | (simp <;> omega) | fail) [facts, upd_ne]
  refine (cn _).mono ?_
  rintro v H2 ⟨rfl, hle2⟩
  have hle : Heap.le (dele H p) H2 := le_dele p (Heap.le_trans (le_upd _ hb4) (Heap.le_trans (le_upd _ hb5) hle2))
  have l5 := hle2 _ _ (upd_same _ _ _)
  have l4 := hle2 _ _ (upd_other hb5 (upd_same _ _ _))
  replace lp := hle2 _ _ (upd_other hb5 (upd_other hb4 lp))
  simp (disch := first | omega | assumption | decide | (simp <;> omega) | fail) [facts, l4, l5, lp]
  refine (cr _).mono ?_
  rintro v H3 ⟨rfl, hle3⟩
  replace hle := Heap.le_trans hle hle3
  replace l4 := hle3 _ _ l4
  replace l5 := hle3 _ _ l5
  replace lp := hle3 _ _ lp
  have hpn := dele_none (H := H) p
  have h4n : dele H p b4 = none := by rw [dele_ne _ q4']; exact hb4
  simp (disch := first | omega | assumption | decide | (simp <;> omega) | fail) [facts, l4, l5, lp]
  refine w_unroll 5 ?_
  simp (disch := first | omega | assumption | decide | (simp <;> omega) | fail) [facts, l4, l5, lp]
  refine w_cut (fun s => s.env 0 = .pointer (some ⟨p, 0, none⟩) ∧ s.env 4 = .pointer (some ⟨b4, 0, none⟩) ∧ s.env 5 = .pointer (some ⟨b5, 0, none⟩) ∧ s.env 7 = .int .i64 0 ∧ s.env 35 = .bool (decide (leftZ l0 g0 rr0 < n0 + r0)) ∧ Heap.le (dele H p) s.heap ∧ s.heap p = some (.row true 0 [.int .i64 d0, .int .i64 l0, .int .i64 g0, .int .i64 rr0, .int .i64 d1, .int .i64 l1, .int .i64 g1, .int .i64 rr1, .int .i64 d2, .int .i64 l2, .int .i64 g2, .int .i64 rr2, .int .i64 d3, .int .i64 l3, .int .i64 g3, .int .i64 rr3] 0) ∧ s.heap b4 = some (.row true 0 [.int .i64 n0, .int .i64 n1, .int .i64 n2, .int .i64 n3] 0) ∧ s.heap b5 = some (.row true 0 [.int .i64 r0, .int .i64 r1, .int .i64 r2, .int .i64 r3] 0)) ?_ ?_
  · refine w_plan (P := Try.prog) (by simp [facts]) (opsP [0,1,3,4,7,8,9,10,11,12] (.both (opsP [2] (.both (opsP [5,6,13,14] .done) (opsP [13,5,6,14] .done))) (.both (opsP [5] (.both (opsP [2,6,13,14] .done) (opsP [13,2,6,14] .done))) (opsP [13] (.both (opsP [2,5,6,14] .done) (opsP [5,2,6,14] .done)))))) ?_ ?_
    · decide +kernel
    simp (disch := first | omega | assumption | decide | (simp <;> omega) | fail) [facts, lp, l4, l5, upd_ne, upd_upd]
    try (repeat' apply And.intro)
    all_goals
      refine (cl d0 l0 g0 rr0 _).mono ?_
      rintro v G ⟨rfl, hleG⟩
      
      have m4 := hleG _ _ l4
      have m5 := hleG _ _ l5
      have mp := hleG _ _ lp
      simp (disch := first | omega | assumption | decide | (simp <;> omega) | fail) [facts, m4, m5, mp]
      exact Heap.le_trans hle hleG
  clear hle lp l4 l5
  rintro ⟨e, J0⟩ ⟨e0, e4, e5, e7, e35, hle, lp, l4, l5⟩
  simp only at e0 e4 e5 e7 e35 hle lp l4 l5
  by_cases f0 : leftZ l0 g0 rr0 < n0 + r0
  · have hno : ¬ fitS ⟨⟨d0, l0, g0, rr0⟩, ⟨d1, l1, g1, rr1⟩, ⟨d2, l2, g2, rr2⟩, ⟨d3, l3, g3, rr3⟩⟩ n0 n1 n2 n3 r0 r1 r2 r3 := fun h => by
      have := h.1; unfold fitC at this; simp only at this; omega
    simp (disch := first | omega | assumption | decide | (simp <;> omega) | fail) [facts, e0, e4, e5, e7, e35, f0, hno, lp]
    exact ⟨_, Heap.le_refl _, hle, lp⟩
  simp (disch := first | omega | assumption | decide | (simp <;> omega) | fail) [facts, e0, e4, e5, e7, e35, f0]
  refine w_cut (fun s => s.env 0 = .pointer (some ⟨p, 0, none⟩) ∧ s.env 4 = .pointer (some ⟨b4, 0, none⟩) ∧ s.env 5 = .pointer (some ⟨b5, 0, none⟩) ∧ s.env 7 = .int .i64 1 ∧ s.env 35 = .bool (decide (leftZ l1 g1 rr1 < n1 + r1)) ∧ Heap.le (dele H p) s.heap ∧ s.heap p = some (.row true 0 [.int .i64 d0, .int .i64 l0, .int .i64 g0, .int .i64 rr0, .int .i64 d1, .int .i64 l1, .int .i64 g1, .int .i64 rr1, .int .i64 d2, .int .i64 l2, .int .i64 g2, .int .i64 rr2, .int .i64 d3, .int .i64 l3, .int .i64 g3, .int .i64 rr3] 0) ∧ s.heap b4 = some (.row true 0 [.int .i64 n0, .int .i64 n1, .int .i64 n2, .int .i64 n3] 0) ∧ s.heap b5 = some (.row true 0 [.int .i64 r0, .int .i64 r1, .int .i64 r2, .int .i64 r3] 0)) ?_ ?_
  · refine w_plan (P := Try.prog) (by simp [facts]) (opsP [0,1,3,4,7,8,9,10,11,12] (.both (opsP [2] (.both (opsP [5,6,13,14] .done) (opsP [13,5,6,14] .done))) (.both (opsP [5] (.both (opsP [2,6,13,14] .done) (opsP [13,2,6,14] .done))) (opsP [13] (.both (opsP [2,5,6,14] .done) (opsP [5,2,6,14] .done)))))) ?_ ?_
    · decide +kernel
    simp (disch := first | omega | assumption | decide | (simp <;> omega) | fail) [facts, e0, e4, e5, e7, lp, l4, l5, upd_ne, upd_upd]
    try (repeat' apply And.intro)
    all_goals
      refine (cl d1 l1 g1 rr1 _).mono ?_
      rintro v G ⟨rfl, hleG⟩
      
      have m4 := hleG _ _ l4
      have m5 := hleG _ _ l5
      have mp := hleG _ _ lp
      simp (disch := first | omega | assumption | decide | (simp <;> omega) | fail) [facts, e0, e4, e5, e7, m4, m5, mp]
      exact Heap.le_trans hle hleG
  clear hle lp l4 l5
  rintro ⟨e, J1⟩ ⟨e0, e4, e5, e7, e35, hle, lp, l4, l5⟩
  simp only at e0 e4 e5 e7 e35 hle lp l4 l5
  by_cases f1 : leftZ l1 g1 rr1 < n1 + r1
  · have hno : ¬ fitS ⟨⟨d0, l0, g0, rr0⟩, ⟨d1, l1, g1, rr1⟩, ⟨d2, l2, g2, rr2⟩, ⟨d3, l3, g3, rr3⟩⟩ n0 n1 n2 n3 r0 r1 r2 r3 := fun h => by
      have := h.2.1; unfold fitC at this; simp only at this; omega
    simp (disch := first | omega | assumption | decide | (simp <;> omega) | fail) [facts, e0, e4, e5, e7, e35, f1, hno, lp]
    exact ⟨_, Heap.le_refl _, hle, lp⟩
  simp (disch := first | omega | assumption | decide | (simp <;> omega) | fail) [facts, e0, e4, e5, e7, e35, f1]
  refine w_cut (fun s => s.env 0 = .pointer (some ⟨p, 0, none⟩) ∧ s.env 4 = .pointer (some ⟨b4, 0, none⟩) ∧ s.env 5 = .pointer (some ⟨b5, 0, none⟩) ∧ s.env 7 = .int .i64 2 ∧ s.env 35 = .bool (decide (leftZ l2 g2 rr2 < n2 + r2)) ∧ Heap.le (dele H p) s.heap ∧ s.heap p = some (.row true 0 [.int .i64 d0, .int .i64 l0, .int .i64 g0, .int .i64 rr0, .int .i64 d1, .int .i64 l1, .int .i64 g1, .int .i64 rr1, .int .i64 d2, .int .i64 l2, .int .i64 g2, .int .i64 rr2, .int .i64 d3, .int .i64 l3, .int .i64 g3, .int .i64 rr3] 0) ∧ s.heap b4 = some (.row true 0 [.int .i64 n0, .int .i64 n1, .int .i64 n2, .int .i64 n3] 0) ∧ s.heap b5 = some (.row true 0 [.int .i64 r0, .int .i64 r1, .int .i64 r2, .int .i64 r3] 0)) ?_ ?_
  · refine w_plan (P := Try.prog) (by simp [facts]) (opsP [0,1,3,4,7,8,9,10,11,12] (.both (opsP [2] (.both (opsP [5,6,13,14] .done) (opsP [13,5,6,14] .done))) (.both (opsP [5] (.both (opsP [2,6,13,14] .done) (opsP [13,2,6,14] .done))) (opsP [13] (.both (opsP [2,5,6,14] .done) (opsP [5,2,6,14] .done)))))) ?_ ?_
    · decide +kernel
    simp (disch := first | omega | assumption | decide | (simp <;> omega) | fail) [facts, e0, e4, e5, e7, lp, l4, l5, upd_ne, upd_upd]
    try (repeat' apply And.intro)
    all_goals
      refine (cl d2 l2 g2 rr2 _).mono ?_
      rintro v G ⟨rfl, hleG⟩
      
      have m4 := hleG _ _ l4
      have m5 := hleG _ _ l5
      have mp := hleG _ _ lp
      simp (disch := first | omega | assumption | decide | (simp <;> omega) | fail) [facts, e0, e4, e5, e7, m4, m5, mp]
      exact Heap.le_trans hle hleG
  clear hle lp l4 l5
  rintro ⟨e, J2⟩ ⟨e0, e4, e5, e7, e35, hle, lp, l4, l5⟩
  simp only at e0 e4 e5 e7 e35 hle lp l4 l5
  by_cases f2 : leftZ l2 g2 rr2 < n2 + r2
  · have hno : ¬ fitS ⟨⟨d0, l0, g0, rr0⟩, ⟨d1, l1, g1, rr1⟩, ⟨d2, l2, g2, rr2⟩, ⟨d3, l3, g3, rr3⟩⟩ n0 n1 n2 n3 r0 r1 r2 r3 := fun h => by
      have := h.2.2.1; unfold fitC at this; simp only at this; omega
    simp (disch := first | omega | assumption | decide | (simp <;> omega) | fail) [facts, e0, e4, e5, e7, e35, f2, hno, lp]
    exact ⟨_, Heap.le_refl _, hle, lp⟩
  simp (disch := first | omega | assumption | decide | (simp <;> omega) | fail) [facts, e0, e4, e5, e7, e35, f2]
  refine w_cut (fun s => s.env 0 = .pointer (some ⟨p, 0, none⟩) ∧ s.env 4 = .pointer (some ⟨b4, 0, none⟩) ∧ s.env 5 = .pointer (some ⟨b5, 0, none⟩) ∧ s.env 7 = .int .i64 3 ∧ s.env 35 = .bool (decide (leftZ l3 g3 rr3 < n3 + r3)) ∧ Heap.le (dele H p) s.heap ∧ s.heap p = some (.row true 0 [.int .i64 d0, .int .i64 l0, .int .i64 g0, .int .i64 rr0, .int .i64 d1, .int .i64 l1, .int .i64 g1, .int .i64 rr1, .int .i64 d2, .int .i64 l2, .int .i64 g2, .int .i64 rr2, .int .i64 d3, .int .i64 l3, .int .i64 g3, .int .i64 rr3] 0) ∧ s.heap b4 = some (.row true 0 [.int .i64 n0, .int .i64 n1, .int .i64 n2, .int .i64 n3] 0) ∧ s.heap b5 = some (.row true 0 [.int .i64 r0, .int .i64 r1, .int .i64 r2, .int .i64 r3] 0)) ?_ ?_
  · refine w_plan (P := Try.prog) (by simp [facts]) (opsP [0,1,3,4,7,8,9,10,11,12] (.both (opsP [2] (.both (opsP [5,6,13,14] .done) (opsP [13,5,6,14] .done))) (.both (opsP [5] (.both (opsP [2,6,13,14] .done) (opsP [13,2,6,14] .done))) (opsP [13] (.both (opsP [2,5,6,14] .done) (opsP [5,2,6,14] .done)))))) ?_ ?_
    · decide +kernel
    simp (disch := first | omega | assumption | decide | (simp <;> omega) | fail) [facts, e0, e4, e5, e7, lp, l4, l5, upd_ne, upd_upd]
    try (repeat' apply And.intro)
    all_goals
      refine (cl d3 l3 g3 rr3 _).mono ?_
      rintro v G ⟨rfl, hleG⟩
      
      have m4 := hleG _ _ l4
      have m5 := hleG _ _ l5
      have mp := hleG _ _ lp
      simp (disch := first | omega | assumption | decide | (simp <;> omega) | fail) [facts, e0, e4, e5, e7, m4, m5, mp]
      exact Heap.le_trans hle hleG
  clear hle lp l4 l5
  rintro ⟨e, J3⟩ ⟨e0, e4, e5, e7, e35, hle, lp, l4, l5⟩
  simp only at e0 e4 e5 e7 e35 hle lp l4 l5
  by_cases f3 : leftZ l3 g3 rr3 < n3 + r3
  · have hno : ¬ fitS ⟨⟨d0, l0, g0, rr0⟩, ⟨d1, l1, g1, rr1⟩, ⟨d2, l2, g2, rr2⟩, ⟨d3, l3, g3, rr3⟩⟩ n0 n1 n2 n3 r0 r1 r2 r3 := fun h => by
      have := h.2.2.2; unfold fitC at this; simp only at this; omega
    simp (disch := first | omega | assumption | decide | (simp <;> omega) | fail) [facts, e0, e4, e5, e7, e35, f3, hno, lp]
    exact ⟨_, Heap.le_refl _, hle, lp⟩
  simp (disch := first | omega | assumption | decide | (simp <;> omega) | fail) [facts, e0, e4, e5, e7, e35, f3]
  have hyes : fitS ⟨⟨d0, l0, g0, rr0⟩, ⟨d1, l1, g1, rr1⟩, ⟨d2, l2, g2, rr2⟩, ⟨d3, l3, g3, rr3⟩⟩ n0 n1 n2 n3 r0 r1 r2 r3 := ⟨Int.not_lt.1 f0, Int.not_lt.1 f1, Int.not_lt.1 f2, Int.not_lt.1 f3⟩
  have k0 : leftZ l0 g0 rr0 ≤ 10000 ∧ leftZ l1 g1 rr1 ≤ 10000 ∧ leftZ l2 g2 rr2 ≤ 10000 ∧ leftZ l3 g3 rr3 ≤ 10000 := by unfold leftZ fewIn; refine ⟨?_, ?_, ?_, ?_⟩ <;> split <;> omega
  refine w_unroll 5 ?_
  simp (disch := first | omega | assumption | decide | (simp <;> omega) | fail) [facts, e0, e4, e5, lp, l4, l5, upd_ne]
  refine w_plan (P := Try.prog) (by simp [facts]) (opsP [0,1,2,3,4,5,6,7,8,9,10,11,12,13,14,15] .done) ?_ ?_
  · decide +kernel
  simp (disch := first | omega | assumption | decide | (simp <;> omega) | fail) [facts, e0, e4, e5, lp, l4, l5, upd_ne, upd_upd]
  refine w_plan (P := Try.prog) (by simp [facts]) (opsP [0,1,2,3,4,5,6,7,8,9,10,11,12,13,14,15] .done) ?_ ?_
  · decide +kernel
  simp (disch := first | omega | assumption | decide | (simp <;> omega) | fail) [facts, e0, e4, e5, lp, l4, l5, upd_ne, upd_upd]
  refine w_plan (P := Try.prog) (by simp [facts]) (opsP [0,1,2,3,4,5,6,7,8,9,10,11,12,13,14,15] .done) ?_ ?_
  · decide +kernel
  simp (disch := first | omega | assumption | decide | (simp <;> omega) | fail) [facts, e0, e4, e5, lp, l4, l5, upd_ne, upd_upd]
  refine w_plan (P := Try.prog) (by simp [facts]) (opsP [0,1,2,3,4,5,6,7,8,9,10,11,12,13,14,15] .done) ?_ ?_
  · decide +kernel
  simp (disch := first | omega | assumption | decide | (simp <;> omega) | fail) [facts, e0, e4, e5, lp, l4, l5, upd_ne, upd_upd]
  refine w_plan (P := Try.prog) (by simp [facts]) (opsP [0,1,2,3,4,5,6,7,8,9,10,11,12,13,14,15] .done) ?_ ?_
  · decide +kernel
  simp (disch := first | omega | assumption | decide | (simp <;> omega) | fail) [facts, e0, e4, e5, lp, l4, l5, upd_ne, upd_upd]
  refine w_plan (P := Try.prog) (by simp [facts]) (opsP [0,1,2,3,4,5,6,7,8,9,10,11,12,13,14,15] .done) ?_ ?_
  · decide +kernel
  simp (disch := first | omega | assumption | decide | (simp <;> omega) | fail) [facts, e0, e4, e5, lp, l4, l5, upd_ne, upd_upd]
  refine w_plan (P := Try.prog) (by simp [facts]) (opsP [0,1,2,3,4,5,6,7,8,9,10,11,12,13,14,15] .done) ?_ ?_
  · decide +kernel
  simp (disch := first | omega | assumption | decide | (simp <;> omega) | fail) [facts, e0, e4, e5, lp, l4, l5, upd_ne, upd_upd]
  refine w_plan (P := Try.prog) (by simp [facts]) (opsP [0,1,2,3,4,5,6,7,8,9,10,11,12,13,14,15] .done) ?_ ?_
  · decide +kernel
  simp (disch := first | omega | assumption | decide | (simp <;> omega) | fail) [facts, e0, e4, e5, lp, l4, l5, upd_ne, upd_upd, hyes, addS, addC]
  refine ⟨_, Heap.le_refl _, ?_, by simp⟩
  repeat' (first | exact hle | exact Heap.le_refl _ | assumption | (refine le_of_none hle ?_; assumption) | apply le_updN)

set_option maxHeartbeats 1600000 in
theorem denoms_c (s : S4) (H : Heap) : ECalls Try.prog 32 #[setV s] H fun v H' => v = notesV s.a.d s.b.d s.c.d s.e.d ∧ Heap.le H H' := by
  refine ecalls_of_ewp (args := [_]) Try.func32 rfl rfl rfl (by simp [Try.ntmps32]) (by kernel_rfl) ?_
  obtain ⟨⟨d0, l0, g0, r0⟩, ⟨d1, l1, g1, r1⟩, ⟨d2, l2, g2, r2⟩, ⟨d3, l3, g3, r3⟩⟩ := s
  simp only [setV, notesV, flat]
  simp (disch := first | omega | assumption | decide | (simp <;> omega) | fail) [facts, ]
  refine fresh_intro fun b1 hb1 => ?_
  simp (disch := first | omega | assumption | decide | (simp <;> omega) | fail) [facts, ]
  refine fresh_intro fun b2 hb2 => ?_
  simp (disch := first | omega | assumption | decide | (simp <;> omega) | fail) [facts, ]
  refine fresh_intro fun b3 hb3 => ?_
  have q12 : b1 ≠ b2 := ne_of_fresh hb2 (upd_same _ _ _)
  have q23 : b2 ≠ b3 := ne_of_fresh hb3 (upd_same _ _ _)
  have q13 : b1 ≠ b3 := ne_of_fresh hb3 (by rw [upd_ne _ _ q12]; exact upd_same _ _ _)
  have h2n : H b2 = none := le_of_none (le_upd _ hb1) hb2
  have h3n : H b3 = none := le_of_none (le_upd _ hb1) (le_of_none (le_upd _ hb2) hb3)
  have q32 := q23.symm
  have hle := Heap.le_refl H
  simp (disch := first | omega | assumption | decide | (simp <;> omega) | fail) [facts, upd_ne]
  refine w_unroll 5 ?_
  simp (disch := first | omega | assumption | decide | (simp <;> omega) | fail) [facts, upd_ne, upd_upd]
  refine ⟨_, Heap.le_refl _, ?_⟩
  repeat' (first | exact hle | exact Heap.le_refl _ | assumption | (refine le_of_none hle ?_; assumption) | apply le_updN)
theorem worth17_c (s : S4) (n0 n1 n2 n3 : Int) (H : Heap) (hn : allIn [n0, n1, n2, n3]) (hd : allIn [s.a.d, s.b.d, s.c.d, s.e.d]) :
    ECalls Try.prog 28 #[setV s, notesV n0 n1 n2 n3] H fun v H' => v = worthV [n0, n1, n2, n3] [s.a.d, s.b.d, s.c.d, s.e.d] ∧ Heap.le H H' := by
  refine ecalls_of_ewp (args := [_, _]) Try.func28 rfl rfl rfl (by simp [Try.ntmps28]) (by kernel_rfl) ?_
  have cd := fun H => denoms_c s H
  have cw := fun H => worthR_c [n0, n1, n2, n3] [s.a.d, s.b.d, s.c.d, s.e.d] H rfl rfl hn hd
  obtain ⟨R, Rb, hR⟩ : ∃ R Rb, worthV [n0, n1, n2, n3] [s.a.d, s.b.d, s.c.d, s.e.d] = .tuple #[.int .i64 R, .bool Rb] := by
    unfold worthV totV
    repeat' split
    all_goals exact ⟨_, _, rfl⟩
  rw [hR] at cw ⊢
  clear hR
  simp only [aggV, List.map_cons, List.map_nil, i64V_def] at cw
  have hfl : (flat s).length = 16 := rfl
  have htk : List.take 16 (flat s) = flat s := rfl
  unfold setV at cd ⊢
  unfold notesV at cd ⊢
  generalize flat s = F at *
  simp (disch := first | omega | assumption | decide | (simp <;> omega) | fail) [facts, ]
  refine fresh_intro fun b2 hb2 => ?_
  have l2 := upd_same H b2 (.row true 0 F 0)
  have hle := le_upd (.row true 0 F 0) hb2
  simp (disch := first | omega | assumption | decide | (simp <;> omega) | fail) [facts, ]
  generalize upd H b2 (.row true 0 F 0) = H2 at *
  refine fresh_intro fun b3 hb3 => ?_
  have l3 := upd_same H2 b3 (.row true 0 [.int .i64 n0, .int .i64 n1, .int .i64 n2, .int .i64 n3] 0)
  replace l2 := upd_other (o := .row true 0 [.int .i64 n0, .int .i64 n1, .int .i64 n2, .int .i64 n3] 0) hb3 l2
  replace hle := Heap.le_trans hle (le_upd (.row true 0 [.int .i64 n0, .int .i64 n1, .int .i64 n2, .int .i64 n3] 0) hb3)
  simp (disch := first | omega | assumption | decide | (simp <;> omega) | fail) [facts, ]
  generalize upd H2 b3 (.row true 0 [.int .i64 n0, .int .i64 n1, .int .i64 n2, .int .i64 n3] 0) = H3 at *
  refine w_plan (P := Try.prog) (by simp [facts]) (.both (opsP [0,1,2,3,4,5,6,7] .done) (opsP [1] (.both (opsP [0,2,3,4,5,6,7] .done) (opsP [2,0,3,4,5,6,7] .done)))) ?_ ?_
  · decide +kernel
  simp (disch := first | omega | assumption | decide | (simp <;> omega) | fail) [facts, l2, l3, hfl, htk]
  repeat' apply And.intro
  all_goals
    refine (cd _).mono ?_
    rintro v H4 ⟨rfl, hle4⟩
    have m3 := hle4 _ _ l3
    simp (disch := first | omega | assumption | decide | (simp <;> omega) | fail) [facts, m3]
    refine (cw _).mono ?_
    rintro v H5 ⟨rfl, hle5⟩
    simp (disch := first | omega | assumption | decide | (simp <;> omega) | fail) [facts, ]
    exact ⟨_, Heap.le_refl _, Heap.le_trans hle (Heap.le_trans hle4 hle5)⟩
theorem worthSR_c (s : S4) (p : Nat) (H : Heap) (lp : H p = some (.row true 0 (flat s) 0)) (hs : OkS s) :
    ECalls Try.prog 17 #[.pointer (some ⟨p, 0, none⟩)] H fun v H' => v = worthV [s.a.g, s.b.g, s.c.g, s.e.g] [s.a.d, s.b.d, s.c.d, s.e.d] ∧ Heap.le H H' := by
  refine ecalls_of_ewp (args := [_]) Try.func17 rfl rfl rfl (by simp [Try.ntmps17]) (by kernel_rfl) ?_
  obtain ⟨⟨_, g0, _, _, e0⟩, ⟨_, g1, _, _, e1⟩, ⟨_, g2, _, _, e2⟩, ⟨_, g3, _, _, e3⟩⟩ := hs
  have cg := fun H lp => givenR_c s p H lp
  have cw := fun H => worth17_c s s.a.g s.b.g s.c.g s.e.g H (in4 (few_in g0) (few_in g1) (few_in g2) (few_in g3)) (in4 e0 e1 e2 e3)
  obtain ⟨R, Rb, hR⟩ : ∃ R Rb, worthV [s.a.g, s.b.g, s.c.g, s.e.g] [s.a.d, s.b.d, s.c.d, s.e.d] = .tuple #[.int .i64 R, .bool Rb] := by
    unfold worthV totV
    repeat' split
    all_goals exact ⟨_, _, rfl⟩
  rw [hR] at cw ⊢
  clear hR e0 e1 e2 e3 g0 g1 g2 g3
  have hfl : (flat s).length = 16 := rfl
  have htk : List.take 16 (flat s) = flat s := rfl
  unfold setV at cw
  generalize flat s = F at *
  simp (disch := first | omega | assumption | decide | (simp <;> omega) | fail) [facts, ]
  refine w_plan (P := Try.prog) (by simp [facts]) (opsP [0,1,2,4] (.both (opsP [3,5,6,7,8,9,10] .done) (opsP [5,3,6,7,8,9,10] .done))) ?_ ?_
  · decide +kernel
  simp (disch := first | omega | assumption | decide | (simp <;> omega) | fail) [facts, lp, hfl, htk]
  refine ⟨?_, ?_⟩
  all_goals
    refine (cg _ lp).mono ?_
    rintro v H2 ⟨rfl, hle2⟩
    have lp2 := hle2 _ _ lp
    try simp (disch := first | omega | assumption | decide | (simp <;> omega) | fail) [facts, lp2, hfl, htk]
    refine (cw _).mono ?_
    rintro v H3 ⟨rfl, hle3⟩
    simp (disch := first | omega | assumption | decide | (simp <;> omega) | fail) [facts, ]
    exact ⟨_, Heap.le_refl _, Heap.le_trans hle2 hle3⟩

end Go.Proofs.Ytgeocnggfgpmoaa.GL
