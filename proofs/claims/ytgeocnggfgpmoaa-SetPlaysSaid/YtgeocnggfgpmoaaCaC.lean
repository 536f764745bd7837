/- Layer 18: notes given; what was given is worth. -/
import Derived.Test.YtgeocnggfgpmoaaCaB
namespace Go.Proofs.Ytgeocnggfgpmoaa.GL
open Go Go.RowKit
set_option maxRecDepth 10000
set_option pp.deepTerms.threshold 8
set_option pp.maxSteps 3000
set_option linter.unusedSimpArgs false
set_option linter.unusedVariables false

def fitS (s : S4) (n0 n1 n2 n3 r0 r1 r2 r3 : Int) : Prop := fitC s.a n0 r0 ∧ fitC s.b n1 r1 ∧ fitC s.c n2 r2 ∧ fitC s.e n3 r3
instance (c : Cs) (n r : Int) : Decidable (fitC c n r) := inferInstanceAs (Decidable (_ ≤ _))
instance (s : S4) (n0 n1 n2 n3 r0 r1 r2 r3 : Int) : Decidable (fitS s n0 n1 n2 n3 r0 r1 r2 r3) := inferInstanceAs (Decidable (_ ∧ _))
def addS (s : S4) (n0 n1 n2 n3 r0 r1 r2 r3 : Int) : S4 := ⟨addC s.a n0 r0, addC s.b n1 r1, addC s.c n2 r2, addC s.e n3 r3⟩

theorem give_c_bad (s : S4) (p : Nat) (n0 n1 n2 n3 r0 r1 r2 r3 : Int) (H : Heap) (lp : H p = some (.row true 0 (flat s) 0)) (hb : ¬ (fourIn n0 n1 n2 n3 ∧ fourIn r0 r1 r2 r3)) :
    ECalls Try.prog 10 #[.pointer (some ⟨p, 0, none⟩), notesV n0 n1 n2 n3, notesV r0 r1 r2 r3] H fun v H' => v = .int .i64 20 ∧ Heap.le H H' := by
  refine ecalls_of_ewp (args := [_, _, _]) Try.func10 rfl rfl rfl (by simp [Try.ntmps10]) (by kernel_rfl) ?_
  have cn := fun H => right_c n0 n1 n2 n3 H
  have cr := fun H => right_c r0 r1 r2 r3 H
  simp only [notesV] at cn cr ⊢
  simp (disch := first | omega | assumption | decide | (simp <;> omega) | fail) [facts, ]
  refine fresh_intro fun b4 hb4 => ?_
  simp (disch := first | omega | assumption | decide | (simp <;> omega) | fail) [facts, ]
  refine fresh_intro fun b5 hb5 => ?_
  have q45 : b4 ≠ b5 := ne_of_fresh hb5 (upd_same _ _ _)
  simp (disch := first | omega | assumption | decide | (simp <;> omega) | fail) [facts, upd_ne]
  refine (cn _).mono ?_
  rintro v H2 ⟨rfl, hle2⟩
  have hle := Heap.le_trans (le_upd _ hb4) (Heap.le_trans (le_upd _ hb5) hle2)
  have l5 := hle2 _ _ (upd_same _ _ _)
  by_cases hn : fourIn n0 n1 n2 n3
  · have hr : ¬ fourIn r0 r1 r2 r3 := fun h => hb ⟨hn, h⟩
    simp only [hr, decide_false] at cr
    simp (disch := first | omega | assumption | decide | (simp <;> omega) | fail) [facts, hn, l5]
    refine (cr _).mono ?_
    rintro v H3 ⟨rfl, hle3⟩
    simp (disch := first | omega | assumption | decide | (simp <;> omega) | fail) [facts, ]
    exact ⟨_, Heap.le_refl _, Heap.le_trans hle hle3⟩
  · simp (disch := first | omega | assumption | decide | (simp <;> omega) | fail) [facts, hn]
    exact ⟨_, Heap.le_refl _, hle⟩
set_option maxHeartbeats 1600000 in
theorem give_c (s : S4) (p : Nat) (n0 n1 n2 n3 r0 r1 r2 r3 : Int) (H : Heap) (lp : H p = some (.row true 0 (flat s) 0)) (hs : OkS s) (hn : fourIn n0 n1 n2 n3) (hr : fourIn r0 r1 r2 r3) :
    ECalls Try.prog 10 #[.pointer (some ⟨p, 0, none⟩), notesV n0 n1 n2 n3, notesV r0 r1 r2 r3] H fun v H' => v = .int .i64 (if fitS s n0 n1 n2 n3 r0 r1 r2 r3 then 0 else 25) ∧ Heap.le (dele H p) H' ∧ H' p = some (.row true 0 (flat (if fitS s n0 n1 n2 n3 r0 r1 r2 r3 then addS s n0 n1 n2 n3 r0 r1 r2 r3 else s)) 0) := by
  refine ecalls_of_ewp (args := [_, _, _]) Try.func10 rfl rfl rfl (by simp [Try.ntmps10]) (by kernel_rfl) ?_
  have cn := fun H => right_c n0 n1 n2 n3 H
  have cr := fun H => right_c r0 r1 r2 r3 H
  have cl := fun d l g r H => left_c d l g r H
  simp only [hn, decide_true] at cn
  simp only [hr, decide_true] at cr
  obtain ⟨⟨d0, l0, g0, rr0⟩, ⟨d1, l1, g1, rr1⟩, ⟨d2, l2, g2, rr2⟩, ⟨d3, l3, g3, rr3⟩⟩ := s
  obtain ⟨⟨ol0, og0, or0, oe0, _⟩, ⟨ol1, og1, or1, oe1, _⟩, ⟨ol2, og2, or2, oe2, _⟩, ⟨ol3, og3, or3, oe3, _⟩⟩ := hs
  obtain ⟨fn0, fn1, fn2, fn3⟩ := hn
  obtain ⟨fr0, fr1, fr2, fr3⟩ := hr
  unfold fewIn at fn0 fn1 fn2 fn3 fr0 fr1 fr2 fr3 ol0 og0 or0 ol1 og1 or1 ol2 og2 or2 ol3 og3 or3
  simp only at ol0 og0 or0 oe0 ol1 og1 or1 oe1 ol2 og2 or2 oe2 ol3 og3 or3 oe3
  simp only [notesV, cassV, flat] at lp cn cr cl ⊢
  obtain ⟨E, hE⟩ : ∃ E : Int, E = if fitS ⟨⟨d0, l0, g0, rr0⟩, ⟨d1, l1, g1, rr1⟩, ⟨d2, l2, g2, rr2⟩, ⟨d3, l3, g3, rr3⟩⟩ n0 n1 n2 n3 r0 r1 r2 r3 then 0 else 25 := ⟨_, rfl⟩
  simp (disch := first | omega | assumption | decide | (simp <;> omega) | fail) [facts, ]
  refine fresh_intro fun b4 hb4 => ?_
  simp (disch := first | omega | assumption | decide | (simp <;> omega) | fail) [facts, ]
  refine fresh_intro fun b5 hb5 => ?_
  have q4 : p ≠ b4 := ne_of_fresh hb4 lp
  have q45 : b4 ≠ b5 := ne_of_fresh hb5 (upd_same _ _ _)
  have q5 : p ≠ b5 := ne_of_fresh hb5 (by rw [upd_ne _ _ q4]; exact lp)
  have q4' := q4.symm
  have q5' := q5.symm
  simp (disch := first | omega | assumption | decide | (simp <;> omega) | fail) [facts, upd_ne]
  refine (cn _).mono ?_
  rintro v H2 ⟨rfl, hle2⟩
  have hle : Heap.le (dele H p) H2 := le_dele p (Heap.le_trans (le_upd _ hb4) (Heap.le_trans (le_upd _ hb5) hle2))
  have l5 := hle2 _ _ (upd_same _ _ _)
  have l4 := hle2 _ _ (upd_other hb5 (upd_same _ _ _))
  replace lp := hle2 _ _ (upd_other hb5 (upd_other hb4 lp))
  simp (disch := first | omega | assumption | decide | (simp <;> omega) | fail) [facts, l4, l5, lp]
  refine (cr _).mono ?_
  rintro v H3 ⟨rfl, hle3⟩
  replace hle := Heap.le_trans hle hle3
  replace l4 := hle3 _ _ l4
  replace l5 := hle3 _ _ l5
  replace lp := hle3 _ _ lp
  have hpn := dele_none (H := H) p
  have h4n : dele H p b4 = none := by rw [dele_ne _ q4']; exact hb4
  simp (disch := first | omega | assumption | decide | (simp <;> omega) | fail) [facts, l4, l5, lp]
  refine w_unroll 5 ?_
  simp (disch := first | omega | assumption | decide | (simp <;> omega) | fail) [facts, l4, l5, lp]
  refine fresh_abs (fun H' => Heap.le (dele H p) H' ∧ H' p = some (.row true 0 [.int .i64 d0, .int .i64 l0, .int .i64 g0, .int .i64 rr0, .int .i64 d1, .int .i64 l1, .int .i64 g1, .int .i64 rr1, .int .i64 d2, .int .i64 l2, .int .i64 g2, .int .i64 rr2, .int .i64 d3, .int .i64 l3, .int .i64 g3, .int .i64 rr3] 0) ∧ H' b4 = some (.row true 0 [.int .i64 n0, .int .i64 n1, .int .i64 n2, .int .i64 n3] 0) ∧ H' b5 = some (.row true 0 [.int .i64 r0, .int .i64 r1, .int .i64 r2, .int .i64 r3] 0)) ⟨hle, lp, l4, l5⟩ ?_
  clear hle lp l4 l5
  rintro G0 x0 ⟨hle, lp, l4, l5⟩ hx0
  have y0p : p ≠ x0 := ne_of_fresh hx0 lp
  have y04 : b4 ≠ x0 := ne_of_fresh hx0 l4
  have y05 : b5 ≠ x0 := ne_of_fresh hx0 l5
  simp (disch := first | omega | assumption | decide | (simp <;> omega) | fail) [facts, lp, l4, l5, upd_ne, upd_upd]
  refine w_cut (fun s => s.env 0 = .pointer (some ⟨p, 0, none⟩) ∧ s.env 4 = .pointer (some ⟨b4, 0, none⟩) ∧ s.env 5 = .pointer (some ⟨b5, 0, none⟩) ∧ s.env 21 = .agg [.int .i64 d0, .int .i64 l0, .int .i64 g0, .int .i64 rr0, .int .i64 d1, .int .i64 l1, .int .i64 g1, .int .i64 rr1, .int .i64 d2, .int .i64 l2, .int .i64 g2, .int .i64 rr2, .int .i64 d3, .int .i64 l3, .int .i64 g3, .int .i64 rr3].toArray ∧ s.env 22 = .int .i64 0 ∧ s.env 35 = .bool (decide (leftZ l0 g0 rr0 < n0 + r0)) ∧ Heap.le (dele H p) s.heap ∧ s.heap p = some (.row true 0 [.int .i64 d0, .int .i64 l0, .int .i64 g0, .int .i64 rr0, .int .i64 d1, .int .i64 l1, .int .i64 g1, .int .i64 rr1, .int .i64 d2, .int .i64 l2, .int .i64 g2, .int .i64 rr2, .int .i64 d3, .int .i64 l3, .int .i64 g3, .int .i64 rr3] 0) ∧ s.heap b4 = some (.row true 0 [.int .i64 n0, .int .i64 n1, .int .i64 n2, .int .i64 n3] 0) ∧ s.heap b5 = some (.row true 0 [.int .i64 r0, .int .i64 r1, .int .i64 r2, .int .i64 r3] 0)) ?_ ?_
  · refine w_plan (P := Try.prog) (by simp [facts]) (opsP [0,1,3,4,7] (.both (opsP [2] (.both (opsP [5,6,8,9] .done) (opsP [8,5,6,9] .done))) (.both (opsP [5] (.both (opsP [2,6,8,9] .done) (opsP [8,2,6,9] .done))) (opsP [8] (.both (opsP [2,5,6,9] .done) (opsP [5,2,6,9] .done)))))) ?_ ?_
    · decide +kernel
    simp (disch := first | omega | assumption | decide | (simp <;> omega) | fail) [facts, lp, l4, l5, upd_ne, upd_upd]
    try (repeat' apply And.intro)
    all_goals
      refine (cl d0 l0 g0 rr0 _).mono ?_
      rintro v G ⟨rfl, hleG⟩
      have hleG' := Heap.le_trans (le_upd _ hx0) hleG
      have m4 := hleG' _ _ l4
      have m5 := hleG' _ _ l5
      have mp := hleG' _ _ lp
      simp (disch := first | omega | assumption | decide | (simp <;> omega) | fail) [facts, m4, m5, mp]
      exact Heap.le_trans hle hleG'
  clear hle lp l4 l5
  rintro ⟨e, J0⟩ ⟨e0, e4, e5, e21, e22, e35, hle, lp, l4, l5⟩
  simp only at e0 e4 e5 e21 e22 e35 hle lp l4 l5
  by_cases f0 : leftZ l0 g0 rr0 < n0 + r0
  · have hno : ¬ fitS ⟨⟨d0, l0, g0, rr0⟩, ⟨d1, l1, g1, rr1⟩, ⟨d2, l2, g2, rr2⟩, ⟨d3, l3, g3, rr3⟩⟩ n0 n1 n2 n3 r0 r1 r2 r3 := fun h => by
      have := h.1; unfold fitC at this; simp only at this; omega
    simp (disch := first | omega | assumption | decide | (simp <;> omega) | fail) [facts, e0, e4, e5, e21, e22, e35, f0, hno, lp]
    exact ⟨_, Heap.le_refl _, hle, lp⟩
  simp (disch := first | omega | assumption | decide | (simp <;> omega) | fail) [facts, e0, e4, e5, e21, e22, e35, f0]
  refine fresh_abs (fun H' => Heap.le (dele H p) H' ∧ H' p = some (.row true 0 [.int .i64 d0, .int .i64 l0, .int .i64 g0, .int .i64 rr0, .int .i64 d1, .int .i64 l1, .int .i64 g1, .int .i64 rr1, .int .i64 d2, .int .i64 l2, .int .i64 g2, .int .i64 rr2, .int .i64 d3, .int .i64 l3, .int .i64 g3, .int .i64 rr3] 0) ∧ H' b4 = some (.row true 0 [.int .i64 n0, .int .i64 n1, .int .i64 n2, .int .i64 n3] 0) ∧ H' b5 = some (.row true 0 [.int .i64 r0, .int .i64 r1, .int .i64 r2, .int .i64 r3] 0)) ⟨hle, lp, l4, l5⟩ ?_
  clear hle lp l4 l5
  rintro G1 x1 ⟨hle, lp, l4, l5⟩ hx1
  have y1p : p ≠ x1 := ne_of_fresh hx1 lp
  have y14 : b4 ≠ x1 := ne_of_fresh hx1 l4
  have y15 : b5 ≠ x1 := ne_of_fresh hx1 l5
  simp (disch := first | omega | assumption | decide | (simp <;> omega) | fail) [facts, e0, e4, e5, e21, e22, lp, l4, l5, upd_ne, upd_upd]
  refine w_cut (fun s => s.env 0 = .pointer (some ⟨p, 0, none⟩) ∧ s.env 4 = .pointer (some ⟨b4, 0, none⟩) ∧ s.env 5 = .pointer (some ⟨b5, 0, none⟩) ∧ s.env 21 = .agg [.int .i64 d0, .int .i64 l0, .int .i64 g0, .int .i64 rr0, .int .i64 d1, .int .i64 l1, .int .i64 g1, .int .i64 rr1, .int .i64 d2, .int .i64 l2, .int .i64 g2, .int .i64 rr2, .int .i64 d3, .int .i64 l3, .int .i64 g3, .int .i64 rr3].toArray ∧ s.env 22 = .int .i64 1 ∧ s.env 35 = .bool (decide (leftZ l1 g1 rr1 < n1 + r1)) ∧ Heap.le (dele H p) s.heap ∧ s.heap p = some (.row true 0 [.int .i64 d0, .int .i64 l0, .int .i64 g0, .int .i64 rr0, .int .i64 d1, .int .i64 l1, .int .i64 g1, .int .i64 rr1, .int .i64 d2, .int .i64 l2, .int .i64 g2, .int .i64 rr2, .int .i64 d3, .int .i64 l3, .int .i64 g3, .int .i64 rr3] 0) ∧ s.heap b4 = some (.row true 0 [.int .i64 n0, .int .i64 n1, .int .i64 n2, .int .i64 n3] 0) ∧ s.heap b5 = some (.row true 0 [.int .i64 r0, .int .i64 r1, .int .i64 r2, .int .i64 r3] 0)) ?_ ?_
  · refine w_plan (P := Try.prog) (by simp [facts]) (opsP [0,1,3,4,7] (.both (opsP [2] (.both (opsP [5,6,8,9] .done) (opsP [8,5,6,9] .done))) (.both (opsP [5] (.both (opsP [2,6,8,9] .done) (opsP [8,2,6,9] .done))) (opsP [8] (.both (opsP [2,5,6,9] .done) (opsP [5,2,6,9] .done)))))) ?_ ?_
    · decide +kernel
    simp (disch := first | omega | assumption | decide | (simp <;> omega) | fail) [facts, e0, e4, e5, e21, e22, lp, l4, l5, upd_ne, upd_upd]
    try (repeat' apply And.intro)
    all_goals
      refine (cl d1 l1 g1 rr1 _).mono ?_
      rintro v G ⟨rfl, hleG⟩
      have hleG' := Heap.le_trans (le_upd _ hx1) hleG
      have m4 := hleG' _ _ l4
      have m5 := hleG' _ _ l5
      have mp := hleG' _ _ lp
      simp (disch := first | omega | assumption | decide | (simp <;> omega) | fail) [facts, e0, e4, e5, e21, e22, m4, m5, mp]
      exact Heap.le_trans hle hleG'
  clear hle lp l4 l5
  rintro ⟨e, J1⟩ ⟨e0, e4, e5, e21, e22, e35, hle, lp, l4, l5⟩
  simp only at e0 e4 e5 e21 e22 e35 hle lp l4 l5
  by_cases f1 : leftZ l1 g1 rr1 < n1 + r1
  · have hno : ¬ fitS ⟨⟨d0, l0, g0, rr0⟩, ⟨d1, l1, g1, rr1⟩, ⟨d2, l2, g2, rr2⟩, ⟨d3, l3, g3, rr3⟩⟩ n0 n1 n2 n3 r0 r1 r2 r3 := fun h => by
      have := h.2.1; unfold fitC at this; simp only at this; omega
    simp (disch := first | omega | assumption | decide | (simp <;> omega) | fail) [facts, e0, e4, e5, e21, e22, e35, f1, hno, lp]
    exact ⟨_, Heap.le_refl _, hle, lp⟩
  simp (disch := first | omega | assumption | decide | (simp <;> omega) | fail) [facts, e0, e4, e5, e21, e22, e35, f1]
  refine fresh_abs (fun H' => Heap.le (dele H p) H' ∧ H' p = some (.row true 0 [.int .i64 d0, .int .i64 l0, .int .i64 g0, .int .i64 rr0, .int .i64 d1, .int .i64 l1, .int .i64 g1, .int .i64 rr1, .int .i64 d2, .int .i64 l2, .int .i64 g2, .int .i64 rr2, .int .i64 d3, .int .i64 l3, .int .i64 g3, .int .i64 rr3] 0) ∧ H' b4 = some (.row true 0 [.int .i64 n0, .int .i64 n1, .int .i64 n2, .int .i64 n3] 0) ∧ H' b5 = some (.row true 0 [.int .i64 r0, .int .i64 r1, .int .i64 r2, .int .i64 r3] 0)) ⟨hle, lp, l4, l5⟩ ?_
  clear hle lp l4 l5
  rintro G2 x2 ⟨hle, lp, l4, l5⟩ hx2
  have y2p : p ≠ x2 := ne_of_fresh hx2 lp
  have y24 : b4 ≠ x2 := ne_of_fresh hx2 l4
  have y25 : b5 ≠ x2 := ne_of_fresh hx2 l5
  simp (disch := first | omega | assumption | decide | (simp <;> omega) | fail) [facts, e0, e4, e5, e21, e22, lp, l4, l5, upd_ne, upd_upd]
  refine w_cut (fun s => s.env 0 = .pointer (some ⟨p, 0, none⟩) ∧ s.env 4 = .pointer (some ⟨b4, 0, none⟩) ∧ s.env 5 = .pointer (some ⟨b5, 0, none⟩) ∧ s.env 21 = .agg [.int .i64 d0, .int .i64 l0, .int .i64 g0, .int .i64 rr0, .int .i64 d1, .int .i64 l1, .int .i64 g1, .int .i64 rr1, .int .i64 d2, .int .i64 l2, .int .i64 g2, .int .i64 rr2, .int .i64 d3, .int .i64 l3, .int .i64 g3, .int .i64 rr3].toArray ∧ s.env 22 = .int .i64 2 ∧ s.env 35 = .bool (decide (leftZ l2 g2 rr2 < n2 + r2)) ∧ Heap.le (dele H p) s.heap ∧ s.heap p = some (.row true 0 [.int .i64 d0, .int .i64 l0, .int .i64 g0, .int .i64 rr0, .int .i64 d1, .int .i64 l1, .int .i64 g1, .int .i64 rr1, .int .i64 d2, .int .i64 l2, .int .i64 g2, .int .i64 rr2, .int .i64 d3, .int .i64 l3, .int .i64 g3, .int .i64 rr3] 0) ∧ s.heap b4 = some (.row true 0 [.int .i64 n0, .int .i64 n1, .int .i64 n2, .int .i64 n3] 0) ∧ s.heap b5 = some (.row true 0 [.int .i64 r0, .int .i64 r1, .int .i64 r2, .int .i64 r3] 0)) ?_ ?_
  · refine w_plan (P := Try.prog) (by simp [facts]) (opsP [0,1,3,4,7] (.both (opsP [2] (.both (opsP [5,6,8,9] .done) (opsP [8,5,6,9] .done))) (.both (opsP [5] (.both (opsP [2,6,8,9] .done) (opsP [8,2,6,9] .done))) (opsP [8] (.both (opsP [2,5,6,9] .done) (opsP [5,2,6,9] .done)))))) ?_ ?_
    · decide +kernel
    simp (disch := first | omega | assumption | decide | (simp <;> omega) | fail) [facts, e0, e4, e5, e21, e22, lp, l4, l5, upd_ne, upd_upd]
    try (repeat' apply And.intro)
    all_goals
      refine (cl d2 l2 g2 rr2 _).mono ?_
      rintro v G ⟨rfl, hleG⟩
      have hleG' := Heap.le_trans (le_upd _ hx2) hleG
      have m4 := hleG' _ _ l4
      have m5 := hleG' _ _ l5
      have mp := hleG' _ _ lp
      simp (disch := first | omega | assumption | decide | (simp <;> omega) | fail) [facts, e0, e4, e5, e21, e22, m4, m5, mp]
      exact Heap.le_trans hle hleG'
  clear hle lp l4 l5
  rintro ⟨e, J2⟩ ⟨e0, e4, e5, e21, e22, e35, hle, lp, l4, l5⟩
  simp only at e0 e4 e5 e21 e22 e35 hle lp l4 l5
  by_cases f2 : leftZ l2 g2 rr2 < n2 + r2
  · have hno : ¬ fitS ⟨⟨d0, l0, g0, rr0⟩, ⟨d1, l1, g1, rr1⟩, ⟨d2, l2, g2, rr2⟩, ⟨d3, l3, g3, rr3⟩⟩ n0 n1 n2 n3 r0 r1 r2 r3 := fun h => by
      have := h.2.2.1; unfold fitC at this; simp only at this; omega
    simp (disch := first | omega | assumption | decide | (simp <;> omega) | fail) [facts, e0, e4, e5, e21, e22, e35, f2, hno, lp]
    exact ⟨_, Heap.le_refl _, hle, lp⟩
  simp (disch := first | omega | assumption | decide | (simp <;> omega) | fail) [facts, e0, e4, e5, e21, e22, e35, f2]
  refine fresh_abs (fun H' => Heap.le (dele H p) H' ∧ H' p = some (.row true 0 [.int .i64 d0, .int .i64 l0, .int .i64 g0, .int .i64 rr0, .int .i64 d1, .int .i64 l1, .int .i64 g1, .int .i64 rr1, .int .i64 d2, .int .i64 l2, .int .i64 g2, .int .i64 rr2, .int .i64 d3, .int .i64 l3, .int .i64 g3, .int .i64 rr3] 0) ∧ H' b4 = some (.row true 0 [.int .i64 n0, .int .i64 n1, .int .i64 n2, .int .i64 n3] 0) ∧ H' b5 = some (.row true 0 [.int .i64 r0, .int .i64 r1, .int .i64 r2, .int .i64 r3] 0)) ⟨hle, lp, l4, l5⟩ ?_
  clear hle lp l4 l5
  rintro G3 x3 ⟨hle, lp, l4, l5⟩ hx3
  have y3p : p ≠ x3 := ne_of_fresh hx3 lp
  have y34 : b4 ≠ x3 := ne_of_fresh hx3 l4
  have y35 : b5 ≠ x3 := ne_of_fresh hx3 l5
  simp (disch := first | omega | assumption | decide | (simp <;> omega) | fail) [facts, e0, e4, e5, e21, e22, lp, l4, l5, upd_ne, upd_upd]
  refine w_cut (fun s => s.env 0 = .pointer (some ⟨p, 0, none⟩) ∧ s.env 4 = .pointer (some ⟨b4, 0, none⟩) ∧ s.env 5 = .pointer (some ⟨b5, 0, none⟩) ∧ s.env 21 = .agg [.int .i64 d0, .int .i64 l0, .int .i64 g0, .int .i64 rr0, .int .i64 d1, .int .i64 l1, .int .i64 g1, .int .i64 rr1, .int .i64 d2, .int .i64 l2, .int .i64 g2, .int .i64 rr2, .int .i64 d3, .int .i64 l3, .int .i64 g3, .int .i64 rr3].toArray ∧ s.env 22 = .int .i64 3 ∧ s.env 35 = .bool (decide (leftZ l3 g3 rr3 < n3 + r3)) ∧ Heap.le (dele H p) s.heap ∧ s.heap p = some (.row true 0 [.int .i64 d0, .int .i64 l0, .int .i64 g0, .int .i64 rr0, .int .i64 d1, .int .i64 l1, .int .i64 g1, .int .i64 rr1, .int .i64 d2, .int .i64 l2, .int .i64 g2, .int .i64 rr2, .int .i64 d3, .int .i64 l3, .int .i64 g3, .int .i64 rr3] 0) ∧ s.heap b4 = some (.row true 0 [.int .i64 n0, .int .i64 n1, .int .i64 n2, .int .i64 n3] 0) ∧ s.heap b5 = some (.row true 0 [.int .i64 r0, .int .i64 r1, .int .i64 r2, .int .i64 r3] 0)) ?_ ?_
  · refine w_plan (P := Try.prog) (by simp [facts]) (opsP [0,1,3,4,7] (.both (opsP [2] (.both (opsP [5,6,8,9] .done) (opsP [8,5,6,9] .done))) (.both (opsP [5] (.both (opsP [2,6,8,9] .done) (opsP [8,2,6,9] .done))) (opsP [8] (.both (opsP [2,5,6,9] .done) (opsP [5,2,6,9] .done)))))) ?_ ?_
    · decide +kernel
    simp (disch := first | omega | assumption | decide | (simp <;> omega) | fail) [facts, e0, e4, e5, e21, e22, lp, l4, l5, upd_ne, upd_upd]
    try (repeat' apply And.intro)
    all_goals
      refine (cl d3 l3 g3 rr3 _).mono ?_
      rintro v G ⟨rfl, hleG⟩
      have hleG' := Heap.le_trans (le_upd _ hx3) hleG
      have m4 := hleG' _ _ l4
      have m5 := hleG' _ _ l5
      have mp := hleG' _ _ lp
      simp (disch := first | omega | assumption | decide | (simp <;> omega) | fail) [facts, e0, e4, e5, e21, e22, m4, m5, mp]
      exact Heap.le_trans hle hleG'
  clear hle lp l4 l5
  rintro ⟨e, J3⟩ ⟨e0, e4, e5, e21, e22, e35, hle, lp, l4, l5⟩
  simp only at e0 e4 e5 e21 e22 e35 hle lp l4 l5
  by_cases f3 : leftZ l3 g3 rr3 < n3 + r3
  · have hno : ¬ fitS ⟨⟨d0, l0, g0, rr0⟩, ⟨d1, l1, g1, rr1⟩, ⟨d2, l2, g2, rr2⟩, ⟨d3, l3, g3, rr3⟩⟩ n0 n1 n2 n3 r0 r1 r2 r3 := fun h => by
      have := h.2.2.2; unfold fitC at this; simp only at this; omega
    simp (disch := first | omega | assumption | decide | (simp <;> omega) | fail) [facts, e0, e4, e5, e21, e22, e35, f3, hno, lp]
    exact ⟨_, Heap.le_refl _, hle, lp⟩
  simp (disch := first | omega | assumption | decide | (simp <;> omega) | fail) [facts, e0, e4, e5, e21, e22, e35, f3]
  have hyes : fitS ⟨⟨d0, l0, g0, rr0⟩, ⟨d1, l1, g1, rr1⟩, ⟨d2, l2, g2, rr2⟩, ⟨d3, l3, g3, rr3⟩⟩ n0 n1 n2 n3 r0 r1 r2 r3 := ⟨Int.not_lt.1 f0, Int.not_lt.1 f1, Int.not_lt.1 f2, Int.not_lt.1 f3⟩
  have k0 : leftZ l0 g0 rr0 ≤ 10000 ∧ leftZ l1 g1 rr1 ≤ 10000 ∧ leftZ l2 g2 rr2 ≤ 10000 ∧ leftZ l3 g3 rr3 ≤ 10000 := by unfold leftZ fewIn; refine ⟨?_, ?_, ?_, ?_⟩ <;> split <;> omega
  refine w_unroll 5 ?_
  simp (disch := first | omega | assumption | decide | (simp <;> omega) | fail) [facts, e0, e4, e5, lp, l4, l5, upd_ne]
  refine w_plan (P := Try.prog) (by simp [facts]) (opsP [0,1,2,3,4,5,6,7,8,9,10,11,12,13,14,15] .done) ?_ ?_
  · decide +kernel
  simp (disch := first | omega | assumption | decide | (simp <;> omega) | fail) [facts, e0, e4, e5, lp, l4, l5, upd_ne, upd_upd]
  refine w_plan (P := Try.prog) (by simp [facts]) (opsP [0,1,2,3,4,5,6,7,8,9,10,11,12,13,14,15] .done) ?_ ?_
  · decide +kernel
  simp (disch := first | omega | assumption | decide | (simp <;> omega) | fail) [facts, e0, e4, e5, lp, l4, l5, upd_ne, upd_upd]
  refine w_plan (P := Try.prog) (by simp [facts]) (opsP [0,1,2,3,4,5,6,7,8,9,10,11,12,13,14,15] .done) ?_ ?_
  · decide +kernel
  simp (disch := first | omega | assumption | decide | (simp <;> omega) | fail) [facts, e0, e4, e5, lp, l4, l5, upd_ne, upd_upd]
  refine w_plan (P := Try.prog) (by simp [facts]) (opsP [0,1,2,3,4,5,6,7,8,9,10,11,12,13,14,15] .done) ?_ ?_
  · decide +kernel
  simp (disch := first | omega | assumption | decide | (simp <;> omega) | fail) [facts, e0, e4, e5, lp, l4, l5, upd_ne, upd_upd]
  refine w_plan (P := Try.prog) (by simp [facts]) (opsP [0,1,2,3,4,5,6,7,8,9,10,11,12,13,14,15] .done) ?_ ?_
  · decide +kernel
  simp (disch := first | omega | assumption | decide | (simp <;> omega) | fail) [facts, e0, e4, e5, lp, l4, l5, upd_ne, upd_upd]
  refine w_plan (P := Try.prog) (by simp [facts]) (opsP [0,1,2,3,4,5,6,7,8,9,10,11,12,13,14,15] .done) ?_ ?_
  · decide +kernel
  simp (disch := first | omega | assumption | decide | (simp <;> omega) | fail) [facts, e0, e4, e5, lp, l4, l5, upd_ne, upd_upd]
  refine w_plan (P := Try.prog) (by simp [facts]) (opsP [0,1,2,3,4,5,6,7,8,9,10,11,12,13,14,15] .done) ?_ ?_
  · decide +kernel
  simp (disch := first | omega | assumption | decide | (simp <;> omega) | fail) [facts, e0, e4, e5, lp, l4, l5, upd_ne, upd_upd]
  refine w_plan (P := Try.prog) (by simp [facts]) (opsP [0,1,2,3,4,5,6,7,8,9,10,11,12,13,14,15] .done) ?_ ?_
  · decide +kernel
  simp (disch := first | omega | assumption | decide | (simp <;> omega) | fail) [facts, e0, e4, e5, lp, l4, l5, upd_ne, upd_upd, hyes, addS, addC]
  refine ⟨_, Heap.le_refl _, ?_, by simp⟩
  repeat' (first | exact hle | exact Heap.le_refl _ | assumption | (refine le_of_none hle ?_; assumption) | apply le_updN)

end Go.Proofs.Ytgeocnggfgpmoaa.GL
