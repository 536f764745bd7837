/- Layer 17: the cassettes of a number. -/
import Derived.Test.YtiaigpkaajnpoaaMxI
namespace Go.Proofs.Ytiaigpkaajnpoaa.GL
open Go Go.RowKit
set_option maxRecDepth 10000
set_option pp.deepTerms.threshold 8
set_option pp.maxSteps 3000
set_option linter.unusedSimpArgs false
set_option linter.unusedVariables false

def COk (c : Cs) : Prop := 1 ≤ c.d ∧ c.d ≤ 10000 ∧ 0 ≤ c.l ∧ c.l ≤ 10000 ∧ c.g = 0 ∧ c.r = 0
def CassOk (s : S4) : Prop := COk s.a ∧ COk s.b ∧ COk s.c ∧ COk s.e
theorem cass_row (j : Nat) (h : j < 4) : ∃ e0 e1 e2 e3 : Int, List.take 4 (List.drop (j * 4) ([.int .i64 1000, .int .i64 2000, .int .i64 5000, .int .i64 10000, .int .i64 2000, .int .i64 5000, .int .i64 0, .int .i64 0, .int .i64 500, .int .i64 500, .int .i64 700, .int .i64 1100, .int .i64 300, .int .i64 1000, .int .i64 1000, .int .i64 2500] : List Value)) = [.int .i64 e0, .int .i64 e1, .int .i64 e2, .int .i64 e3] ∧ fewIn e0 ∧ fewIn e1 ∧ fewIn e2 ∧ fewIn e3 := by
  have hj : j = 0 ∨ j = 1 ∨ j = 2 ∨ j = 3 := by omega
  rcases hj with rfl | rfl | rfl | rfl
  all_goals exact ⟨_, _, _, _, rfl, by decide, by decide, by decide, by decide⟩
theorem cass_num (j : Nat) (h : j < 8) : ∃ x : Int, ([.int .i64 0, .int .i64 1, .int .i64 2, .int .i64 5, .int .i64 9, .int .i64 30, .int .i64 100, .int .i64 10000] : List Value)[j]? = some (.int .i64 x) ∧ 0 ≤ x ∧ x ≤ 10000 := by
  have hj : j = 0 ∨ j = 1 ∨ j = 2 ∨ j = 3 ∨ j = 4 ∨ j = 5 ∨ j = 6 ∨ j = 7 := by omega
  rcases hj with rfl | rfl | rfl | rfl | rfl | rfl | rfl | rfl
  all_goals exact ⟨_, rfl, by decide, by decide⟩
set_option maxHeartbeats 1600000 in
theorem cass_c (k : Nat) (H : Heap) (hk : k < 256) : ECalls Try.prog 9 #[.int .u8 k] H fun v H' => (∃ s, v = setV s ∧ CassOk s) ∧ Heap.le H H' := by
  refine ecalls_of_ewp (args := [_]) Try.func9 rfl rfl rfl (by simp [Try.ntmps9]) (by kernel_rfl) ?_
  have hj4 : (k : Int) % 4 = ((k % 4 : Nat) : Int) := by omega
  have hj : k % 4 < 4 := Nat.mod_lt _ (by decide)
  obtain ⟨e0, e1, e2, e3, hrow, f0, f1, f2, f3⟩ := cass_row (k % 4) hj
  generalize k % 4 = j at hj4 hj hrow
  have hm4 : (k : Int) / 4 = ((k / 4 : Nat) : Int) := by omega
  have hm64 : k / 4 < 64 := by omega
  generalize k / 4 = m at hm4 hm64
  obtain ⟨x0, hx0, X0⟩ := cass_num (m % 8) (Nat.mod_lt _ (by decide))
  obtain ⟨x1, hx1, X1⟩ := cass_num ((m + 3) % 8) (Nat.mod_lt _ (by decide))
  obtain ⟨x2, hx2, X2⟩ := cass_num ((m + 6) % 8) (Nat.mod_lt _ (by decide))
  obtain ⟨x3, hx3, X3⟩ := cass_num ((m + 9) % 8) (Nat.mod_lt _ (by decide))
  have m0 : (m : Int) % 8 = ((m % 8 : Nat) : Int) := by omega
  have m1 : ((m : Int) + 3) % 8 = (((m + 3) % 8 : Nat) : Int) := by omega
  have m2 : ((m : Int) + 6) % 8 = (((m + 6) % 8 : Nat) : Int) := by omega
  have m3 : ((m : Int) + 9) % 8 = (((m + 9) % 8 : Nat) : Int) := by omega
  have h0 : m % 8 < 8 := Nat.mod_lt _ (by decide)
  have h1 : (m + 3) % 8 < 8 := Nat.mod_lt _ (by decide)
  have h2 : (m + 6) % 8 < 8 := Nat.mod_lt _ (by decide)
  have h3 : (m + 9) % 8 < 8 := Nat.mod_lt _ (by decide)
  generalize m % 8 = a0 at *
  generalize (m + 3) % 8 = a1 at *
  generalize (m + 6) % 8 = a2 at *
  generalize (m + 9) % 8 = a3 at *
  obtain ⟨R16, hR16⟩ : ∃ R : List Value, R = [.int .i64 1000, .int .i64 2000, .int .i64 5000, .int .i64 10000, .int .i64 2000, .int .i64 5000, .int .i64 0, .int .i64 0, .int .i64 500, .int .i64 500, .int .i64 700, .int .i64 1100, .int .i64 300, .int .i64 1000, .int .i64 1000, .int .i64 2500] := ⟨_, rfl⟩
  obtain ⟨R8, hR8⟩ : ∃ R : List Value, R = [.int .i64 0, .int .i64 1, .int .i64 2, .int .i64 5, .int .i64 9, .int .i64 30, .int .i64 100, .int .i64 10000] := ⟨_, rfl⟩
  rw [← hR16] at hrow
  rw [← hR8] at hx0 hx1 hx2 hx3
  have hl16 : R16.length = 16 := by rw [hR16]; rfl
  have hl8 : R8.length = 8 := by rw [hR8]; rfl
  obtain ⟨_, hx0'⟩ := List.getElem?_eq_some_iff.1 hx0
  obtain ⟨_, hx1'⟩ := List.getElem?_eq_some_iff.1 hx1
  obtain ⟨_, hx2'⟩ := List.getElem?_eq_some_iff.1 hx2
  obtain ⟨_, hx3'⟩ := List.getElem?_eq_some_iff.1 hx3
  unfold fewIn at f0 f1 f2 f3
  have hle := Heap.le_refl H
  have hrep : rep 16 (Value.int .i64 0) = [.int .i64 0, .int .i64 0, .int .i64 0, .int .i64 0, .int .i64 0, .int .i64 0, .int .i64 0, .int .i64 0, .int .i64 0, .int .i64 0, .int .i64 0, .int .i64 0, .int .i64 0, .int .i64 0, .int .i64 0, .int .i64 0] := rfl
  simp (disch := first | omega | assumption | decide | (simp <;> omega) | fail) [facts, ]
  refine fresh_intro fun b2 hb2 => ?_
  simp (disch := first | omega | assumption | decide | (simp <;> omega) | fail) [facts, ]
  refine fresh_intro fun b10 hb10 => ?_
  have hsp : splice (splice (splice (splice (zeros [.int .i64 0, .int .i64 0, .int .i64 0, .int .i64 0] 4) 0 [.int .i64 1000, .int .i64 2000, .int .i64 5000, .int .i64 10000]) 4 [.int .i64 2000, .int .i64 5000, .int .i64 0, .int .i64 0]) 8 [.int .i64 500, .int .i64 500, .int .i64 700, .int .i64 1100]) 12 [.int .i64 300, .int .i64 1000, .int .i64 1000, .int .i64 2500] = R16 := by rw [hR16]; rfl
  rw [hsp]
  have y1 : b2 ≠ b10 := ne_of_fresh hb10 (upd_same _ _ _)
  have y1' := y1.symm
  have g10 : H b10 = none := le_of_none (le_upd _ hb2) hb10
  simp (disch := first | omega | assumption | decide | (simp <;> omega) | fail) [facts, hj4, hrow, hl16, upd_ne]
  refine fresh_intro fun b3 hb3 => ?_
  have y2 : b2 ≠ b3 := ne_of_fresh hb3 (by rw [upd_ne _ _ y1]; exact upd_same _ _ _)
  have y2' := y2.symm
  have g3 : H b3 = none := le_of_none (le_upd _ hb2) (le_of_none (le_upd _ hb10) hb3)
  simp (disch := first | omega | assumption | decide | (simp <;> omega) | fail) [facts, hj4, hrow, hl16, upd_ne, upd_upd, hrep]
  refine fresh_abs (fun H' => Heap.le H H' ∧ H' b2 = some (.row true 0 [.int .i64 0, .int .i64 0, .int .i64 0, .int .i64 0, .int .i64 0, .int .i64 0, .int .i64 0, .int .i64 0, .int .i64 0, .int .i64 0, .int .i64 0, .int .i64 0, .int .i64 0, .int .i64 0, .int .i64 0, .int .i64 0] 0) ∧ H' b3 = some (.row true 0 [.int .i64 e0, .int .i64 e1, .int .i64 e2, .int .i64 e3] 0)) ⟨?_, by simp [upd_ne, y1, y1', y2, y2'], by simp [upd_ne, y1, y1', y2, y2']⟩ ?_
  · repeat' (first | exact hle | exact Heap.le_refl _ | assumption | (refine le_of_none hle ?_; assumption) | apply le_updN)
  clear hle
  rintro H0 b4 ⟨hle, l2, l3⟩ hb4
  have y4 : b3 ≠ b4 := ne_of_fresh hb4 l3
  have y24 : b2 ≠ b4 := ne_of_fresh hb4 l2
  have y4' := y4.symm
  have g4 : H b4 = none := le_of_none hle hb4
  have l4 := upd_same H0 b4 (.row true 0 [.int .i64 0, .int .i64 0, .int .i64 0, .int .i64 0, .int .i64 0, .int .i64 0, .int .i64 0, .int .i64 0, .int .i64 0, .int .i64 0, .int .i64 0, .int .i64 0, .int .i64 0, .int .i64 0, .int .i64 0, .int .i64 0] 0)
  replace l3 := upd_other (o := .row true 0 [.int .i64 0, .int .i64 0, .int .i64 0, .int .i64 0, .int .i64 0, .int .i64 0, .int .i64 0, .int .i64 0, .int .i64 0, .int .i64 0, .int .i64 0, .int .i64 0, .int .i64 0, .int .i64 0, .int .i64 0, .int .i64 0] 0) hb4 l3
  replace l2 := upd_other (o := .row true 0 [.int .i64 0, .int .i64 0, .int .i64 0, .int .i64 0, .int .i64 0, .int .i64 0, .int .i64 0, .int .i64 0, .int .i64 0, .int .i64 0, .int .i64 0, .int .i64 0, .int .i64 0, .int .i64 0, .int .i64 0, .int .i64 0] 0) hb4 l2
  replace hle := Heap.le_trans hle (le_upd (.row true 0 [.int .i64 0, .int .i64 0, .int .i64 0, .int .i64 0, .int .i64 0, .int .i64 0, .int .i64 0, .int .i64 0, .int .i64 0, .int .i64 0, .int .i64 0, .int .i64 0, .int .i64 0, .int .i64 0, .int .i64 0, .int .i64 0] 0) hb4)
  generalize upd H0 b4 (.row true 0 [.int .i64 0, .int .i64 0, .int .i64 0, .int .i64 0, .int .i64 0, .int .i64 0, .int .i64 0, .int .i64 0, .int .i64 0, .int .i64 0, .int .i64 0, .int .i64 0, .int .i64 0, .int .i64 0, .int .i64 0, .int .i64 0] 0) = H1 at hle l2 l3 l4 ⊢
  simp (disch := first | omega | assumption | decide | (simp <;> omega) | fail) [facts, l3, l4]
  refine w_unroll 5 ?_
  simp (disch := first | omega | assumption | decide | (simp <;> omega) | fail) [facts, l3, l4]

  refine w_cutB (fun s => s.env 0 = .int .u8 k ∧ s.env 2 = .pointer (some ⟨b2, 0, none⟩) ∧ s.env 3 = .pointer (some ⟨b3, 0, none⟩) ∧ s.env 4 = .pointer (some ⟨b4, 0, none⟩) ∧ s.env 5 = .int .i64 0 ∧ Heap.le H s.heap ∧ s.heap b2 = some (.row true 0 [.int .i64 0, .int .i64 0, .int .i64 0, .int .i64 0, .int .i64 0, .int .i64 0, .int .i64 0, .int .i64 0, .int .i64 0, .int .i64 0, .int .i64 0, .int .i64 0, .int .i64 0, .int .i64 0, .int .i64 0, .int .i64 0] 0) ∧ s.heap b3 = some (.row true 0 [.int .i64 e0, .int .i64 e1, .int .i64 e2, .int .i64 e3] 0) ∧ s.heap b4 = some (.row true 0 [.int .i64 (max e0 1), .int .i64 x0, .int .i64 0, .int .i64 0, .int .i64 0, .int .i64 0, .int .i64 0, .int .i64 0, .int .i64 0, .int .i64 0, .int .i64 0, .int .i64 0, .int .i64 0, .int .i64 0, .int .i64 0, .int .i64 0] 0)) ?_ ?_
  · refine w_plan (P := Try.prog) (by simp [facts]) (opsP [0,1,2,6,7,8,9,10,11,12] (.both (opsP [3,4,5,13,14,15,16,17] .done) (opsP [5,13] (.both (opsP [3,4,14,15,16,17] .done) (opsP [14,3,4,15,16,17] .done))))) ?_ ?_
    · decide +kernel
    simp (disch := first | omega | assumption | decide | (simp <;> omega) | fail) [facts, l3, l4, hm4, m0, m1, m2, m3]
    try (repeat' apply And.intro)
    all_goals
      refine fresh_intro fun b hb => ?_
      rw [← hR8]
      have n3 : b3 ≠ b := ne_of_fresh hb l3
      have n4 : b4 ≠ b := ne_of_fresh hb l4
      have n2 : b2 ≠ b := ne_of_fresh hb l2
      have n4' := n4.symm
      simp (disch := first | omega | assumption | decide | (simp <;> omega) | fail) [facts, l3, l4, hm4, m0, m1, m2, m3, hx0, hx0', hl8, upd_ne]
      try (repeat' apply And.intro)
      all_goals first
        | exact ⟨le_updN _ (Heap.le_trans hle (le_upd _ hb)) g4, by simp [upd_ne, n2, y24, l2], by simp [upd_ne, n3, y4, l3]⟩
        | exact le_updN _ (Heap.le_trans hle (le_upd _ hb)) g4
        | (simp [upd_ne, n2, n3, y24, y4, l2, l3])
        | (simp [upd_ne, n2, n3, y24, y4, l2, l3]; exact le_updN _ (Heap.le_trans hle (le_upd _ hb)) g4)
  clear hle l2 l3 l4
  rintro ⟨e, J0⟩ ⟨e0', e2', e3', e4', e5', hle, l2, l3, l4⟩
  simp only at e0' e2' e3' e4' e5' hle l2 l3 l4
  simp (disch := first | omega | assumption | decide | (simp <;> omega) | fail) [facts, e0', e2', e3', e4', e5', l2, l3, l4, upd_ne, upd_upd]
  refine w_cutB (fun s => s.env 0 = .int .u8 k ∧ s.env 2 = .pointer (some ⟨b2, 0, none⟩) ∧ s.env 3 = .pointer (some ⟨b3, 0, none⟩) ∧ s.env 4 = .pointer (some ⟨b4, 0, none⟩) ∧ s.env 5 = .int .i64 1 ∧ Heap.le H s.heap ∧ s.heap b2 = some (.row true 0 [.int .i64 0, .int .i64 0, .int .i64 0, .int .i64 0, .int .i64 0, .int .i64 0, .int .i64 0, .int .i64 0, .int .i64 0, .int .i64 0, .int .i64 0, .int .i64 0, .int .i64 0, .int .i64 0, .int .i64 0, .int .i64 0] 0) ∧ s.heap b3 = some (.row true 0 [.int .i64 e0, .int .i64 e1, .int .i64 e2, .int .i64 e3] 0) ∧ s.heap b4 = some (.row true 0 [.int .i64 (max e0 1), .int .i64 x0, .int .i64 0, .int .i64 0, .int .i64 (max e1 1), .int .i64 x1, .int .i64 0, .int .i64 0, .int .i64 0, .int .i64 0, .int .i64 0, .int .i64 0, .int .i64 0, .int .i64 0, .int .i64 0, .int .i64 0] 0)) ?_ ?_
  · refine w_plan (P := Try.prog) (by simp [facts]) (opsP [0,1,2,6,7,8,9,10,11,12] (.both (opsP [3,4,5,13,14,15,16,17] .done) (opsP [5,13] (.both (opsP [3,4,14,15,16,17] .done) (opsP [14,3,4,15,16,17] .done))))) ?_ ?_
    · decide +kernel
    simp (disch := first | omega | assumption | decide | (simp <;> omega) | fail) [facts, e0', e2', e3', e4', e5', l3, l4, hm4, m0, m1, m2, m3]
    try (repeat' apply And.intro)
    all_goals
      refine fresh_intro fun b hb => ?_
      rw [← hR8]
      have n3 : b3 ≠ b := ne_of_fresh hb l3
      have n4 : b4 ≠ b := ne_of_fresh hb l4
      have n2 : b2 ≠ b := ne_of_fresh hb l2
      have n4' := n4.symm
      simp (disch := first | omega | assumption | decide | (simp <;> omega) | fail) [facts, e0', e2', e3', e4', e5', l3, l4, hm4, m0, m1, m2, m3, hx1, hx1', hl8, upd_ne]
      try (repeat' apply And.intro)
      all_goals first
        | exact ⟨le_updN _ (Heap.le_trans hle (le_upd _ hb)) g4, by simp [upd_ne, n2, y24, l2], by simp [upd_ne, n3, y4, l3]⟩
        | exact le_updN _ (Heap.le_trans hle (le_upd _ hb)) g4
        | (simp [upd_ne, n2, n3, y24, y4, l2, l3])
        | (simp [upd_ne, n2, n3, y24, y4, l2, l3]; exact le_updN _ (Heap.le_trans hle (le_upd _ hb)) g4)
  clear hle l2 l3 l4
  rintro ⟨e, J1⟩ ⟨e0', e2', e3', e4', e5', hle, l2, l3, l4⟩
  simp only at e0' e2' e3' e4' e5' hle l2 l3 l4
  simp (disch := first | omega | assumption | decide | (simp <;> omega) | fail) [facts, e0', e2', e3', e4', e5', l2, l3, l4, upd_ne, upd_upd]
  refine w_cutB (fun s => s.env 0 = .int .u8 k ∧ s.env 2 = .pointer (some ⟨b2, 0, none⟩) ∧ s.env 3 = .pointer (some ⟨b3, 0, none⟩) ∧ s.env 4 = .pointer (some ⟨b4, 0, none⟩) ∧ s.env 5 = .int .i64 2 ∧ Heap.le H s.heap ∧ s.heap b2 = some (.row true 0 [.int .i64 0, .int .i64 0, .int .i64 0, .int .i64 0, .int .i64 0, .int .i64 0, .int .i64 0, .int .i64 0, .int .i64 0, .int .i64 0, .int .i64 0, .int .i64 0, .int .i64 0, .int .i64 0, .int .i64 0, .int .i64 0] 0) ∧ s.heap b3 = some (.row true 0 [.int .i64 e0, .int .i64 e1, .int .i64 e2, .int .i64 e3] 0) ∧ s.heap b4 = some (.row true 0 [.int .i64 (max e0 1), .int .i64 x0, .int .i64 0, .int .i64 0, .int .i64 (max e1 1), .int .i64 x1, .int .i64 0, .int .i64 0, .int .i64 (max e2 1), .int .i64 x2, .int .i64 0, .int .i64 0, .int .i64 0, .int .i64 0, .int .i64 0, .int .i64 0] 0)) ?_ ?_
  · refine w_plan (P := Try.prog) (by simp [facts]) (opsP [0,1,2,6,7,8,9,10,11,12] (.both (opsP [3,4,5,13,14,15,16,17] .done) (opsP [5,13] (.both (opsP [3,4,14,15,16,17] .done) (opsP [14,3,4,15,16,17] .done))))) ?_ ?_
    · decide +kernel
    simp (disch := first | omega | assumption | decide | (simp <;> omega) | fail) [facts, e0', e2', e3', e4', e5', l3, l4, hm4, m0, m1, m2, m3]
    try (repeat' apply And.intro)
    all_goals
      refine fresh_intro fun b hb => ?_
      rw [← hR8]
      have n3 : b3 ≠ b := ne_of_fresh hb l3
      have n4 : b4 ≠ b := ne_of_fresh hb l4
      have n2 : b2 ≠ b := ne_of_fresh hb l2
      have n4' := n4.symm
      simp (disch := first | omega | assumption | decide | (simp <;> omega) | fail) [facts, e0', e2', e3', e4', e5', l3, l4, hm4, m0, m1, m2, m3, hx2, hx2', hl8, upd_ne]
      try (repeat' apply And.intro)
      all_goals first
        | exact ⟨le_updN _ (Heap.le_trans hle (le_upd _ hb)) g4, by simp [upd_ne, n2, y24, l2], by simp [upd_ne, n3, y4, l3]⟩
        | exact le_updN _ (Heap.le_trans hle (le_upd _ hb)) g4
        | (simp [upd_ne, n2, n3, y24, y4, l2, l3])
        | (simp [upd_ne, n2, n3, y24, y4, l2, l3]; exact le_updN _ (Heap.le_trans hle (le_upd _ hb)) g4)
  clear hle l2 l3 l4
  rintro ⟨e, J2⟩ ⟨e0', e2', e3', e4', e5', hle, l2, l3, l4⟩
  simp only at e0' e2' e3' e4' e5' hle l2 l3 l4
  simp (disch := first | omega | assumption | decide | (simp <;> omega) | fail) [facts, e0', e2', e3', e4', e5', l2, l3, l4, upd_ne, upd_upd]
  refine w_cutB (fun s => s.env 0 = .int .u8 k ∧ s.env 2 = .pointer (some ⟨b2, 0, none⟩) ∧ s.env 3 = .pointer (some ⟨b3, 0, none⟩) ∧ s.env 4 = .pointer (some ⟨b4, 0, none⟩) ∧ s.env 5 = .int .i64 3 ∧ Heap.le H s.heap ∧ s.heap b2 = some (.row true 0 [.int .i64 0, .int .i64 0, .int .i64 0, .int .i64 0, .int .i64 0, .int .i64 0, .int .i64 0, .int .i64 0, .int .i64 0, .int .i64 0, .int .i64 0, .int .i64 0, .int .i64 0, .int .i64 0, .int .i64 0, .int .i64 0] 0) ∧ s.heap b3 = some (.row true 0 [.int .i64 e0, .int .i64 e1, .int .i64 e2, .int .i64 e3] 0) ∧ s.heap b4 = some (.row true 0 [.int .i64 (max e0 1), .int .i64 x0, .int .i64 0, .int .i64 0, .int .i64 (max e1 1), .int .i64 x1, .int .i64 0, .int .i64 0, .int .i64 (max e2 1), .int .i64 x2, .int .i64 0, .int .i64 0, .int .i64 (max e3 1), .int .i64 x3, .int .i64 0, .int .i64 0] 0)) ?_ ?_
  · refine w_plan (P := Try.prog) (by simp [facts]) (opsP [0,1,2,6,7,8,9,10,11,12] (.both (opsP [3,4,5,13,14,15,16,17] .done) (opsP [5,13] (.both (opsP [3,4,14,15,16,17] .done) (opsP [14,3,4,15,16,17] .done))))) ?_ ?_
    · decide +kernel
    simp (disch := first | omega | assumption | decide | (simp <;> omega) | fail) [facts, e0', e2', e3', e4', e5', l3, l4, hm4, m0, m1, m2, m3]
    try (repeat' apply And.intro)
    all_goals
      refine fresh_intro fun b hb => ?_
      rw [← hR8]
      have n3 : b3 ≠ b := ne_of_fresh hb l3
      have n4 : b4 ≠ b := ne_of_fresh hb l4
      have n2 : b2 ≠ b := ne_of_fresh hb l2
      have n4' := n4.symm
      simp (disch := first | omega | assumption | decide | (simp <;> omega) | fail) [facts, e0', e2', e3', e4', e5', l3, l4, hm4, m0, m1, m2, m3, hx3, hx3', hl8, upd_ne]
      try (repeat' apply And.intro)
      all_goals first
        | exact ⟨le_updN _ (Heap.le_trans hle (le_upd _ hb)) g4, by simp [upd_ne, n2, y24, l2], by simp [upd_ne, n3, y4, l3]⟩
        | exact le_updN _ (Heap.le_trans hle (le_upd _ hb)) g4
        | (simp [upd_ne, n2, n3, y24, y4, l2, l3])
        | (simp [upd_ne, n2, n3, y24, y4, l2, l3]; exact le_updN _ (Heap.le_trans hle (le_upd _ hb)) g4)
  clear hle l2 l3 l4
  rintro ⟨e, J3⟩ ⟨e0', e2', e3', e4', e5', hle, l2, l3, l4⟩
  simp only at e0' e2' e3' e4' e5' hle l2 l3 l4
  simp (disch := first | omega | assumption | decide | (simp <;> omega) | fail) [facts, e0', e2', e3', e4', e5', l2, l3, l4, upd_ne, upd_upd]
  refine ⟨_, Heap.le_refl _, ⟨⟨⟨max e0 1, x0, 0, 0⟩, ⟨max e1 1, x1, 0, 0⟩, ⟨max e2 1, x2, 0, 0⟩, ⟨max e3 1, x3, 0, 0⟩⟩, rfl, ⟨by show 1 ≤ max e0 1; omega, by show max e0 1 ≤ 10000; omega, X0.1, X0.2, rfl, rfl⟩, ⟨by show 1 ≤ max e1 1; omega, by show max e1 1 ≤ 10000; omega, X1.1, X1.2, rfl, rfl⟩, ⟨by show 1 ≤ max e2 1; omega, by show max e2 1 ≤ 10000; omega, X2.1, X2.2, rfl, rfl⟩, ⟨by show 1 ≤ max e3 1; omega, by show max e3 1 ≤ 10000; omega, X3.1, X3.2, rfl, rfl⟩⟩, ?_⟩
  repeat' (first | exact hle | exact Heap.le_refl _ | assumption | (refine le_of_none hle ?_; assumption) | apply le_updN)

end Go.Proofs.Ytiaigpkaajnpoaa.GL
