/- Layer 20: the cassettes of a number (layer 17's text).; Layer 20: the configuration of a number.; Layer 20: money.Right of the configuration of a number.; Layer 20: the document's word on the configuration of a number.; Layer 20: a new book.; Layer 20: a new book of the reference. -/
import Derived.Test.YtfpighmafofoeaaDoorBkS
import Derived.Test.YtfpighmafofoeaaDoorBsT
import Derived.Test.YtfpighmafofoeaaDoorBqX
import Derived.Test.YtfpighmafofoeaaDoorBrFa
namespace Go.Proofs.YtfpighmafofoeaaDoor.GL.Ca
open Go Go.RowKit Go.Proofs.YtfpighmafofoeaaDoor.GL
set_option maxRecDepth 10000
set_option pp.deepTerms.threshold 8
set_option pp.maxSteps 3000
set_option linter.unusedSimpArgs false
set_option linter.unusedVariables false

def COk (c : Cs) : Prop := 1 ≤ c.d ∧ c.d ≤ 10000 ∧ 0 ≤ c.l ∧ c.l ≤ 10000 ∧ c.g = 0 ∧ c.r = 0
def CassOk (s : S4) : Prop := COk s.a ∧ COk s.b ∧ COk s.c ∧ COk s.e
theorem cass_row (j : Nat) (h : j < 4) : ∃ e0 e1 e2 e3 : Int, List.take 4 (List.drop (j * 4) ([.int .i64 1000, .int .i64 2000, .int .i64 5000, .int .i64 10000, .int .i64 2000, .int .i64 5000, .int .i64 0, .int .i64 0, .int .i64 500, .int .i64 500, .int .i64 700, .int .i64 1100, .int .i64 300, .int .i64 1000, .int .i64 1000, .int .i64 2500] : List Value)) = [.int .i64 e0, .int .i64 e1, .int .i64 e2, .int .i64 e3] ∧ fewIn e0 ∧ fewIn e1 ∧ fewIn e2 ∧ fewIn e3 := by
  have hj : j = 0 ∨ j = 1 ∨ j = 2 ∨ j = 3 := by omega
  rcases hj with rfl | rfl | rfl | rfl
  all_goals exact ⟨_, _, _, _, rfl, by decide, by decide, by decide, by decide⟩
theorem cass_num (j : Nat) (h : j < 8) : ∃ x : Int, ([.int .i64 0, .int .i64 1, .int .i64 2, .int .i64 5, .int .i64 9, .int .i64 30, .int .i64 100, .int .i64 10000] : List Value)[j]? = some (.int .i64 x) ∧ 0 ≤ x ∧ x ≤ 10000 := by
  have hj : j = 0 ∨ j = 1 ∨ j = 2 ∨ j = 3 ∨ j = 4 ∨ j = 5 ∨ j = 6 ∨ j = 7 := by omega
  rcases hj with rfl | rfl | rfl | rfl | rfl | rfl | rfl | rfl
  all_goals exact ⟨_, rfl, by decide, by decide⟩
set_option maxHeartbeats 1600000 in
theorem cass_c (k : Nat) (H : Heap) (hk : k < 256) : ECalls Tryd.prog 13 #[.int .u8 k] H fun v H' => (∃ s, v = setV s ∧ CassOk s) ∧ Heap.le H H' := by
  refine ecalls_of_ewp (args := [_]) Tryd.func13 rfl rfl rfl (by simp [Tryd.ntmps13]) (by kernel_rfl) ?_
  have hj4 : (k : Int) % 4 = ((k % 4 : Nat) : Int) := by omega
  have hj : k % 4 < 4 := Nat.mod_lt _ (by decide)
  obtain ⟨e0, e1, e2, e3, hrow, f0, f1, f2, f3⟩ := cass_row (k % 4) hj
  generalize k % 4 = j at hj4 hj hrow
  have hm4 : (k : Int) / 4 = ((k / 4 : Nat) : Int) := by omega
  have hm64 : k / 4 < 64 := by omega
  generalize k / 4 = m at hm4 hm64
  obtain ⟨x0, hx0, X0⟩ := cass_num (m % 8) (Nat.mod_lt _ (by decide))
  obtain ⟨x1, hx1, X1⟩ := cass_num ((m + 3) % 8) (Nat.mod_lt _ (by decide))
  obtain ⟨x2, hx2, X2⟩ := cass_num ((m + 6) % 8) (Nat.mod_lt _ (by decide))
  obtain ⟨x3, hx3, X3⟩ := cass_num ((m + 9) % 8) (Nat.mod_lt _ (by decide))
  have m0 : (m : Int) % 8 = ((m % 8 : Nat) : Int) := by omega
  have m1 : ((m : Int) + 3) % 8 = (((m + 3) % 8 : Nat) : Int) := by omega
  have m2 : ((m : Int) + 6) % 8 = (((m + 6) % 8 : Nat) : Int) := by omega
  have m3 : ((m : Int) + 9) % 8 = (((m + 9) % 8 : Nat) : Int) := by omega
  have h0 : m % 8 < 8 := Nat.mod_lt _ (by decide)
  have h1 : (m + 3) % 8 < 8 := Nat.mod_lt _ (by decide)
  have h2 : (m + 6) % 8 < 8 := Nat.mod_lt _ (by decide)
  have h3 : (m + 9) % 8 < 8 := Nat.mod_lt _ (by decide)
  generalize m % 8 = a0 at *
  generalize (m + 3) % 8 = a1 at *
  generalize (m + 6) % 8 = a2 at *
  generalize (m + 9) % 8 = a3 at *
  obtain ⟨R16, hR16⟩ : ∃ R : List Value, R = [.int .i64 1000, .int .i64 2000, .int .i64 5000, .int .i64 10000, .int .i64 2000, .int .i64 5000, .int .i64 0, .int .i64 0, .int .i64 500, .int .i64 500, .int .i64 700, .int .i64 1100, .int .i64 300, .int .i64 1000, .int .i64 1000, .int .i64 2500] := ⟨_, rfl⟩
  obtain ⟨R8, hR8⟩ : ∃ R : List Value, R = [.int .i64 0, .int .i64 1, .int .i64 2, .int .i64 5, .int .i64 9, .int .i64 30, .int .i64 100, .int .i64 10000] := ⟨_, rfl⟩
  rw [← hR16] at hrow
  rw [← hR8] at hx0 hx1 hx2 hx3
  have hl16 : R16.length = 16 := by rw [hR16]; rfl
  have hl8 : R8.length = 8 := by rw [hR8]; rfl
  obtain ⟨_, hx0'⟩ := List.getElem?_eq_some_iff.1 hx0
  obtain ⟨_, hx1'⟩ := List.getElem?_eq_some_iff.1 hx1
  obtain ⟨_, hx2'⟩ := List.getElem?_eq_some_iff.1 hx2
  obtain ⟨_, hx3'⟩ := List.getElem?_eq_some_iff.1 hx3
  unfold fewIn at f0 f1 f2 f3
  have hle := Heap.le_refl H
  have hrep : rep 16 (Value.int .i64 0) = [.int .i64 0, .int .i64 0, .int .i64 0, .int .i64 0, .int .i64 0, .int .i64 0, .int .i64 0, .int .i64 0, .int .i64 0, .int .i64 0, .int .i64 0, .int .i64 0, .int .i64 0, .int .i64 0, .int .i64 0, .int .i64 0] := rfl
  simp (disch := first | omega | assumption | decide | (simp <;> omega) | fail) [facts, ]
  refine fresh_intro fun b2 hb2 => ?_
  simp (disch := first | omega | assumption | decide | (simp <;> omega) | fail) [facts, ]
  refine fresh_intro fun b10 hb10 => ?_
  have hsp : splice (splice (splice (splice (zeros [.int .i64 0, .int .i64 0, .int .i64 0, .int .i64 0] 4) 0 [.int .i64 1000, .int .i64 2000, .int .i64 5000, .int .i64 10000]) 4 [.int .i64 2000, .int .i64 5000, .int .i64 0, .int .i64 0]) 8 [.int .i64 500, .int .i64 500, .int .i64 700, .int .i64 1100]) 12 [.int .i64 300, .int .i64 1000, .int .i64 1000, .int .i64 2500] = R16 := by rw [hR16]; rfl
  rw [hsp]
  have y1 : b2 ≠ b10 := ne_of_fresh hb10 (upd_same _ _ _)
  have y1' := y1.symm
  have g10 : H b10 = none := le_of_none (le_upd _ hb2) hb10
  simp (disch := first | omega | assumption | decide | (simp <;> omega) | fail) [facts, hj4, hrow, hl16, upd_ne]
  refine fresh_intro fun b3 hb3 => ?_
  have y2 : b2 ≠ b3 := ne_of_fresh hb3 (by rw [upd_ne _ _ y1]; exact upd_same _ _ _)
  have y2' := y2.symm
  have g3 : H b3 = none := le_of_none (le_upd _ hb2) (le_of_none (le_upd _ hb10) hb3)
  simp (disch := first | omega | assumption | decide | (simp <;> omega) | fail) [facts, hj4, hrow, hl16, upd_ne, upd_upd, hrep]
  refine fresh_abs (fun H' => Heap.le H H' ∧ H' b2 = some (.row true 0 [.int .i64 0, .int .i64 0, .int .i64 0, .int .i64 0, .int .i64 0, .int .i64 0, .int .i64 0, .int .i64 0, .int .i64 0, .int .i64 0, .int .i64 0, .int .i64 0, .int .i64 0, .int .i64 0, .int .i64 0, .int .i64 0] 0) ∧ H' b3 = some (.row true 0 [.int .i64 e0, .int .i64 e1, .int .i64 e2, .int .i64 e3] 0)) ⟨?_, by simp [upd_ne, y1, y1', y2, y2'], by simp [upd_ne, y1, y1', y2, y2']⟩ ?_
  · repeat' (first | exact hle | exact Heap.le_refl _ | assumption | (refine le_of_none hle ?_; assumption) | apply le_updN)
  clear hle
  rintro H0 b4 ⟨hle, l2, l3⟩ hb4
  have y4 : b3 ≠ b4 := ne_of_fresh hb4 l3
  have y24 : b2 ≠ b4 := ne_of_fresh hb4 l2
  have y4' := y4.symm
  have g4 : H b4 = none := le_of_none hle hb4
  have l4 := upd_same H0 b4 (.row true 0 [.int .i64 0, .int .i64 0, .int .i64 0, .int .i64 0, .int .i64 0, .int .i64 0, .int .i64 0, .int .i64 0, .int .i64 0, .int .i64 0, .int .i64 0, .int .i64 0, .int .i64 0, .int .i64 0, .int .i64 0, .int .i64 0] 0)
  replace l3 := upd_other (o := .row true 0 [.int .i64 0, .int .i64 0, .int .i64 0, .int .i64 0, .int .i64 0, .int .i64 0, .int .i64 0, .int .i64 0, .int .i64 0, .int .i64 0, .int .i64 0, .int .i64 0, .int .i64 0, .int .i64 0, .int .i64 0, .int .i64 0] 0) hb4 l3
  replace l2 := upd_other (o := .row true 0 [.int .i64 0, .int .i64 0, .int .i64 0, .int .i64 0, .int .i64 0, .int .i64 0, .int .i64 0, .int .i64 0, .int .i64 0, .int .i64 0, .int .i64 0, .int .i64 0, .int .i64 0, .int .i64 0, .int .i64 0, .int .i64 0] 0) hb4 l2
  replace hle := Heap.le_trans hle (le_upd (.row true 0 [.int .i64 0, .int .i64 0, .int .i64 0, .int .i64 0, .int .i64 0, .int .i64 0, .int .i64 0, .int .i64 0, .int .i64 0, .int .i64 0, .int .i64 0, .int .i64 0, .int .i64 0, .int .i64 0, .int .i64 0, .int .i64 0] 0) hb4)
  generalize upd H0 b4 (.row true 0 [.int .i64 0, .int .i64 0, .int .i64 0, .int .i64 0, .int .i64 0, .int .i64 0, .int .i64 0, .int .i64 0, .int .i64 0, .int .i64 0, .int .i64 0, .int .i64 0, .int .i64 0, .int .i64 0, .int .i64 0, .int .i64 0] 0) = H1 at hle l2 l3 l4 ⊢
  simp (disch := first | omega | assumption | decide | (simp <;> omega) | fail) [facts, l3, l4]
  refine w_unroll 5 ?_
  simp (disch := first | omega | assumption | decide | (simp <;> omega) | fail) [facts, l3, l4]

  refine w_cutB (fun s => s.env 0 = .int .u8 k ∧ s.env 2 = .pointer (some ⟨b2, 0, none⟩) ∧ s.env 3 = .pointer (some ⟨b3, 0, none⟩) ∧ s.env 4 = .pointer (some ⟨b4, 0, none⟩) ∧ s.env 5 = .int .i64 0 ∧ Heap.le H s.heap ∧ s.heap b2 = some (.row true 0 [.int .i64 0, .int .i64 0, .int .i64 0, .int .i64 0, .int .i64 0, .int .i64 0, .int .i64 0, .int .i64 0, .int .i64 0, .int .i64 0, .int .i64 0, .int .i64 0, .int .i64 0, .int .i64 0, .int .i64 0, .int .i64 0] 0) ∧ s.heap b3 = some (.row true 0 [.int .i64 e0, .int .i64 e1, .int .i64 e2, .int .i64 e3] 0) ∧ s.heap b4 = some (.row true 0 [.int .i64 (max e0 1), .int .i64 x0, .int .i64 0, .int .i64 0, .int .i64 0, .int .i64 0, .int .i64 0, .int .i64 0, .int .i64 0, .int .i64 0, .int .i64 0, .int .i64 0, .int .i64 0, .int .i64 0, .int .i64 0, .int .i64 0] 0)) ?_ ?_
  · refine w_plan (P := Tryd.prog) (by simp [facts]) (opsP [0,1,2,6,7,8,9,10,11,12] (.both (opsP [3,4,5,13,14,15,16,17] .done) (opsP [5,13] (.both (opsP [3,4,14,15,16,17] .done) (opsP [14,3,4,15,16,17] .done))))) ?_ ?_
    · decide +kernel
    simp (disch := first | omega | assumption | decide | (simp <;> omega) | fail) [facts, l3, l4, hm4, m0, m1, m2, m3]
    try (repeat' apply And.intro)
    all_goals
      refine fresh_intro fun b hb => ?_
      rw [← hR8]
      have n3 : b3 ≠ b := ne_of_fresh hb l3
      have n4 : b4 ≠ b := ne_of_fresh hb l4
      have n2 : b2 ≠ b := ne_of_fresh hb l2
      have n4' := n4.symm
      simp (disch := first | omega | assumption | decide | (simp <;> omega) | fail) [facts, l3, l4, hm4, m0, m1, m2, m3, hx0, hx0', hl8, upd_ne]
      try (repeat' apply And.intro)
      all_goals first
        | exact ⟨le_updN (Heap.le_trans hle (le_upd _ hb)) g4 _, by simp [upd_ne, n2, y24, l2], by simp [upd_ne, n3, y4, l3]⟩
        | exact le_updN (Heap.le_trans hle (le_upd _ hb)) g4 _
        | (simp [upd_ne, n2, n3, y24, y4, l2, l3])
        | (simp [upd_ne, n2, n3, y24, y4, l2, l3]; exact le_updN (Heap.le_trans hle (le_upd _ hb)) g4 _)
  clear hle l2 l3 l4
  rintro ⟨e, J0⟩ ⟨e0', e2', e3', e4', e5', hle, l2, l3, l4⟩
  simp only at e0' e2' e3' e4' e5' hle l2 l3 l4
  simp (disch := first | omega | assumption | decide | (simp <;> omega) | fail) [facts, e0', e2', e3', e4', e5', l2, l3, l4, upd_ne, upd_upd]
  refine w_cutB (fun s => s.env 0 = .int .u8 k ∧ s.env 2 = .pointer (some ⟨b2, 0, none⟩) ∧ s.env 3 = .pointer (some ⟨b3, 0, none⟩) ∧ s.env 4 = .pointer (some ⟨b4, 0, none⟩) ∧ s.env 5 = .int .i64 1 ∧ Heap.le H s.heap ∧ s.heap b2 = some (.row true 0 [.int .i64 0, .int .i64 0, .int .i64 0, .int .i64 0, .int .i64 0, .int .i64 0, .int .i64 0, .int .i64 0, .int .i64 0, .int .i64 0, .int .i64 0, .int .i64 0, .int .i64 0, .int .i64 0, .int .i64 0, .int .i64 0] 0) ∧ s.heap b3 = some (.row true 0 [.int .i64 e0, .int .i64 e1, .int .i64 e2, .int .i64 e3] 0) ∧ s.heap b4 = some (.row true 0 [.int .i64 (max e0 1), .int .i64 x0, .int .i64 0, .int .i64 0, .int .i64 (max e1 1), .int .i64 x1, .int .i64 0, .int .i64 0, .int .i64 0, .int .i64 0, .int .i64 0, .int .i64 0, .int .i64 0, .int .i64 0, .int .i64 0, .int .i64 0] 0)) ?_ ?_
  · refine w_plan (P := Tryd.prog) (by simp [facts]) (opsP [0,1,2,6,7,8,9,10,11,12] (.both (opsP [3,4,5,13,14,15,16,17] .done) (opsP [5,13] (.both (opsP [3,4,14,15,16,17] .done) (opsP [14,3,4,15,16,17] .done))))) ?_ ?_
    · decide +kernel
    simp (disch := first | omega | assumption | decide | (simp <;> omega) | fail) [facts, e0', e2', e3', e4', e5', l3, l4, hm4, m0, m1, m2, m3]
    try (repeat' apply And.intro)
    all_goals
      refine fresh_intro fun b hb => ?_
      rw [← hR8]
      have n3 : b3 ≠ b := ne_of_fresh hb l3
      have n4 : b4 ≠ b := ne_of_fresh hb l4
      have n2 : b2 ≠ b := ne_of_fresh hb l2
      have n4' := n4.symm
      simp (disch := first | omega | assumption | decide | (simp <;> omega) | fail) [facts, e0', e2', e3', e4', e5', l3, l4, hm4, m0, m1, m2, m3, hx1, hx1', hl8, upd_ne]
      try (repeat' apply And.intro)
      all_goals first
        | exact ⟨le_updN (Heap.le_trans hle (le_upd _ hb)) g4 _, by simp [upd_ne, n2, y24, l2], by simp [upd_ne, n3, y4, l3]⟩
        | exact le_updN (Heap.le_trans hle (le_upd _ hb)) g4 _
        | (simp [upd_ne, n2, n3, y24, y4, l2, l3])
        | (simp [upd_ne, n2, n3, y24, y4, l2, l3]; exact le_updN (Heap.le_trans hle (le_upd _ hb)) g4 _)
  clear hle l2 l3 l4
  rintro ⟨e, J1⟩ ⟨e0', e2', e3', e4', e5', hle, l2, l3, l4⟩
  simp only at e0' e2' e3' e4' e5' hle l2 l3 l4
  simp (disch := first | omega | assumption | decide | (simp <;> omega) | fail) [facts, e0', e2', e3', e4', e5', l2, l3, l4, upd_ne, upd_upd]
  refine w_cutB (fun s => s.env 0 = .int .u8 k ∧ s.env 2 = .pointer (some ⟨b2, 0, none⟩) ∧ s.env 3 = .pointer (some ⟨b3, 0, none⟩) ∧ s.env 4 = .pointer (some ⟨b4, 0, none⟩) ∧ s.env 5 = .int .i64 2 ∧ Heap.le H s.heap ∧ s.heap b2 = some (.row true 0 [.int .i64 0, .int .i64 0, .int .i64 0, .int .i64 0, .int .i64 0, .int .i64 0, .int .i64 0, .int .i64 0, .int .i64 0, .int .i64 0, .int .i64 0, .int .i64 0, .int .i64 0, .int .i64 0, .int .i64 0, .int .i64 0] 0) ∧ s.heap b3 = some (.row true 0 [.int .i64 e0, .int .i64 e1, .int .i64 e2, .int .i64 e3] 0) ∧ s.heap b4 = some (.row true 0 [.int .i64 (max e0 1), .int .i64 x0, .int .i64 0, .int .i64 0, .int .i64 (max e1 1), .int .i64 x1, .int .i64 0, .int .i64 0, .int .i64 (max e2 1), .int .i64 x2, .int .i64 0, .int .i64 0, .int .i64 0, .int .i64 0, .int .i64 0, .int .i64 0] 0)) ?_ ?_
  · refine w_plan (P := Tryd.prog) (by simp [facts]) (opsP [0,1,2,6,7,8,9,10,11,12] (.both (opsP [3,4,5,13,14,15,16,17] .done) (opsP [5,13] (.both (opsP [3,4,14,15,16,17] .done) (opsP [14,3,4,15,16,17] .done))))) ?_ ?_
    · decide +kernel
    simp (disch := first | omega | assumption | decide | (simp <;> omega) | fail) [facts, e0', e2', e3', e4', e5', l3, l4, hm4, m0, m1, m2, m3]
    try (repeat' apply And.intro)
    all_goals
      refine fresh_intro fun b hb => ?_
      rw [← hR8]
      have n3 : b3 ≠ b := ne_of_fresh hb l3
      have n4 : b4 ≠ b := ne_of_fresh hb l4
      have n2 : b2 ≠ b := ne_of_fresh hb l2
      have n4' := n4.symm
      simp (disch := first | omega | assumption | decide | (simp <;> omega) | fail) [facts, e0', e2', e3', e4', e5', l3, l4, hm4, m0, m1, m2, m3, hx2, hx2', hl8, upd_ne]
      try (repeat' apply And.intro)
      all_goals first
        | exact ⟨le_updN (Heap.le_trans hle (le_upd _ hb)) g4 _, by simp [upd_ne, n2, y24, l2], by simp [upd_ne, n3, y4, l3]⟩
        | exact le_updN (Heap.le_trans hle (le_upd _ hb)) g4 _
        | (simp [upd_ne, n2, n3, y24, y4, l2, l3])
        | (simp [upd_ne, n2, n3, y24, y4, l2, l3]; exact le_updN (Heap.le_trans hle (le_upd _ hb)) g4 _)
  clear hle l2 l3 l4
  rintro ⟨e, J2⟩ ⟨e0', e2', e3', e4', e5', hle, l2, l3, l4⟩
  simp only at e0' e2' e3' e4' e5' hle l2 l3 l4
  simp (disch := first | omega | assumption | decide | (simp <;> omega) | fail) [facts, e0', e2', e3', e4', e5', l2, l3, l4, upd_ne, upd_upd]
  refine w_cutB (fun s => s.env 0 = .int .u8 k ∧ s.env 2 = .pointer (some ⟨b2, 0, none⟩) ∧ s.env 3 = .pointer (some ⟨b3, 0, none⟩) ∧ s.env 4 = .pointer (some ⟨b4, 0, none⟩) ∧ s.env 5 = .int .i64 3 ∧ Heap.le H s.heap ∧ s.heap b2 = some (.row true 0 [.int .i64 0, .int .i64 0, .int .i64 0, .int .i64 0, .int .i64 0, .int .i64 0, .int .i64 0, .int .i64 0, .int .i64 0, .int .i64 0, .int .i64 0, .int .i64 0, .int .i64 0, .int .i64 0, .int .i64 0, .int .i64 0] 0) ∧ s.heap b3 = some (.row true 0 [.int .i64 e0, .int .i64 e1, .int .i64 e2, .int .i64 e3] 0) ∧ s.heap b4 = some (.row true 0 [.int .i64 (max e0 1), .int .i64 x0, .int .i64 0, .int .i64 0, .int .i64 (max e1 1), .int .i64 x1, .int .i64 0, .int .i64 0, .int .i64 (max e2 1), .int .i64 x2, .int .i64 0, .int .i64 0, .int .i64 (max e3 1), .int .i64 x3, .int .i64 0, .int .i64 0] 0)) ?_ ?_
  · refine w_plan (P := Tryd.prog) (by simp [facts]) (opsP [0,1,2,6,7,8,9,10,11,12] (.both (opsP [3,4,5,13,14,15,16,17] .done) (opsP [5,13] (.both (opsP [3,4,14,15,16,17] .done) (opsP [14,3,4,15,16,17] .done))))) ?_ ?_
    · decide +kernel
    simp (disch := first | omega | assumption | decide | (simp <;> omega) | fail) [facts, e0', e2', e3', e4', e5', l3, l4, hm4, m0, m1, m2, m3]
    try (repeat' apply And.intro)
    all_goals
      refine fresh_intro fun b hb => ?_
      rw [← hR8]
      have n3 : b3 ≠ b := ne_of_fresh hb l3
      have n4 : b4 ≠ b := ne_of_fresh hb l4
      have n2 : b2 ≠ b := ne_of_fresh hb l2
      have n4' := n4.symm
      simp (disch := first | omega | assumption | decide | (simp <;> omega) | fail) [facts, e0', e2', e3', e4', e5', l3, l4, hm4, m0, m1, m2, m3, hx3, hx3', hl8, upd_ne]
      try (repeat' apply And.intro)
      all_goals first
        | exact ⟨le_updN (Heap.le_trans hle (le_upd _ hb)) g4 _, by simp [upd_ne, n2, y24, l2], by simp [upd_ne, n3, y4, l3]⟩
        | exact le_updN (Heap.le_trans hle (le_upd _ hb)) g4 _
        | (simp [upd_ne, n2, n3, y24, y4, l2, l3])
        | (simp [upd_ne, n2, n3, y24, y4, l2, l3]; exact le_updN (Heap.le_trans hle (le_upd _ hb)) g4 _)
  clear hle l2 l3 l4
  rintro ⟨e, J3⟩ ⟨e0', e2', e3', e4', e5', hle, l2, l3, l4⟩
  simp only at e0' e2' e3' e4' e5' hle l2 l3 l4
  simp (disch := first | omega | assumption | decide | (simp <;> omega) | fail) [facts, e0', e2', e3', e4', e5', l2, l3, l4, upd_ne, upd_upd]
  refine ⟨_, Heap.le_refl _, ⟨⟨⟨max e0 1, x0, 0, 0⟩, ⟨max e1 1, x1, 0, 0⟩, ⟨max e2 1, x2, 0, 0⟩, ⟨max e3 1, x3, 0, 0⟩⟩, rfl, ⟨by show 1 ≤ max e0 1; omega, by show max e0 1 ≤ 10000; omega, X0.1, X0.2, rfl, rfl⟩, ⟨by show 1 ≤ max e1 1; omega, by show max e1 1 ≤ 10000; omega, X1.1, X1.2, rfl, rfl⟩, ⟨by show 1 ≤ max e2 1; omega, by show max e2 1 ≤ 10000; omega, X2.1, X2.2, rfl, rfl⟩, ⟨by show 1 ≤ max e3 1; omega, by show max e3 1 ≤ 10000; omega, X3.1, X3.2, rfl, rfl⟩⟩, ?_⟩
  repeat' (first | exact hle | exact Heap.le_refl _ | assumption | (refine le_of_none hle ?_; assumption) | apply le_updN)

end Go.Proofs.YtfpighmafofoeaaDoor.GL.Ca

namespace Go.Proofs.YtfpighmafofoeaaDoor.GL
open Go Go.RowKit
open Ca (S4 flat setV OkS CassOk COk Cs)
set_option maxRecDepth 10000
set_option pp.deepTerms.threshold 8
set_option pp.maxSteps 3000
set_option linter.unusedSimpArgs false
set_option linter.unusedVariables false

def panC (l : List UInt8) : List Value := [.string (mkS l)]
def fundC (z : Int) : List Value := [.int .i64 z]
def pansL : List (List UInt8) := [panL 0, panL 1, panL 2, panL 3]
def fundsL (k : Nat) : List Int := [(k : Int) * 100, 20000 + (k : Int) * 100, 40000 + (k : Int) * 100, 60000 + (k : Int) * 100]
theorem flat16 (s : S4) : (flat s).length = 16 := rfl
theorem flat1 (s : S4) : (flat s).all (·.oneCell') = true := rfl
theorem panC1 (l : List UInt8) : (panC l).length = 1 := rfl
theorem fundC1 (z : Int) : (fundC z).length = 1 := rfl
/-- A configuration in memory. -/
structure CfgV (U : Heap) (v : Value) (T : List S4) (k : Nat) : Prop where
  is : ∃ tv pv fv, v = .agg #[tv, pv, fv, .int .i64 500, .int .i64 100000] ∧ LstR U tv 16 T.length (rowsC flat T) ∧ LstR U pv 1 4 (rowsC panC pansL) ∧ LstR U fv 1 4 (rowsC fundC (fundsL k))
  ok : ∀ s ∈ T, CassOk s
theorem own_dele' {H0 R G R1 G' : Heap} {b : Nat} (a : Own H0 R G R1) (hb : H0 b = none) (hr : R1 b = none) (hl : Heap.le (dele G b) G') : Own H0 R G' R1 := by
  refine ⟨fun i o h1 h2 => ?_, fun i o h => ?_⟩
  · obtain ⟨h3, h4⟩ := a.mv i o h1 h2
    have hi : i ≠ b := fun e => by subst e; rw [hb] at h2; cases h2
    exact ⟨h3, hl _ _ (by rw [dele_ne _ hi]; exact h4)⟩
  · have hi : i ≠ b := fun e => by subst e; rw [hr] at h; cases h
    exact hl _ _ (by rw [dele_ne _ hi]; exact a.le _ _ h)
def bnkInv (H1 : Heap) (t k m b4 b5 : Nat) (s : St) : Prop :=
  ∃ (T : List S4) (U : Heap) (tv : Value), T.length ≤ m + 1 ∧ s.env 0 = .int .u8 t ∧ s.env 1 = .int .u8 k ∧ s.env 4 = .pointer (some ⟨b4, 0, none⟩) ∧ s.env 5 = .pointer (some ⟨b5, 0, none⟩) ∧ s.env 6 = .int .i64 T.length ∧
    Own H1 (fun _ => none) s.heap U ∧ U b5 = some (.row true 0 [tv, .slice none 0 0, .slice none 0 0, .int .i64 500, .int .i64 100000] 0) ∧ Lsts U b5 [tv, .slice none 0 0, .slice none 0 0] [(16, T.length, rowsC flat T), (1, 0, []), (1, 0, [])] ∧ ∀ s ∈ T, CassOk s
def bnk2Inv (H1 : Heap) (k b4 b5 : Nat) (T : List S4) (s : St) : Prop :=
  ∃ (i : Nat) (U : Heap) (tv pv fv : Value), i ≤ 4 ∧ s.env 1 = .int .u8 k ∧ s.env 4 = .pointer (some ⟨b4, 0, none⟩) ∧ s.env 5 = .pointer (some ⟨b5, 0, none⟩) ∧ s.env 9 = .int .u8 i ∧
    Own H1 (fun _ => none) s.heap U ∧ U b5 = some (.row true 0 [tv, pv, fv, .int .i64 500, .int .i64 100000] 0) ∧ Lsts U b5 [tv, pv, fv] [(16, T.length, rowsC flat T), (1, i, rowsC panC (pansL.take i)), (1, i, rowsC fundC ((fundsL k).take i))]
theorem nilLsts (U : Heap) (p : Nat) : Lsts U p [.slice none 0 0, .slice none 0 0, .slice none 0 0] [(16, 0, []), (1, 0, []), (1, 0, [])] := by
  refine ⟨fun i v x hv hx => ?_, rfl, fun i v hv => ?_, fun i j v w b hij hv hw hb => ?_⟩
  · match i, hv, hx with
    | 0, hv, hx => cases hv; cases hx; exact LstR.nil _ _
    | 1, hv, hx => cases hv; cases hx; exact LstR.nil _ _
    | 2, hv, hx => cases hv; cases hx; exact LstR.nil _ _
    | n + 3, hv, hx => simp at hv
  · have : v = .slice none 0 0 := by
      match i, hv with
      | 0, hv => cases hv; rfl
      | 1, hv => cases hv; rfl
      | 2, hv => cases hv; rfl
      | n + 3, hv => simp at hv
    rw [this]; simp [blkV]
  · have : v = .slice none 0 0 := by
      match i, hv with
      | 0, hv => cases hv; rfl
      | 1, hv => cases hv; rfl
      | 2, hv => cases hv; rfl
      | n + 3, hv => simp at hv
    rw [this] at hb; simp [blkV] at hb
def bumpC (c : Cs) : Cs := ⟨c.d, max c.l 9, c.g, c.r⟩
def bumpS (s : S4) : S4 := ⟨bumpC s.a, bumpC s.b, bumpC s.c, bumpC s.e⟩
theorem bump_ok {s : S4} (h : CassOk s) : CassOk (bumpS s) := by
  unfold CassOk COk bumpS bumpC at *
  simp only
  omega
set_option maxHeartbeats 1600000 in
theorem bank_c (t k : Nat) (H : Heap) (ht : t < 256) (hk : k < 256) :
    ECalls Tryd.prog 16 #[.int .u8 t, .int .u8 k] H fun v H' => ∃ (T : List S4) (U : Heap), Own H (fun _ => none) H' U ∧ CfgV U v T k ∧ T.length = t % 3 + 1 := by
  refine ecalls_of_ewp (args := [_, _]) Tryd.func16 rfl rfl rfl (by simp [Tryd.ntmps16]) (by kernel_rfl) ?_
  obtain ⟨m, hm⟩ : ∃ m, m = t % 3 := ⟨_, rfl⟩
  have hmI : (t : Int) % 3 = (m : Int) := by omega
  have hm3 : m < 3 := by omega
  rw [← hm]
  simp (disch := first | omega | assumption | decide | (simp <;> omega) | fail) [facts, ]
  refine fresh_intro fun b4 hb4 => ?_
  have r4 := upd_same H b4 (.row true 0 [.slice none 0 0, .slice none 0 0, .slice none 0 0, .int .i64 0, .int .i64 0] 0)
  have hl4 := le_upd (.row true 0 [.slice none 0 0, .slice none 0 0, .slice none 0 0, .int .i64 0, .int .i64 0] 0) hb4
  generalize upd H b4 _ = H1 at *
  simp (disch := first | omega | assumption | decide | (simp <;> omega) | fail) [facts, ]
  refine fresh_intro fun b5 hb5 => ?_
  simp (disch := first | omega | assumption | decide | (simp <;> omega) | fail) [facts, upd_upd]
  refine w_loop (bnkInv H1 t k m b4 b5) (fun st => m + 1 - (intOf (st.env 6)).toNat) ?_ ?_
  · exact ⟨[], _, .slice none 0 0, Nat.zero_le _, by simp, by simp, by simp, by simp, by simp, (Own.nil (Heap.le_refl H1)).add hb5 (.row true 0 [.slice none 0 0, .slice none 0 0, .slice none 0 0, .int .i64 500, .int .i64 100000] 0), upd_same _ _ _, nilLsts _ _, by simp⟩
  rintro ⟨env, G⟩ ⟨T, U, tv, hT, e0, e1, e4, e5, e6, ow, rU, hL, hok⟩
  simp only at e0 e1 e4 e5 e6 ow
  by_cases hlt : T.length < m + 1
  · have hltI : (T.length : Int) < (m : Int) + 1 := by omega
    obtain ⟨c, hc⟩ : ∃ c, c = (k + T.length) % 256 := ⟨_, rfl⟩
    have hcI : IntKind.wrap .u8 ((k : Int) + (T.length : Int)) = (c : Int) := by rw [IntKind.wrap_u8]; omega
    have hiI : IntKind.wrap .u8 (T.length : Int) = (T.length : Int) := by rw [IntKind.wrap_u8]; omega
    have hi3 : (T.length : Int) ≤ 2 := by omega
    simp (disch := first | omega | assumption | decide | (simp <;> omega) | fail) [facts, e0, e1, e4, e5, e6, hmI, hltI, hcI, hiI]
    refine (Ca.cass_c c G (by omega)).mono ?_
    rintro v G2 ⟨⟨s, rfl, hs⟩, hle2⟩
    replace ow := ow.grow hle2
    obtain ⟨bs, hbs⟩ : ∃ bs, bs = bumpS s := ⟨_, rfl⟩
    have hbok := bump_ok hs
    rw [← hbs] at hbok
    obtain ⟨⟨d0, l0, g0, r0⟩, ⟨d1, l1, g1, r1⟩, ⟨d2, l2, g2, r2⟩, ⟨d3, l3, g3, r3⟩⟩ := s
    have hbf : flat bs = [.int .i64 d0, .int .i64 (max l0 9), .int .i64 g0, .int .i64 r0, .int .i64 d1, .int .i64 (max l1 9), .int .i64 g1, .int .i64 r1, .int .i64 d2, .int .i64 (max l2 9), .int .i64 g2, .int .i64 r2, .int .i64 d3, .int .i64 (max l3 9), .int .i64 g3, .int .i64 r3] := by rw [hbs]; rfl
    simp only [setV, flat]
    simp (disch := first | omega | assumption | decide | (simp <;> omega) | fail) [facts, ]
    refine fresh_intro fun b7 hb7 => ?_
    simp (disch := first | omega | assumption | decide | (simp <;> omega) | fail) [facts, upd_upd]
    refine w_unroll 5 ?_
    simp (disch := first | omega | assumption | decide | (simp <;> omega) | fail) [facts, upd_upd]
    rw [← hbf]
    have rp := ow.le _ _ rU
    have q57 : b5 ≠ b7 := ne_of_fresh hb7 rp
    have ow7 := ow.grow (le_upd (.row true 0 (flat bs) 0) hb7)
    have r7 := upd_same G2 b7 (.row true 0 (flat bs) 0)
    generalize upd G2 b7 _ = G7 at *
    have tl := flat16 bs
    have tone := flat1 bs
    have j16 : List.take 16 (flat bs) = flat bs := rfl
    have hspl : splice (zeros [.int .i64 0, .int .i64 0, .int .i64 0, .int .i64 0, .int .i64 0, .int .i64 0, .int .i64 0, .int .i64 0, .int .i64 0, .int .i64 0, .int .i64 0, .int .i64 0, .int .i64 0, .int .i64 0, .int .i64 0, .int .i64 0] 1) 0 (flat bs) = flat bs := splice_all rfl
    have rp7 := ow7.le _ _ rU
    simp (disch := first | omega | assumption | decide | (simp <;> omega) | fail) [facts, e5, rp7, r7, j16, hspl]
    refine fresh_intro fun b39 hb39 => ?_
    have ow39 := ow7.grow (le_upd (.row true 0 (flat bs) 0) hb39)
    simp (disch := first | omega | assumption | decide | (simp <;> omega) | fail) [facts, hspl]
    refine hL.app (P := Tryd.prog) (i := 0) (v := tv) (e := 24) (s := 16) (nbs := 128) (n := T.length) (m := 1) (cs := rowsC flat T) (ys := flat bs) (z := .agg #[.int .i64 0, .int .i64 0, .int .i64 0, .int .i64 0, .int .i64 0, .int .i64 0, .int .i64 0, .int .i64 0, .int .i64 0, .int .i64 0, .int .i64 0, .int .i64 0, .int .i64 0, .int .i64 0, .int .i64 0, .int .i64 0]) (by simp [facts]) (by simp [facts]) (by simp [facts]) (by simp [facts]) rfl (by decide) rfl rfl ow39.le rU
      (srcOne (s := 16) (b := b39) (e1 := 24) (z := .agg #[.int .i64 0, .int .i64 0, .int .i64 0, .int .i64 0, .int .i64 0, .int .i64 0, .int .i64 0, .int .i64 0, .int .i64 0, .int .i64 0, .int .i64 0, .int .i64 0, .int .i64 0, .int .i64 0, .int .i64 0, .int .i64 0]) (by simp [facts]) (by simp [facts]) (by simp [facts]) rfl) rfl rfl (by omega) ?_
    intro v' H' U' own' hL' rU' _
    obtain ⟨a', c', rfl, _, _⟩ := (hL'.get (i := 0) rfl rfl).sl own'.le
    have owF := (ow39.trans own').set rU' (.row true 0 [.slice a' (T.length + 1) c', .slice none 0 0, .slice none 0 0, .int .i64 500, .int .i64 100000] 0)
    have rpF := own'.le _ _ rU'
    simp (disch := first | omega | assumption | decide | (simp <;> omega) | fail) [facts, e5, rpF, e6]
    refine ⟨_, Heap.le_refl _, ⟨T ++ [bs], _, _, by simp; omega, by simp [e0], by simp [e1], by simp [e4], by simp [e5], by simp, owF, upd_same _ _ _, ?_, ?_⟩, by simp [intOf, e6]; omega⟩
    · rw [List.length_append, rowsC_app, rowsC_single]
      exact hL'.up fun b o hne hb => by rw [upd_ne _ _ hne]; exact hb
    · intro s hs
      rcases List.mem_append.1 hs with hs | hs
      · exact hok s hs
      · rw [List.mem_singleton.1 hs]; exact hbok
  · have hTm : T.length = m + 1 := by omega
    have hltI : ¬ (T.length : Int) < (m : Int) + 1 := by omega
    simp (disch := first | omega | assumption | decide | (simp <;> omega) | fail) [facts, e0, e6, hmI, hltI]
    refine w_loop (bnk2Inv H1 k b4 b5 T) (fun st => 4 - (intOf (st.env 9)).toNat) ?_ ?_
    · exact ⟨0, U, tv, .slice none 0 0, .slice none 0 0, by decide, by simp [e1], by simp [e4], by simp [e5], by simp, ow, rU, by simpa [rowsC] using hL⟩
    clear e0 e1 e4 e5 e6 ow rU hL
    rintro ⟨env, G⟩ ⟨i, U, tv, pv, fv, hi, e1, e4, e5, e9, ow, rU, hL⟩
    simp only at e1 e4 e5 e9 ow
    have rp := ow.le _ _ rU
    by_cases hlt : i < 4
    · have hltI : (i : Int) < 4 := by omega
      obtain ⟨pl, hpl⟩ : ∃ x, pansL[i]? = some x := ⟨_, List.getElem?_eq_getElem (by exact hlt)⟩
      obtain ⟨fl, hfl⟩ : ∃ x, (fundsL k)[i]? = some x := ⟨_, List.getElem?_eq_getElem (by exact hlt)⟩
      have hpan : panS i = mkS pl := by
        have hcs : i = 0 ∨ i = 1 ∨ i = 2 ∨ i = 3 := by omega
        rcases hcs with rfl | rfl | rfl | rfl
        all_goals (simp [pansL] at hpl; subst hpl; rfl)
      have hfnd : (i : Int) * 20000 + (k : Int) * 100 = fl := by
        have hcs : i = 0 ∨ i = 1 ∨ i = 2 ∨ i = 3 := by omega
        rcases hcs with rfl | rfl | rfl | rfl
        all_goals (simp [fundsL] at hfl; omega)
      simp (disch := first | omega | assumption | decide | (simp <;> omega) | fail) [facts, e9, hltI]
      obtain ⟨I, hI⟩ : ∃ I : St → Prop, I = (fun s => ∃ (U : Heap) (pv : Value), s.env 1 = .int .u8 k ∧ s.env 4 = .pointer (some ⟨b4, 0, none⟩) ∧ s.env 5 = .pointer (some ⟨b5, 0, none⟩) ∧ s.env 9 = .int .u8 i ∧
        Own H1 (fun _ => none) s.heap U ∧ U b5 = some (.row true 0 [tv, pv, fv, .int .i64 500, .int .i64 100000] 0) ∧ Lsts U b5 [tv, pv, fv] [(16, T.length, rowsC flat T), (1, i + 1, rowsC panC (pansL.take (i + 1))), (1, i, rowsC fundC ((fundsL k).take i))]) := ⟨_, rfl⟩
      refine w_cut I ?_ ?_
      · refine w_plan (P := Tryd.prog) (by simp [facts]) (opsP [0,2] (.both (opsP [1,3,4,5,6,7] .done) (opsP [3] (.both (opsP [1,4,5,6,7] .done) (opsP [4,1,5,6,7] .done))))) ?_ ?_
        · decide +kernel
        simp (disch := first | omega | assumption | decide | (simp <;> omega) | fail) [facts, e5, e9, rp]
        repeat' apply And.intro
        all_goals
          refine (pan_c i (by omega) G).mono ?_
          rintro v G2 ⟨rfl, hle2⟩
          have ow2 := ow.grow hle2
          have rp2 := hle2 _ _ rp
          rw [hpan]
          simp (disch := first | omega | assumption | decide | (simp <;> omega) | fail) [facts, e5, rp2]
          repeat' apply And.intro
          all_goals
            refine fresh_intro fun b50 hb50 => ?_
            have ow50 := ow2.grow (le_upd (.row true 0 (panC pl) 0) hb50)
            have rp50 : upd G2 b50 (.row true 0 [.string (mkS pl)] 0) b5 = some (.row true 0 [tv, pv, fv, .int .i64 500, .int .i64 100000] 0) := ow50.le _ _ rU
            simp (disch := first | omega | assumption | decide | (simp <;> omega) | fail) [facts, e5, rp50, rp2, upd_ne, ne_of_fresh hb50 rp2]
            refine hL.app (P := Tryd.prog) (i := 1) (v := pv) (e := 9) (s := 1) (nbs := 16) (n := i) (m := 1) (cs := rowsC panC (pansL.take i)) (ys := panC pl) (z := .string ByteArray.empty) (by simp [facts]) (by simp [facts]) (by simp [facts]) (by simp [facts]) rfl (by decide) rfl rfl ow50.le rU
              (srcOne (s := 1) (b := b50) (e1 := 9) (z := .string ByteArray.empty) (by simp [facts]) (by simp [facts]) (by simp [facts]) rfl) rfl rfl (by omega) ?_
            intro v' H' U' own' hL' rU' _
            obtain ⟨a', c', rfl, _, _⟩ := (hL'.get (i := 1) rfl rfl).sl own'.le
            have owF := (ow50.trans own').set rU' (.row true 0 [tv, .slice a' (i + 1) c', fv, .int .i64 500, .int .i64 100000] 0)
            have rpF := own'.le _ _ rU'
            simp (disch := first | omega | assumption | decide | (simp <;> omega) | fail) [facts, e5, rpF]
            subst hI
            refine ⟨_, _, by simp [e1], by simp [e4], by simp [e5], by simp [e9], owF, upd_same _ _ _, ?_⟩
            rw [take_snoc hpl, rowsC_app, rowsC_single]
            exact hL'.up fun b o hne hb => by rw [upd_ne _ _ hne]; exact hb
      clear e1 e4 e5 e9 ow rU hL rp pv
      rintro ⟨env, G⟩ hII
      subst hI
      obtain ⟨U, pv, e1, e4, e5, e9, ow, rU, hL⟩ := hII
      simp only at e1 e4 e5 e9 ow
      have rp := ow.le _ _ rU
      simp (disch := first | omega | assumption | decide | (simp <;> omega) | fail) [facts, e1, e5, e9, rp, hfnd]
      refine fresh_intro fun b62 hb62 => ?_
      have ow62 := ow.grow (le_upd (.row true 0 (fundC fl) 0) hb62)
      simp (disch := first | omega | assumption | decide | (simp <;> omega) | fail) [facts, e5]
      refine hL.app (P := Tryd.prog) (i := 2) (v := fv) (e := 2) (s := 1) (nbs := 8) (n := i) (m := 1) (cs := rowsC fundC ((fundsL k).take i)) (ys := fundC fl) (z := .int .i64 0) (by simp [facts]) (by simp [facts]) (by simp [facts]) (by simp [facts]) rfl (by decide) rfl rfl ow62.le rU
        (srcOne (s := 1) (b := b62) (e1 := 2) (z := .int .i64 0) (by simp [facts]) (by simp [facts]) (by simp [facts]) rfl) rfl rfl (by omega) ?_
      intro v' H' U' own' hL' rU' _
      obtain ⟨a', c', rfl, _, _⟩ := (hL'.get (i := 2) rfl rfl).sl own'.le
      have owF := (ow62.trans own').set rU' (.row true 0 [tv, pv, .slice a' (i + 1) c', .int .i64 500, .int .i64 100000] 0)
      have rpF := own'.le _ _ rU'
      simp (disch := first | omega | assumption | decide | (simp <;> omega) | fail) [facts, e5, rpF, e9]
      refine ⟨_, Heap.le_refl _, ⟨i + 1, _, tv, pv, _, by omega, by simp [e1], by simp [e4], by simp [e5], by simp, owF, upd_same _ _ _, ?_⟩, by simp [intOf, e9]; omega⟩
      rw [take_snoc hfl, rowsC_app, rowsC_single]
      exact hL'.up fun b o hne hb => by rw [upd_ne _ _ hne]; exact hb
    · have hi4 : i = 4 := by omega
      subst hi4
      have r4G := ow.all _ _ r4
      have h4U := ow.off _ _ r4
      obtain ⟨ta, tc, rfl, _, _⟩ := (hL.get (i := 0) rfl rfl).sl ow.le
      obtain ⟨pa, pc, rfl, _, _⟩ := (hL.get (i := 1) rfl rfl).sl ow.le
      obtain ⟨fa, fc, rfl, _, _⟩ := (hL.get (i := 2) rfl rfl).sl ow.le
      simp (disch := first | omega | assumption | decide | (simp <;> omega) | fail) [facts, e4, e5, e9, rp, r4G]
      have hx := own_dele' (H0 := H) (G' := upd G b4 (.row true 0 [.slice ta T.length tc, .slice pa 4 pc, .slice fa 4 fc, .int .i64 500, .int .i64 100000] 0)) ((Own.nil hl4).trans ow) hb4 h4U (fun b o h => by
        have hne : b ≠ b4 := fun e => by subst e; rw [dele_same] at h; cases h
        rw [dele_ne _ hne] at h
        rw [upd_ne _ _ hne]; exact h)
      exact ⟨_, Heap.le_refl _, T, U, hx, ⟨⟨_, _, _, rfl, hL.get (i := 0) rfl rfl, hL.get (i := 1) rfl rfl, hL.get (i := 2) rfl rfl⟩, hok⟩, hTm⟩
end Go.Proofs.YtfpighmafofoeaaDoor.GL

namespace Go.Proofs.YtfpighmafofoeaaDoor.GL
open Go Go.RowKit
open Ca (S4 flat setV OkS CassOk COk Cs)
set_option maxRecDepth 10000
set_option pp.deepTerms.threshold 8
set_option pp.maxSteps 3000
set_option linter.unusedSimpArgs false
set_option linter.unusedVariables false

set_option maxHeartbeats 400000 in
theorem mcass_c (s : S4) (hs : CassOk s) (H : Heap) : ECalls Tryd.prog 41 #[setV s] H fun v H' => v = .bool true ∧ Heap.le H H' := by
  refine ecalls_of_ewp (args := [_]) Tryd.func41 rfl rfl rfl (by simp [Tryd.ntmps41]) (by kernel_rfl) ?_
  obtain ⟨⟨d0, l0, g0, r0⟩, ⟨d1, l1, g1, r1⟩, ⟨d2, l2, g2, r2⟩, ⟨d3, l3, g3, r3⟩⟩ := s
  unfold CassOk COk at hs
  simp only at hs
  obtain ⟨⟨a1, a2, a3, a4, rfl, rfl⟩, ⟨b1, b2, b3, b4, rfl, rfl⟩, ⟨c1, c2, c3, c4, rfl, rfl⟩, ⟨f1, f2, f3, f4, rfl, rfl⟩⟩ := hs
  have h11 : ¬ d0 < 1 := by omega
  have h12 : ¬ 100000 < d0 := by omega
  have h13 : ¬ l0 < 0 := by omega
  have h14 : ¬ 10000 < l0 := by omega
  have h21 : ¬ d1 < 1 := by omega
  have h22 : ¬ 100000 < d1 := by omega
  have h23 : ¬ l1 < 0 := by omega
  have h24 : ¬ 10000 < l1 := by omega
  have h31 : ¬ d2 < 1 := by omega
  have h32 : ¬ 100000 < d2 := by omega
  have h33 : ¬ l2 < 0 := by omega
  have h34 : ¬ 10000 < l2 := by omega
  have h41 : ¬ d3 < 1 := by omega
  have h42 : ¬ 100000 < d3 := by omega
  have h43 : ¬ l3 < 0 := by omega
  have h44 : ¬ 10000 < l3 := by omega
  simp only [setV, flat]
  simp (disch := first | omega | assumption | decide | (simp <;> omega) | fail) [facts, ]
  refine fresh_intro fun b1 hb1 => ?_
  simp (disch := first | omega | assumption | decide | (simp <;> omega) | fail) [facts, ]
  refine w_unroll 5 ?_
  simp (disch := first | omega | assumption | decide | (simp <;> omega) | fail) [facts, h11, h12, h13, h14]
  refine Ca.fresh_abs (fun H' => Heap.le H H') (le_upd _ hb1) ?_
  rintro H0 x0 hle0 hx0
  simp (disch := first | omega | assumption | decide | (simp <;> omega) | fail) [facts, h11, h12, h13, h14, upd_upd]
  refine Ca.fresh_abs (fun H' => Heap.le H H') (Heap.le_trans hle0 (le_upd _ hx0)) ?_
  rintro H1 x1 hle1 hx1
  simp (disch := first | omega | assumption | decide | (simp <;> omega) | fail) [facts, h21, h22, h23, h24, upd_upd]
  refine Ca.fresh_abs (fun H' => Heap.le H H') (Heap.le_trans hle1 (le_upd _ hx1)) ?_
  rintro H2 x2 hle2 hx2
  simp (disch := first | omega | assumption | decide | (simp <;> omega) | fail) [facts, h31, h32, h33, h34, upd_upd]
  refine Ca.fresh_abs (fun H' => Heap.le H H') (Heap.le_trans hle2 (le_upd _ hx2)) ?_
  rintro H3 x3 hle3 hx3
  simp (disch := first | omega | assumption | decide | (simp <;> omega) | fail) [facts, h41, h42, h43, h44, upd_upd]
  exact ⟨_, Heap.le_refl _, Heap.le_trans hle3 (le_upd _ hx3)⟩
/-- Maps of texts that were seen. -/
def seenV (l : List UInt8) : Value × Value := (.string (mkS l), .bool true)
theorem findSeen (p : List UInt8) : ∀ ls : List (List UInt8), (∀ l ∈ ls, l ≠ p) → findM Tryd.prog 9 (.string (mkS p)) (ls.map seenV) = some none
  | [], _ => rfl
  | x :: l, h => by
    have hx : ¬ (mkS p == mkS x) = true := fun e => h x (by simp) (Eq.symm (by simpa using e))
    have hk : keyEq Tryd.prog 9 (.string (mkS p)) (.string (mkS x)) = some false := by
      simp only [keyEq, (by simp [facts] : und Tryd.prog 9 = .str)]
      simpa using hx
    have ih := findSeen p l fun y hy => h y (by simp [hy])
    simp only [List.map_cons, findM, seenV, hk]
    rw [ih]; rfl
theorem lookSeen {H : Heap} {m : Nat} {ls : List (List UInt8)} (h : H m = some (.map (ls.map seenV))) {p : List UInt8} (hp : ∀ l ∈ ls, l ≠ p) : qLook Tryd.prog 103 (.map (some m)) (.string (mkS p)) false H = some (.bool false) := by
  unfold qLook
  rw [(by simp [facts] : und Tryd.prog 103 = .map 9 4)]
  have hk : keyOk Tryd.prog 9 (.string (mkS p)) = true := by simp [keyOk, (by simp [facts] : und Tryd.prog 9 = .str)]
  have hz : zeroV Tryd.prog 4 = some (.bool false) := by simp [facts]
  simp only [h, hk, if_true, findSeen p ls hp, hz]
  simp
theorem setSeen {H : Heap} {K : Kont} {m : Nat} {ls : List (List UInt8)} (h : H m = some (.map (ls.map seenV))) {p : List UInt8} (hp : ∀ l ∈ ls, l ≠ p) (hK : K undef (upd H m (.map ((ls ++ [p]).map seenV)))) : eMapSet Tryd.prog 103 (.map (some m)) (.string (mkS p)) (.bool true) H K := by
  unfold eMapSet
  rw [(by simp [facts] : und Tryd.prog 103 = .map 9 4)]
  have hk : keyOk Tryd.prog 9 (.string (mkS p)) = true := by simp [keyOk, (by simp [facts] : und Tryd.prog 9 = .str)]
  simp only [h, hk, findSeen p ls hp, true_and]
  simpa [seenV] using hK
theorem pans_new {i : Nat} {p : List UInt8} (h : pansL[i]? = some p) : ∀ l ∈ pansL.take i, l ≠ p := by
  have hi : i < 4 := (List.getElem?_eq_some_iff.1 h).1
  have hcs : i = 0 ∨ i = 1 ∨ i = 2 ∨ i = 3 := by omega
  rcases hcs with rfl | rfl | rfl | rfl
  all_goals
    simp [pansL] at h
    subst h
    decide
theorem pans_ok {i : Nat} {p : List UInt8} (h : pansL[i]? = some p) : 1 ≤ p.length ∧ p.length ≤ 19 ∧ ∀ c ∈ p, St.digitB c := by
  have hi : i < 4 := (List.getElem?_eq_some_iff.1 h).1
  have hcs : i = 0 ∨ i = 1 ∨ i = 2 ∨ i = 3 := by omega
  rcases hcs with rfl | rfl | rfl | rfl
  all_goals
    simp [pansL] at h
    subst h
    refine ⟨by decide, by decide, ?_⟩
    unfold St.digitB
    decide
def mrInv (H1 : Heap) (b1 n : Nat) (ta : Option Addr) (tc : Nat) (s : St) : Prop :=
  ∃ j, j ≤ n ∧ s.env 1 = .pointer (some ⟨b1, 0, none⟩) ∧ s.env 45 = .slice ta n tc ∧ s.env 46 = .int .i64 n ∧ s.env 47 = .int .i64 j ∧ Heap.le H1 s.heap
def mr2Inv (H1 : Heap) (b1 mb : Nat) (pa : Option Addr) (pc : Nat) (s : St) : Prop :=
  ∃ (j : Nat) (U : Heap), j ≤ 4 ∧ s.env 1 = .pointer (some ⟨b1, 0, none⟩) ∧ s.env 5 = .map (some mb) ∧ s.env 57 = .slice pa 4 pc ∧ s.env 58 = .int .i64 4 ∧ s.env 59 = .int .i64 j ∧ Own H1 (fun _ => none) s.heap U ∧ U mb = some (.map ((pansL.take j).map seenV))
set_option maxHeartbeats 1600000 in
theorem mright_c (v : Value) (T : List S4) (k : Nat) (U H : Heap) (hU : Heap.le U H) (hv : CfgV U v T k) (hT : T.length ≤ 8) (hk : k < 256) :
    ECalls Tryd.prog 25 #[v] H fun r H' => r = .bool true ∧ Heap.le H H' := by
  refine ecalls_of_ewp (args := [_]) Tryd.func25 rfl rfl rfl (by simp [Tryd.ntmps25]) (by kernel_rfl) ?_
  obtain ⟨⟨tv, pv, fv, rfl, ht, hp, hf⟩, hok⟩ := hv
  obtain ⟨ta, tc, rfl, hts, _⟩ := ht.sl hU
  obtain ⟨pa, pc, rfl, hps, _⟩ := hp.sl hU
  obtain ⟨fa, fc, rfl, hfs, _⟩ := hf.sl hU
  obtain ⟨n, hn⟩ : ∃ n, n = T.length := ⟨_, rfl⟩
  rw [← hn] at hts hT ⊢
  have hn8 : ¬ (8 : Int) < (n : Int) := by omega
  simp (disch := first | omega | assumption | decide | (simp <;> omega) | fail) [facts, ]
  refine fresh_intro fun b1 hb1 => ?_
  have r1 := upd_same H b1 (.row true 0 [.slice ta n tc, .slice pa 4 pc, .slice fa 4 fc, .int .i64 500, .int .i64 100000] 0)
  have hl1 := le_upd (.row true 0 [.slice ta n tc, .slice pa 4 pc, .slice fa 4 fc, .int .i64 500, .int .i64 100000] 0) hb1
  generalize upd H b1 _ = H1 at *
  simp (disch := first | omega | assumption | decide | (simp <;> omega) | fail) [facts, r1, hn8]
  refine w_loop (mrInv H1 b1 n ta tc) (fun st => n - (intOf (st.env 47)).toNat) ?_ ?_
  · exact ⟨0, Nat.zero_le _, by simp, by simp, by simp, by simp, Heap.le_refl _⟩
  rintro ⟨env, G⟩ ⟨j, hj, e1, e45, e46, e47, hle⟩
  simp only at e1 e45 e46 e47 hle
  by_cases hlt : j < n
  · have hltI : (j : Int) < (n : Int) := by omega
    obtain ⟨s, hs⟩ : ∃ s, T[j]? = some s := ⟨_, List.getElem?_eq_getElem (by omega)⟩
    obtain ⟨b, o, rfl⟩ := hts.lit (by omega)
    have rk : rdNU (G b) (o + j * 16) 16 = some (flat s) := (hts.le (Heap.le_trans hl1 hle)).el flat16 hs (j := 0) (r := 16) (by decide) (by decide)
    have tl := flat16 s
    have tone := flat1 s
    have j16 : List.take 16 (flat s) = flat s := rfl
    have hspl : splice [.int .i64 0, .int .i64 0, .int .i64 0, .int .i64 0, .int .i64 0, .int .i64 0, .int .i64 0, .int .i64 0, .int .i64 0, .int .i64 0, .int .i64 0, .int .i64 0, .int .i64 0, .int .i64 0, .int .i64 0, .int .i64 0] 0 (flat s) = flat s := splice_all rfl
    have hmc := fun H => mcass_c s (hok s (List.mem_of_getElem? hs)) H
    simp only [setV] at hmc
    simp (disch := first | omega | assumption | decide | (simp <;> omega) | fail) [facts, e1, e45, e46, e47, hltI, rk]
    refine fresh_intro fun b4 hb4 => ?_
    have r4 := upd_same G b4 (.row true 0 (flat s) 0)
    have hl4 := Heap.le_trans hle (le_upd (.row true 0 (flat s) 0) hb4)
    simp (disch := first | omega | assumption | decide | (simp <;> omega) | fail) [facts, upd_upd, hspl]
    generalize upd G b4 _ = G4 at *
    simp (disch := first | omega | assumption | decide | (simp <;> omega) | fail) [facts, r4, j16]
    refine (hmc G4).mono ?_
    rintro v G5 ⟨rfl, hle5⟩
    simp (disch := first | omega | assumption | decide | (simp <;> omega) | fail) [facts, e47]
    exact ⟨_, Heap.le_refl _, ⟨j + 1, by omega, by simp [e1], by simp [e45], by simp [e46], by simp, Heap.le_trans hl4 hle5⟩, by simp [intOf, e47]; omega⟩
  have hltI : ¬ (j : Int) < (n : Int) := by omega
  have r1G := hle _ _ r1
  simp (disch := first | omega | assumption | decide | (simp <;> omega) | fail) [facts, e1, e46, e47, hltI]
  refine .inl fun mb hmb => ?_
  have ow := Own.new (o := .map []) hle hmb
  have r1M := upd_other (o := .map []) hmb r1G
  simp (disch := first | omega | assumption | decide | (simp <;> omega) | fail) [facts, e1, r1M]
  refine w_loop (mr2Inv H1 b1 mb pa pc) (fun st => 4 - (intOf (st.env 59)).toNat) ?_ ?_
  · exact ⟨0, _, by decide, by simp [e1], by simp, by simp, by simp, by simp, ow, upd_same _ _ _⟩
  clear e1 e45 e46 e47 hlt hltI r1G ow r1M hle
  rintro ⟨env, G⟩ ⟨j, U, hj, e1, e5, e57, e58, e59, ow, hU⟩
  simp only at e1 e5 e57 e58 e59 ow
  have hleG := ow.all
  have r1G := hleG _ _ r1
  by_cases hlt : j < 4
  · have hltI : (j : Int) < 4 := by omega
    obtain ⟨p, hp2⟩ : ∃ x, pansL[j]? = some x := ⟨_, List.getElem?_eq_getElem (by exact hlt)⟩
    obtain ⟨f, hf2⟩ : ∃ x, (fundsL k)[j]? = some x := ⟨_, List.getElem?_eq_getElem (by exact hlt)⟩
    obtain ⟨q1, q2, q3⟩ := pans_ok hp2
    have hnew := pans_new hp2
    have hfb : 0 ≤ f ∧ f ≤ 1000000000000 := by
      have hcs : j = 0 ∨ j = 1 ∨ j = 2 ∨ j = 3 := by omega
      rcases hcs with rfl | rfl | rfl | rfl
      all_goals (simp [fundsL] at hf2; omega)
    obtain ⟨pb, po, rfl⟩ := hps.lit (by decide)
    obtain ⟨fb, fo, rfl⟩ := hfs.lit (by decide)
    have rp : rd1U (G pb) (po + j) = some (.string (mkS p)) := by
      have := (hps.le (Heap.le_trans hl1 hleG)).el1 panC1 hp2 (j := 0) (by decide)
      simpa [panC] using this
    have rf : rd1U (G fb) (fo + j) = some (.int .i64 f) := by
      have := (hfs.le (Heap.le_trans hl1 hleG)).el1 fundC1 hf2 (j := 0) (by decide)
      simpa [fundC] using this
    have hdg := GL.digits_c (mkS p) G (by rw [mkS_sz]; omega)
    rw [St.allD_of q3] at hdg
    have f1 : ¬ (p.length : Int) < 1 := by omega
    have f2 : ¬ (19 : Int) < (p.length : Int) := by omega
    have f3 : ¬ f < 0 := by omega
    have f4 : ¬ (1000000000000 : Int) < f := by omega
    have hlk := lookSeen (ow.le _ _ hU) hnew
    have hst := fun K hK => setSeen (K := K) (ow.le _ _ hU) hnew hK
    simp (disch := first | omega | assumption | decide | (simp <;> omega) | fail) [facts, e1, e5, e57, e58, e59, hltI, rp, f1, f2]
    refine hdg.mono ?_
    rintro v G2 ⟨rfl, rfl⟩
    simp (disch := first | omega | assumption | decide | (simp <;> omega) | fail) [facts, e1, e5, e57, e58, e59, hltI, rp, rf, r1G, hlk, f3, f4]
    refine hst _ ?_
    simp (disch := first | omega | assumption | decide | (simp <;> omega) | fail) [facts, e59]
    exact ⟨_, Heap.le_refl _, ⟨j + 1, _, by omega, by simp [e1], by simp [e5], by simp [e57], by simp [e58], by simp, ow.set hU _, by rw [take_snoc hp2, upd_same]; simp [List.map_take]⟩, by simp [intOf, e59]; omega⟩
  · have hj4 : j = 4 := by omega
    subst hj4
    simp (disch := first | omega | assumption | decide | (simp <;> omega) | fail) [facts, e58, e59]
    exact ⟨_, Heap.le_refl _, Heap.le_trans hl1 hleG⟩
end Go.Proofs.YtfpighmafofoeaaDoor.GL

namespace Go.Proofs.YtfpighmafofoeaaDoor.GL
open Go Go.RowKit
open Ca (S4 flat setV OkS CassOk COk Cs)
set_option maxRecDepth 10000
set_option pp.deepTerms.threshold 8
set_option pp.maxSteps 3000
set_option linter.unusedSimpArgs false
set_option linter.unusedVariables false

theorem flat_at {s : S4} (hs : CassOk s) {i : Nat} (hi : i < 4) : ∃ c : Cs, COk c ∧ ((flat s).drop (i * 4)).take 4 = [.int .i64 c.d, .int .i64 c.l, .int .i64 c.g, .int .i64 c.r] := by
  obtain ⟨h0, h1, h2, h3⟩ := hs
  have hcs : i = 0 ∨ i = 1 ∨ i = 2 ∨ i = 3 := by omega
  rcases hcs with rfl | rfl | rfl | rfl
  · exact ⟨_, h0, rfl⟩
  · exact ⟨_, h1, rfl⟩
  · exact ⟨_, h2, rfl⟩
  · exact ⟨_, h3, rfl⟩
theorem pans_dif {i k : Nat} {p q : List UInt8} (hp : pansL[i]? = some p) (hq : pansL[k]? = some q) (h : k < i) : q ≠ p := by
  refine pans_new hp q ?_
  rw [List.mem_take_iff_getElem]
  obtain ⟨h1, h2⟩ := List.getElem?_eq_some_iff.1 hq
  exact ⟨k, by omega, h2⟩
def crInv (H1 : Heap) (b1 n : Nat) (s : St) : Prop :=
  ∃ j, j ≤ n ∧ s.env 1 = .pointer (some ⟨b1, 0, none⟩) ∧ s.env 3 = .int .i64 j ∧ Heap.le H1 s.heap
def cr2Inv (H1 : Heap) (b1 j : Nat) (s : St) : Prop :=
  ∃ i : Nat, i ≤ 4 ∧ s.env 1 = .pointer (some ⟨b1, 0, none⟩) ∧ s.env 3 = .int .i64 j ∧ s.env 4 = .int .i64 i ∧ Heap.le H1 s.heap
def cr3Inv (H1 : Heap) (b1 : Nat) (s : St) : Prop :=
  ∃ i : Nat, i ≤ 4 ∧ s.env 1 = .pointer (some ⟨b1, 0, none⟩) ∧ s.env 6 = .int .i64 i ∧ Heap.le H1 s.heap
def cr4Inv (H1 : Heap) (b1 i : Nat) (s : St) : Prop :=
  ∃ k : Nat, k ≤ i ∧ s.env 1 = .pointer (some ⟨b1, 0, none⟩) ∧ s.env 6 = .int .i64 i ∧ s.env 7 = .int .i64 k ∧ Heap.le H1 s.heap
end Go.Proofs.YtfpighmafofoeaaDoor.GL

namespace Go.Proofs.YtfpighmafofoeaaDoor.GL
open Go Go.RowKit
open Ca (S4 flat setV OkS CassOk COk Cs newS newC)
set_option maxRecDepth 10000
set_option pp.deepTerms.threshold 8
set_option pp.maxSteps 3000
set_option linter.unusedSimpArgs false
set_option linter.unusedVariables false

def tm0 (s : S4) : Tm := ⟨newS s, false, 0⟩
theorem ok_newS {s : S4} (h : CassOk s) : OkS (newS s) := by
  unfold CassOk COk at h
  unfold OkS Ca.OkC newS newC Ca.fewIn i64In
  simp only
  omega
theorem clone18_c (H : Heap) (b o n c : Nat) (cs : List Value) (h : SlA H (some ⟨b, o, none⟩) n 18 cs) (hone : cs.all (·.oneCell') = true) (hn : 0 < n) (hn2 : n ≤ 1000) :
    ECalls Tryd.prog 27 #[.slice (some ⟨b, o, none⟩) n c] H fun r H' => ∃ b' c' room, r = .slice (some ⟨b', 0, none⟩) n c' ∧ H b' = none ∧ H' b' = some (.row true 0 cs room) ∧ n ≤ c' ∧ c' * 18 ≤ n * 18 + room ∧ Heap.le H H' := by
  refine ecalls_of_ewp (args := [_]) Tryd.func27 rfl rfl rfl (by simp [Tryd.ntmps27]) (by kernel_rfl) ?_
  simp (disch := first | omega | assumption | decide | (simp <;> omega) | fail) [facts, ]
  refine fresh_intro fun b5 hb5 => ?_
  have hl5 := le_upd (.row true 0 (zeros [.int .i64 0, .int .i64 0, .int .i64 0, .int .i64 0, .int .i64 0, .int .i64 0, .int .i64 0, .int .i64 0, .int .i64 0, .int .i64 0, .int .i64 0, .int .i64 0, .int .i64 0, .int .i64 0, .int .i64 0, .int .i64 0, .bool false, .int .i64 0] 0) 0) hb5
  have r5 := upd_same H b5 (.row true 0 (zeros [.int .i64 0, .int .i64 0, .int .i64 0, .int .i64 0, .int .i64 0, .int .i64 0, .int .i64 0, .int .i64 0, .int .i64 0, .int .i64 0, .int .i64 0, .int .i64 0, .int .i64 0, .int .i64 0, .int .i64 0, .int .i64 0, .bool false, .int .i64 0] 0) 0)
  simp (disch := first | omega | assumption | decide | (simp <;> omega) | fail) [facts, ]
  generalize upd H b5 _ = H1 at *
  have s5 : SlA H1 (some ⟨b5, 0, none⟩) 0 18 [] := SlA.row r5 (Nat.le_refl _) rfl (by simp) (by simp)
  refine app_new (P := Tryd.prog) (e := 83) (s := 18) (nbs := 144) (z := .agg #[.int .i64 0, .int .i64 0, .int .i64 0, .int .i64 0, .int .i64 0, .int .i64 0, .int .i64 0, .int .i64 0, .int .i64 0, .int .i64 0, .int .i64 0, .int .i64 0, .int .i64 0, .int .i64 0, .int .i64 0, .int .i64 0, .bool false, .int .i64 0]) (m := 0) (n := n) (cs := []) (ys := cs) (by simp [facts]) (by simp [facts]) (by simp [facts]) (by simp [facts]) rfl (by decide) s5 (Heap.le_refl H1) (src_sl (e1 := 83) (z := .agg #[.int .i64 0, .int .i64 0, .int .i64 0, .int .i64 0, .int .i64 0, .int .i64 0, .int .i64 0, .int .i64 0, .int .i64 0, .int .i64 0, .int .i64 0, .int .i64 0, .int .i64 0, .int .i64 0, .int .i64 0, .int .i64 0, .bool false, .int .i64 0]) (by simp [facts]) (by simp [facts]) (by simp [facts]) (h.le hl5)) h.len hone hn (by omega) ?_
  intro b' c' room hb' hc' hf'
  rw [Nat.zero_add] at hc' hf' ⊢
  simp (disch := first | omega | assumption | decide | (simp <;> omega) | fail) [facts, ]
  exact ⟨_, Heap.le_refl _, b', c', ⟨rfl, rfl⟩, le_of_none hl5 hb', room, by simp, hc', hf', Heap.le_trans hl5 (le_upd _ hb')⟩
def bnInv (H1 : Heap) (b1 p m n : Nat) (ta : Option Addr) (tc : Nat) (T : List S4) (s : St) : Prop :=
  ∃ (j : Nat) (R : Heap) (fv : Value), j ≤ n ∧ s.env 1 = .pointer (some ⟨b1, 0, none⟩) ∧ s.env 3 = .pointer (some ⟨p, 0, none⟩) ∧ s.env 12 = .slice ta n tc ∧ s.env 13 = .int .i64 n ∧ s.env 14 = .int .i64 j ∧
    Own H1 (fun _ => none) s.heap R ∧ R p = some (.row true 0 [fv, .slice none 0 0, .map (some m)] 0) ∧ R m = some (.map []) ∧ LstR R fv 18 j (rowsC Tm.cells ((T.take j).map tm0)) ∧ blkV fv ≠ some p ∧ blkV fv ≠ some m
set_option maxHeartbeats 1600000 in
theorem bnew_c (v : Value) (T : List S4) (k : Nat) (U H : Heap) (hU : Heap.le U H) (hv : CfgV U v T k) (hT : T.length ≤ 8) (hT0 : 0 < T.length) (hk : k < 256) :
    ECalls Tryd.prog 15 #[v] H fun r H' => ∃ p R fv tv m, r = .pointer (some ⟨p, 0, none⟩) ∧ Own H (fun _ => none) H' R ∧ BookR R p fv tv m [] (T.map tm0) ∧ LstR R fv 18 T.length (rowsC Tm.cells (T.map tm0)) ∧ blkV fv ≠ some p ∧ blkV fv ≠ some m ∧ ∀ b, blkV fv = some b → blkV tv ≠ some b := by
  refine ecalls_of_ewp (args := [_]) Tryd.func15 rfl rfl rfl (by simp [Tryd.ntmps15]) (by kernel_rfl) ?_
  have hrt := fun H2 (hl : Heap.le H H2) => mright_c v T k U H2 (Heap.le_trans hU hl) hv hT hk
  obtain ⟨⟨tv, pv, fv, rfl, ht, hp, hf⟩, hok⟩ := hv
  obtain ⟨ta, tc, rfl, hts, _⟩ := ht.sl hU
  obtain ⟨pa, pc, rfl, hps, _⟩ := hp.sl hU
  obtain ⟨fa, fc, rfl, hfs, _⟩ := hf.sl hU
  obtain ⟨n, hn⟩ : ∃ n, n = T.length := ⟨_, rfl⟩
  rw [← hn] at hts hT hT0 hrt ⊢
  clear ht hp hf hps hfs
  simp (disch := first | omega | assumption | decide | (simp <;> omega) | fail) [facts, ]
  refine fresh_intro fun b1 hb1 => ?_
  have r1 := upd_same H b1 (.row true 0 [.slice ta n tc, .slice pa 4 pc, .slice fa 4 fc, .int .i64 500, .int .i64 100000] 0)
  have hl1 := le_upd (.row true 0 [.slice ta n tc, .slice pa 4 pc, .slice fa 4 fc, .int .i64 500, .int .i64 100000] 0) hb1
  generalize upd H b1 _ = H0 at *
  simp (disch := first | omega | assumption | decide | (simp <;> omega) | fail) [facts, ]
  refine .inl fun m hm => ?_
  have ow1 := Own.new (o := .map []) (Heap.le_refl H0) hm
  simp (disch := first | omega | assumption | decide | (simp <;> omega) | fail) [facts, ]
  refine fresh_intro fun p hp => ?_
  have qpm : p ≠ m := (ne_of_fresh hp (upd_same _ _ _)).symm
  have ow2 := ow1.add hp (.row true 0 [.slice none 0 0, .slice none 0 0, .map (some m)] 0)
  have rp2 := upd_same (upd (fun _ => none) m (.map [])) p (.row true 0 [.slice none 0 0, .slice none 0 0, .map (some m)] 0)
  have rm2 : upd (upd (fun _ => none) m (.map [])) p (.row true 0 [.slice none 0 0, .slice none 0 0, .map (some m)] 0) m = some (.map []) := by rw [upd_ne _ _ qpm.symm]; exact upd_same _ _ _
  generalize upd (upd H0 m _) p _ = G at *
  generalize upd (upd (fun _ => none) m _) p _ = R at *
  have r1G := ow2.all _ _ r1
  simp (disch := first | omega | assumption | decide | (simp <;> omega) | fail) [facts, r1G]
  refine (hrt G (Heap.le_trans hl1 ow2.all)).mono ?_
  rintro v G2 ⟨rfl, hle2⟩
  replace ow2 := ow2.grow hle2
  replace r1G := hle2 _ _ r1G
  simp (disch := first | omega | assumption | decide | (simp <;> omega) | fail) [facts, r1G]
  refine w_loop (bnInv H0 b1 p m n ta tc T) (fun st => n - (intOf (st.env 14)).toNat) ?_ ?_
  · exact ⟨0, R, .slice none 0 0, Nat.zero_le _, by simp, by simp, by simp, by simp, by simp, ow2, rp2, rm2, by simpa [rowsC] using LstR.nil R 18, by simp [blkV], by simp [blkV]⟩
  clear ow2 r1G rp2 rm2 hle2 ow1 hrt
  rintro ⟨env, G⟩ ⟨j, R, fv, hj, e1, e3, e12, e13, e14, ow, rp, rm, hL, hfp, hfm⟩
  simp only at e1 e3 e12 e13 e14 ow
  by_cases hlt : j < n
  · have hltI : (j : Int) < (n : Int) := by omega
    obtain ⟨s, hs⟩ : ∃ s, T[j]? = some s := ⟨_, List.getElem?_eq_getElem (by omega)⟩
    obtain ⟨b, o, rfl⟩ := hts.lit (by omega)
    have rk : rdNU (G b) (o + j * 16) 16 = some (flat s) := (hts.le (Heap.le_trans hl1 ow.all)).el flat16 hs (j := 0) (r := 16) (by decide) (by decide)
    have tl := flat16 s
    have tone := flat1 s
    have j16 : List.take 16 (flat s) = flat s := rfl
    have hspl : splice [.int .i64 0, .int .i64 0, .int .i64 0, .int .i64 0, .int .i64 0, .int .i64 0, .int .i64 0, .int .i64 0, .int .i64 0, .int .i64 0, .int .i64 0, .int .i64 0, .int .i64 0, .int .i64 0, .int .i64 0, .int .i64 0] 0 (flat s) = flat s := splice_all rfl
    simp (disch := first | omega | assumption | decide | (simp <;> omega) | fail) [facts, e1, e3, e12, e13, e14, hltI, rk]
    refine fresh_intro fun b5 hb5 => ?_
    have r5 := upd_same G b5 (.row true 0 (flat s) 0)
    have ow5 := ow.grow (le_upd (.row true 0 (flat s) 0) hb5)
    simp (disch := first | omega | assumption | decide | (simp <;> omega) | fail) [facts, upd_upd, hspl]
    generalize upd G b5 _ = G5 at *
    have rpG := ow5.le _ _ rp
    obtain ⟨sl, hsl⟩ : ∃ sl, sl = flat (newS s) := ⟨_, rfl⟩
    have sl16 : sl.length = 16 := by rw [hsl]; rfl
    have sl1 : sl.all (·.oneCell') = true := by rw [hsl]; rfl
    have ks : List.take 16 sl = sl := List.take_of_length_le (by omega)
    have hnc := fun H => Ca.new_c s H
    simp only [setV] at hnc
    rw [← hsl] at hnc
    obtain ⟨cl, hcl⟩ : ∃ cl, cl = (tm0 s).cells := ⟨_, rfl⟩
    have hcl2 : sl ++ [.bool false, .int .i64 0] = cl := by rw [hsl, hcl]; rfl
    have cl18 : cl.length = 18 := by rw [hcl]; rfl
    have cl1 : cl.all (·.oneCell') = true := by rw [hcl]; rfl
    have hspc : splice (zeros [.int .i64 0, .int .i64 0, .int .i64 0, .int .i64 0, .int .i64 0, .int .i64 0, .int .i64 0, .int .i64 0, .int .i64 0, .int .i64 0, .int .i64 0, .int .i64 0, .int .i64 0, .int .i64 0, .int .i64 0, .int .i64 0, .bool false, .int .i64 0] 1) 0 cl = cl := splice_all (by rw [cl18]; rfl)
    have hcl3 : sl ++ List.drop sl.length [.int .i64 0, .int .i64 0, .int .i64 0, .int .i64 0, .int .i64 0, .int .i64 0, .int .i64 0, .int .i64 0, .int .i64 0, .int .i64 0, .int .i64 0, .int .i64 0, .int .i64 0, .int .i64 0, .int .i64 0, .int .i64 0, .bool false, .int .i64 0] = cl := by rw [sl16]; exact hcl2
    refine w_plan (P := Tryd.prog) (by simp [facts]) (opsP [0,1,2,3] (.both (opsP [4,5,6,7,8,9,10,11,12,13,14] .done) (opsP [5] (.both (opsP [4,6,7,8,9,10,11,12,13,14] .done) (opsP [6,7] (.both (opsP [4,8,9,10,11,12,13,14] .done) (opsP [8,9] (.both (opsP [4,10,11,12,13,14] .done) (opsP [10,4,11,12,13,14] .done))))))))) ?_ ?_
    · decide +kernel
    simp (disch := first | omega | assumption | decide | (simp <;> omega) | fail) [facts, e3, rpG, r5, j16]
    repeat' apply And.intro
    all_goals
      refine (hnc _).mono ?_
      rintro v H4 ⟨x, rfl, hx, rx, hle4⟩
      have ow4 := ow5.grow hle4
      have rp4 := hle4 _ _ rpG
      simp (disch := first | omega | assumption | decide | (simp <;> omega) | fail) [facts, rp4, rx, ks, hcl3, hspc]
      repeat' apply And.intro
      all_goals
        refine fresh_intro fun b28 hb28 => ?_
        have ow28 := ow4.grow (le_upd (.row true 0 cl 0) hb28)
        have r28 := upd_same H4 b28 (.row true 0 cl 0)
        have rp28 := ow28.le _ _ rp
        generalize upd H4 b28 _ = H6 at *
        have s28 : SlA H6 (some ⟨b28, 0, none⟩) 1 18 cl := SlA.row r28 (Nat.le_refl _) (by rw [cl18]) (by rw [cl18]; decide) (by rw [Nat.sub_self, List.drop_zero]; exact List.take_of_length_le (by rw [cl18]; decide))
        simp (disch := first | omega | assumption | decide | (simp <;> omega) | fail) [facts, rp28]
        refine hL.app (P := Tryd.prog) (e := 83) (s := 18) (nbs := 144) (n := j) (m := 1) (ys := cl) (z := .agg #[.int .i64 0, .int .i64 0, .int .i64 0, .int .i64 0, .int .i64 0, .int .i64 0, .int .i64 0, .int .i64 0, .int .i64 0, .int .i64 0, .int .i64 0, .int .i64 0, .int .i64 0, .int .i64 0, .int .i64 0, .int .i64 0, .bool false, .int .i64 0]) (by simp [facts]) (by simp [facts]) (by simp [facts]) (by simp [facts]) rfl (by decide) ow28
          (src_sl (e1 := 83) (z := .agg #[.int .i64 0, .int .i64 0, .int .i64 0, .int .i64 0, .int .i64 0, .int .i64 0, .int .i64 0, .int .i64 0, .int .i64 0, .int .i64 0, .int .i64 0, .int .i64 0, .int .i64 0, .int .i64 0, .int .i64 0, .int .i64 0, .bool false, .int .i64 0]) (by simp [facts]) (by simp [facts]) (by simp [facts]) s28) (by rw [cl18]) cl1 (by omega) ?_
        intro v' H7 R7 ow7 hL7 hk7 _
        obtain ⟨kp, kp2⟩ := hk7 p _ rp hfp
        obtain ⟨km, km2⟩ := hk7 m _ rm hfm
        obtain ⟨a7, c7, rfl, _, _⟩ := hL7.sl ow7.le
        have rp7 := ow7.le _ _ kp
        simp (disch := first | omega | assumption | decide | (simp <;> omega) | fail) [facts, rp7, e14]
        refine ⟨_, Heap.le_refl _, ⟨j + 1, _, _, by omega, by simp [e1], by simp [e3], by simp [e12], by simp [e13], by simp, (ow7.set kp (.row true 0 [.slice a7 (j + 1) c7, .slice none 0 0, .map (some m)] 0)), upd_same _ _ _, by rw [upd_ne _ _ qpm.symm]; exact km, ?_, kp2, km2⟩, by simp [intOf, e14]; omega⟩
        rw [take_snoc hs, List.map_append, rowsC_app, List.map_singleton, rowsC_single, ← hcl]
        exact hL7.up fun i o hi ho => by rw [upd_ne _ _ (fun e => kp2 (by rw [hi, e]))]; exact ho
  · have hjn : j = n := by omega
    subst hjn
    rw [hn, List.take_length] at hL
    rw [← hn] at hL
    have rpG := ow.le _ _ rp
    obtain ⟨fa2, fc2, rfl, hfs, hfc⟩ := hL.sl ow.le
    obtain ⟨fb, fo, rfl⟩ := hfs.lit hT0
    have hone : (rowsC Tm.cells (T.map tm0)).all (·.oneCell') = true := rowsC_one tm1 _
    simp (disch := first | omega | assumption | decide | (simp <;> omega) | fail) [facts, e3, e13, e14, rpG]
    refine (clone18_c G fb fo j fc2 _ hfs hone hT0 (by omega)).mono ?_
    rintro v G2 ⟨b', c', room, rfl, hb', rb', hc', hf', hle2⟩
    have ow2 := ow.grow hle2
    have rp2 := ow2.le _ _ rp
    simp (disch := first | omega | assumption | decide | (simp <;> omega) | fail) [facts, rp2]
    have hb'R : R b' = none := le_of_none ow.le hb'
    have qpb : p ≠ b' := fun e => by rw [e, hb'R] at rp; cases rp
    have qmb : m ≠ b' := fun e => by rw [e, hb'R] at rm; cases rm
    have qfb : fb ≠ b' := fun e => by
      obtain ⟨o', ho'⟩ := hL.blk rfl
      simp only at ho'
      rw [e, hb'R] at ho'; cases ho'
    have ow3 := ow.take2 hle2 hb' rb'
    have ow4 := ow3.set (p := p) (o0 := .row true 0 [.slice (some ⟨fb, fo, none⟩) j fc2, .slice none 0 0, .map (some m)] 0) (by rw [upd_ne _ _ qpb]; exact rp) (.row true 0 [.slice (some ⟨fb, fo, none⟩) j fc2, .slice (some ⟨b', 0, none⟩) j c', .map (some m)] 0)
    have hlen : (T.map tm0).length = j := by rw [List.length_map, hn]
    have hfp' : fb ≠ p := fun e => hfp (by rw [e]; rfl)
    refine ⟨_, Heap.le_refl _, p, e3, _, (Own.nil hl1).trans ow4, _, .slice (some ⟨b', 0, none⟩) j c', m, ⟨upd_same _ _ _, ?_, ?_, qpm, fun e => qpb (by simpa [blkV] using e.symm), fun e => qmb (by simpa [blkV] using e.symm)⟩, ?_, hfp, hfm, fun b hb e => ?_⟩
    · rw [upd_ne _ _ qpm.symm, upd_ne _ _ qmb]; exact rm
    · rw [hlen]
      exact .inr ⟨b', 0, c', [], room, rfl, by rw [upd_ne _ _ qpb.symm, upd_same, List.append_nil], by rw [rowsC_len tm18, hlen], hc', by simpa using hf'⟩
    · exact hL.up fun i o hi ho => by
        have : i = fb := by simpa [blkV] using hi.symm
        rw [this] at ho ⊢
        rw [upd_ne _ _ hfp', upd_ne _ _ qfb]; exact ho
    · have h1 : b = fb := by simpa [blkV] using hb.symm
      have h2 : b = b' := by simpa [blkV] using e.symm
      exact qfb (h1.symm.trans h2)
end Go.Proofs.YtfpighmafofoeaaDoor.GL
