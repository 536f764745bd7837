/- Layer 23: a difference, the nearest one that there is: report.less and the reference's. -/
import Derived.Test.YtfpighmafofoeaaDoorRpS
namespace Go.Proofs.YtfpighmafofoeaaDoor.GL
open Go Go.RowKit
open Su (i64In totV totV_yes totV_no sub_c wadd_c wnarrow_c midIn loT)
set_option maxRecDepth 10000
set_option pp.deepTerms.threshold 8
set_option pp.maxSteps 3000
set_option linter.unusedSimpArgs false
set_option linter.unusedVariables false

def lessZ (a b : Int) : Int := if i64In (a - b) then a - b else if a < b then -9223372036854775808 else 9223372036854775807
theorem lessZ_in (a b : Int) : i64In (lessZ a b) := by
  unfold lessZ
  split
  · assumption
  · split <;> decide
theorem not_i64 (b : Int) (h : i64In b) : xorK .i64 (-1) b = -b - 1 := by
  unfold xorK
  have e : BitVec.ofInt 64 (-1) = BitVec.allOnes 64 := by rfl
  change IntKind.wrap .i64 ((BitVec.ofInt 64 (-1) ^^^ BitVec.ofInt 64 b).toNat : Int) = _
  rw [e]
  rw [BitVec.allOnes_xor, BitVec.toNat_not, BitVec.toNat_ofInt, IntKind.wrap_i64]
  unfold i64In at h
  omega
set_option maxHeartbeats 1000000 in
theorem subR_c (a b : Int) (H : Heap) (ha : i64In a) (hb : i64In b) :
    ECalls Tryd.prog 30 #[.int .i64 a, .int .i64 b] H fun r H' => r = totV (a - b) ∧ Heap.le H H' := by
  refine ecalls_of_ewp (args := [_, _]) Tryd.func30 rfl rfl rfl (by simp [Tryd.ntmps30]) (by kernel_rfl) ?_
  have e0 : (0 : Int) / 18446744073709551616 = 0 := by decide
  have e1 : loT 0 = 0 := by decide
  have hnb : i64In (-b - 1) := by unfold i64In at hb ⊢; omega
  have ma : midIn a := by unfold i64In at ha; unfold midIn; omega
  have mb : midIn (a + (-b - 1)) := by unfold i64In at ha hb; unfold midIn; omega
  have mc : midIn (a + (-b - 1) + 1) := by unfold i64In at ha hb; unfold midIn; omega
  have c1 := fun H => wadd_c 0 a H ha (by unfold midIn; omega) (by rw [Int.zero_add]; exact ma)
  simp only [e0, e1, Int.zero_add] at c1
  have c2 := fun H => wadd_c a (-b - 1) H hnb ma mb
  have c3 := fun H => wadd_c (a + (-b - 1)) 1 H (by decide) mb mc
  have c4 := fun H => wnarrow_c (a + (-b - 1) + 1) H mc
  have hs : a + (-b - 1) + 1 = a - b := by omega
  rw [hs] at c3 c4
  obtain ⟨h1, hh1⟩ : ∃ z, a / 18446744073709551616 = z := ⟨_, rfl⟩
  obtain ⟨l1, hl1⟩ : ∃ z, loT a = z := ⟨_, rfl⟩
  rw [hh1, hl1] at c2
  simp only [hh1, hl1] at c1
  generalize a + (-b - 1) = T at c2 c3
  obtain ⟨h2, hh2⟩ : ∃ z, T / 18446744073709551616 = z := ⟨_, rfl⟩
  obtain ⟨l2, hl2⟩ : ∃ z, loT T = z := ⟨_, rfl⟩
  simp only [hh2, hl2] at c2 c3
  have hx := not_i64 b hb
  obtain ⟨nb, hnb⟩ : ∃ z, -b - 1 = z := ⟨_, rfl⟩
  rw [hnb] at hx c2
  generalize a - b = S at c3 c4
  obtain ⟨h3, hh3⟩ : ∃ z, S / 18446744073709551616 = z := ⟨_, rfl⟩
  obtain ⟨l3, hl3⟩ : ∃ z, loT S = z := ⟨_, rfl⟩
  simp only [hh3, hl3] at c3 c4
  simp (disch := first | omega | assumption | decide | (simp <;> omega) | fail) [facts, ]
  refine (c1 _).mono ?_
  rintro r H1 ⟨rfl, hle1⟩
  simp (disch := first | omega | assumption | decide | (simp <;> omega) | fail) [facts, show IntKind.i64.signed = true from rfl, hx]
  refine (c2 _).mono ?_
  rintro r H2 ⟨rfl, hle2⟩
  simp (disch := first | omega | assumption | decide | (simp <;> omega) | fail) [facts, ]
  refine fresh_intro fun p hp => ?_
  simp (disch := first | omega | assumption | decide | (simp <;> omega) | fail) [facts, upd_upd]
  refine (c3 _).mono ?_
  rintro r H3 ⟨rfl, hle3⟩
  simp (disch := first | omega | assumption | decide | (simp <;> omega) | fail) [facts, ]
  refine (c4 _).mono ?_
  rintro r H4 ⟨rfl, hle4⟩
  have hle := Heap.le_trans hle1 (Heap.le_trans hle2 (Heap.le_trans (le_upd _ hp) (Heap.le_trans hle3 hle4)))
  by_cases hin : i64In S
  · simp (disch := first | omega | assumption | decide | (simp <;> omega) | fail) [facts, totV_yes hin]
    exact ⟨_, Heap.le_refl _, hle⟩
  · simp (disch := first | omega | assumption | decide | (simp <;> omega) | fail) [facts, totV_no hin]
    exact ⟨_, Heap.le_refl _, hle⟩
theorem less_c (a b : Int) (H : Heap) (ha : i64In a) (hb : i64In b) :
    ECalls Tryd.prog 17 #[.int .i64 a, .int .i64 b] H fun r H' => r = .int .i64 (lessZ a b) ∧ Heap.le H H' := by
  refine ecalls_of_ewp (args := [_, _]) Tryd.func17 rfl rfl rfl (by simp [Tryd.ntmps17]) (by kernel_rfl) ?_
  simp (disch := first | omega | assumption | decide | (simp <;> omega) | fail) [facts, ]
  refine (sub_c a b _ ha hb).mono ?_
  rintro r H1 ⟨rfl, rfl⟩
  unfold lessZ
  by_cases hin : i64In (a - b)
  · simp (disch := first | omega | assumption | decide | (simp <;> omega) | fail) [facts, totV_yes hin, hin]
    exact ⟨_, Heap.le_refl _, Heap.le_refl _⟩
  · by_cases hlt : a < b
    · simp (disch := first | omega | assumption | decide | (simp <;> omega) | fail) [facts, totV_no hin, hin, hlt]
      exact ⟨_, Heap.le_refl _, Heap.le_refl _⟩
    · simp (disch := first | omega | assumption | decide | (simp <;> omega) | fail) [facts, totV_no hin, hin, hlt]
      exact ⟨_, Heap.le_refl _, Heap.le_refl _⟩
theorem lessR_c (a b : Int) (H : Heap) (ha : i64In a) (hb : i64In b) :
    ECalls Tryd.prog 18 #[.int .i64 a, .int .i64 b] H fun r H' => r = .int .i64 (lessZ a b) ∧ Heap.le H H' := by
  refine ecalls_of_ewp (args := [_, _]) Tryd.func18 rfl rfl rfl (by simp [Tryd.ntmps18]) (by kernel_rfl) ?_
  simp (disch := first | omega | assumption | decide | (simp <;> omega) | fail) [facts, ]
  refine (subR_c a b _ ha hb).mono ?_
  rintro r H1 ⟨rfl, hle⟩
  unfold lessZ
  by_cases hin : i64In (a - b)
  · simp (disch := first | omega | assumption | decide | (simp <;> omega) | fail) [facts, totV_yes hin, hin]
    exact ⟨_, Heap.le_refl _, hle⟩
  · by_cases hlt : a < b
    · simp (disch := first | omega | assumption | decide | (simp <;> omega) | fail) [facts, totV_no hin, hin, hlt]
      exact ⟨_, Heap.le_refl _, hle⟩
    · simp (disch := first | omega | assumption | decide | (simp <;> omega) | fail) [facts, totV_no hin, hin, hlt]
      exact ⟨_, Heap.le_refl _, hle⟩
end Go.Proofs.YtfpighmafofoeaaDoor.GL
