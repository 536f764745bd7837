/- Layer 2: the contracts of Mul64, Mul, Add, Sub. -/
import Derived.Test.YtiaigpkaajnpoaaCaSC
namespace Go.Proofs.Ytiaigpkaajnpoaa.GL
open Go Go.RowKit
set_option maxRecDepth 10000
set_option pp.deepTerms.threshold 8
set_option pp.maxSteps 3000
set_option linter.unusedSimpArgs false
set_option linter.unusedVariables false

theorem and32 (x : Nat) (h : x < 18446744073709551616) : andK .u64 (x : Int) 4294967295 = ((x % 4294967296 : Nat) : Int) := by
  have := andK_nat .u64 x 4294967295 (by simp only [IntKind.bits]; omega) (by decide) rfl
  rw [show (4294967295 : Int) = ((4294967295 : Nat) : Int) from rfl, this]
  congr 1
  exact Nat.and_two_pow_sub_one_eq_mod x 32
theorem shr32 (x : Nat) : shrK .u64 (x : Int) 32 = ((x / 4294967296 : Nat) : Int) := shrK_nat _ _ _ (by decide)

theorem mul64_c (x y : Nat) (H : Heap) (hx : x < 18446744073709551616) (hy : y < 18446744073709551616) :
    ECalls Try.prog 32 #[.int .u64 x, .int .u64 y] H fun r H' => r = .tuple #[.int .u64 ((x * y / 18446744073709551616 : Nat) : Int), .int .u64 ((x * y % 18446744073709551616 : Nat) : Int)] ∧ H' = H := by
  refine ecalls_of_ewp (args := [_, _]) Try.func32 rfl rfl rfl (by simp [Try.ntmps32]) (by kernel_rfl) ?_
  obtain ⟨m1, m2, m3, m4⟩ := Go.Lib.mul64_hi x y hx hy
  have hlo : IntKind.wrap .u64 ((x : Int) * y) = ((x * y % 18446744073709551616 : Nat) : Int) := by rw [wrapU]; simp
  have a1 := and32 x hx
  have a2 := and32 y hy
  have s1 := shr32 x
  have s2 := shr32 y
  have hhi : x * y / 18446744073709551616 < 18446744073709551616 := by
    have : x * y ≤ 18446744073709551615 * 18446744073709551615 := Nat.mul_le_mul (by omega) (by omega)
    omega
  obtain ⟨h, hh⟩ : ∃ h, h = x * y / 18446744073709551616 := ⟨_, rfl⟩
  rw [← hh] at m4 hhi ⊢
  generalize x % 4294967296 = x0 at *
  generalize y % 4294967296 = y0 at *
  generalize x / 4294967296 = x1 at *
  generalize y / 4294967296 = y1 at *
  have p00 : (x0 : Int) * y0 = ((x0 * y0 : Nat) : Int) := by simp
  have p10 : (x1 : Int) * y0 = ((x1 * y0 : Nat) : Int) := by simp
  have p01 : (x0 : Int) * y1 = ((x0 * y1 : Nat) : Int) := by simp
  have p11 : (x1 : Int) * y1 = ((x1 * y1 : Nat) : Int) := by simp
  generalize x0 * y0 = w00 at *
  generalize x1 * y0 = w10 at *
  generalize x0 * y1 = w01 at *
  generalize x1 * y1 = w11 at *
  have s3 := shr32 w00
  obtain ⟨t, ht⟩ : ∃ t, t = w10 + w00 / 4294967296 := ⟨_, rfl⟩
  rw [← ht] at m2 m3 m4
  have e1 : IntKind.wrap .u64 ((w10 : Int) + ((w00 / 4294967296 : Nat) : Int)) = (t : Int) := by rw [wrapU]; omega
  have a4 := and32 t m2
  have s4 := shr32 t
  obtain ⟨q, hq⟩ : ∃ q, q = t % 4294967296 + w01 := ⟨_, rfl⟩
  rw [← hq] at m3 m4
  have e2 : IntKind.wrap .u64 (((t % 4294967296 : Nat) : Int) + (w01 : Int)) = (q : Int) := by rw [wrapU]; omega
  have s5 := shr32 q
  have e3 : IntKind.wrap .u64 (IntKind.wrap .u64 ((w11 : Int) + ((t / 4294967296 : Nat) : Int)) + ((q / 4294967296 : Nat) : Int)) = (h : Int) := by rw [wrapU, wrapU]; omega
  have b1 : IntKind.wrap .u64 (w00 : Int) = w00 := by rw [wrapU]; omega
  have b2 : IntKind.wrap .u64 (w10 : Int) = w10 := by rw [wrapU]; omega
  have b3 : IntKind.wrap .u64 (w01 : Int) = w01 := by rw [wrapU]; omega
  have b4 : IntKind.wrap .u64 (w11 : Int) = w11 := by rw [wrapU]; omega
  generalize t % 4294967296 = t0 at *
  generalize t / 4294967296 = t1 at *
  generalize q / 4294967296 = q1 at *
  generalize w00 / 4294967296 = w1 at *
  generalize x * y % 18446744073709551616 = l at *
  obtain ⟨z, hz⟩ : ∃ z, IntKind.wrap .u64 ((w11 : Int) + (t1 : Int)) = z := ⟨_, rfl⟩
  rw [hz] at e3
  simp (disch := first | omega | assumption | decide | (simp <;> omega) | fail) [facts, a1, a2, s1, s2, p00, p10, p01, p11, b1, b2, b3, b4, s3, e1, a4, s4, e2, s5, hz, e3, hlo]

theorem totV_no {S : Int} (h : ¬ i64In S) : totV S = .tuple #[.int .i64 0, .bool false] := if_neg h
theorem totV_yes {S : Int} (h : i64In S) : totV S = .tuple #[.int .i64 S, .bool true] := if_pos h
theorem nat_mul (a b : Int) : ((a.natAbs * b.natAbs : Nat) : Int) = if (a < 0 ↔ b < 0) then a * b else -(a * b) := by
  rw [← Int.natAbs_mul]
  by_cases ha : a < 0 <;> by_cases hb : b < 0 <;> simp only [ha, hb]
  · have := Int.mul_pos_of_neg_of_neg ha hb; simp; omega
  · have := Int.mul_nonpos_of_nonpos_of_nonneg (Int.le_of_lt ha) (Int.not_lt.1 hb); simp; omega
  · have := Int.mul_nonpos_of_nonneg_of_nonpos (Int.not_lt.1 ha) (Int.le_of_lt hb); simp; omega
  · have := Int.mul_nonneg (Int.not_lt.1 ha) (Int.not_lt.1 hb); simp; omega

theorem mul_c (a b : Int) (H : Heap) (ha : i64In a) (hb : i64In b) :
    ECalls Try.prog 27 #[.int .i64 a, .int .i64 b] H fun r H' => r = totV (a * b) ∧ H' = H := by
  refine ecalls_of_ewp (args := [_, _]) Try.func27 rfl rfl rfl (by simp [Try.ntmps27]) (by kernel_rfl) ?_
  have hp := nat_mul a b
  have hA : a.natAbs < 18446744073709551616 := by unfold i64In at ha; omega
  have hB : b.natAbs < 18446744073709551616 := by unfold i64In at hb; omega
  have hm := mul64_c a.natAbs b.natAbs H hA hB
  have hz := size_c a H ha
  have hz2 := size_c b H hb
  generalize a.natAbs * b.natAbs = p at hp hm
  generalize a * b = r at hp
  simp (disch := first | omega | assumption | decide | (simp <;> omega) | fail) [facts, ]
  refine hz.mono ?_
  rintro v H1 ⟨rfl, rfl⟩
  simp (disch := first | omega | assumption | decide | (simp <;> omega) | fail) [facts, ]
  refine hz2.mono ?_
  rintro v H1 ⟨rfl, rfl⟩
  simp (disch := first | omega | assumption | decide | (simp <;> omega) | fail) [facts, ]
  refine hm.mono ?_
  rintro v H1 ⟨rfl, rfl⟩
  clear hm hz hz2
  have hdm := Nat.div_add_mod p 18446744073709551616
  have hlt := Nat.mod_lt p (show 0 < 18446744073709551616 by decide)
  generalize p / 18446744073709551616 = hi at *
  generalize p % 18446744073709551616 = lo at *
  unfold i64In at ha hb
  by_cases hb1 : (a < 0 ↔ b < 0)
  · rw [if_pos hb1] at hp
    by_cases h0 : hi = 0
    · by_cases h1 : (9223372036854775807 : Int) < (lo : Int)
      · rw [totV_no (S := r) (by unfold i64In; omega)]
        by_cases h2 : a < 0 <;> have h3 := h2 <;> rw [hb1] at h3 <;> simp (disch := first | omega | assumption | decide | (simp <;> omega) | fail) [facts, h2, h3, h0, h1]
      · rw [totV_yes (S := r) (by unfold i64In; omega)]
        obtain rfl : r = (lo : Int) := by omega
        by_cases h2 : a < 0 <;> have h3 := h2 <;> rw [hb1] at h3 <;> simp (disch := first | omega | assumption | decide | (simp <;> omega) | fail) [facts, h2, h3, h0, h1]
    · rw [totV_no (S := r) (by unfold i64In; omega)]
      by_cases h2 : a < 0 <;> have h3 := h2 <;> rw [hb1] at h3 <;> simp (disch := first | omega | assumption | decide | (simp <;> omega) | fail) [facts, h2, h3, h0]
  · rw [if_neg hb1] at hp
    by_cases h0 : hi = 0
    · by_cases h1 : (9223372036854775808 : Int) < (lo : Int)
      · rw [totV_no (S := r) (by unfold i64In; omega)]
        by_cases h2 : a < 0
        · have h3 : ¬ b < 0 := by omega
          simp (disch := first | omega | assumption | decide | (simp <;> omega) | fail) [facts, h2, h3, h0, h1]
        · have h3 : b < 0 := by omega
          simp (disch := first | omega | assumption | decide | (simp <;> omega) | fail) [facts, h2, h3, h0, h1]
      · rw [totV_yes (S := r) (by unfold i64In; omega)]
        have hr : IntKind.wrap .i64 (IntKind.wrap .u64 (0 - (lo : Int))) = r := by rw [wrapU, IntKind.wrap_i64]; omega
        have hr2 : IntKind.wrap .i64 (IntKind.wrap .u64 (-(lo : Int))) = r := by rw [wrapU, IntKind.wrap_i64]; omega
        by_cases h2 : a < 0
        · have h3 : ¬ b < 0 := by omega
          simp (disch := first | omega | assumption | decide | (simp <;> omega) | fail) [facts, h2, h3, h0, h1, hr, hr2]
        · have h3 : b < 0 := by omega
          simp (disch := first | omega | assumption | decide | (simp <;> omega) | fail) [facts, h2, h3, h0, h1, hr, hr2]
    · rw [totV_no (S := r) (by unfold i64In; omega)]
      by_cases h2 : a < 0
      · have h3 : ¬ b < 0 := by omega
        simp (disch := first | omega | assumption | decide | (simp <;> omega) | fail) [facts, h2, h3, h0]
      · have h3 : b < 0 := by omega
        simp (disch := first | omega | assumption | decide | (simp <;> omega) | fail) [facts, h2, h3, h0]

theorem mulR_c (a b : Int) (H : Heap) (ha : i64In a) (hb : i64In b) :
    ECalls Try.prog 29 #[.int .i64 a, .int .i64 b] H fun r H' => r = totV (a * b) ∧ H' = H := by
  refine ecalls_of_ewp (args := [_, _]) Try.func29 rfl rfl rfl (by simp [Try.ntmps29]) (by kernel_rfl) ?_
  have hp := nat_mul a b
  have hA : a.natAbs < 18446744073709551616 := by unfold i64In at ha; omega
  have hB : b.natAbs < 18446744073709551616 := by unfold i64In at hb; omega
  have hm := mul64_c a.natAbs b.natAbs H hA hB
  have hz := abs_c a H ha
  have hz2 := abs_c b H hb
  generalize a.natAbs * b.natAbs = p at hp hm
  generalize a * b = r at hp
  simp (disch := first | omega | assumption | decide | (simp <;> omega) | fail) [facts, ]
  refine hz.mono ?_
  rintro v H1 ⟨rfl, rfl⟩
  simp (disch := first | omega | assumption | decide | (simp <;> omega) | fail) [facts, ]
  refine hz2.mono ?_
  rintro v H1 ⟨rfl, rfl⟩
  simp (disch := first | omega | assumption | decide | (simp <;> omega) | fail) [facts, ]
  refine hm.mono ?_
  rintro v H1 ⟨rfl, rfl⟩
  clear hm hz hz2
  have hdm := Nat.div_add_mod p 18446744073709551616
  have hlt := Nat.mod_lt p (show 0 < 18446744073709551616 by decide)
  generalize p / 18446744073709551616 = hi at *
  generalize p % 18446744073709551616 = lo at *
  unfold i64In at ha hb
  by_cases hb1 : (a < 0 ↔ b < 0)
  · rw [if_pos hb1] at hp
    by_cases h0 : hi = 0
    · by_cases h1 : (9223372036854775808 : Int) ≤ (lo : Int)
      · rw [totV_no (S := r) (by unfold i64In; omega)]
        by_cases h2 : a < 0 <;> have h3 := h2 <;> rw [hb1] at h3 <;> simp (disch := first | omega | assumption | decide | (simp <;> omega) | fail) [facts, h2, h3, h0, h1]
      · rw [totV_yes (S := r) (by unfold i64In; omega)]
        obtain rfl : r = (lo : Int) := by omega
        by_cases h2 : a < 0 <;> have h3 := h2 <;> rw [hb1] at h3 <;> simp (disch := first | omega | assumption | decide | (simp <;> omega) | fail) [facts, h2, h3, h0, h1]
    · rw [totV_no (S := r) (by unfold i64In; omega)]
      by_cases h2 : a < 0 <;> have h3 := h2 <;> rw [hb1] at h3 <;> simp (disch := first | omega | assumption | decide | (simp <;> omega) | fail) [facts, h2, h3, h0]
  · rw [if_neg hb1] at hp
    by_cases h0 : hi = 0
    · by_cases h1 : (9223372036854775808 : Int) < (lo : Int)
      · rw [totV_no (S := r) (by unfold i64In; omega)]
        by_cases h2 : a < 0
        · have h3 : ¬ b < 0 := by omega
          simp (disch := first | omega | assumption | decide | (simp <;> omega) | fail) [facts, h2, h3, h0, h1]
        · have h3 : b < 0 := by omega
          simp (disch := first | omega | assumption | decide | (simp <;> omega) | fail) [facts, h2, h3, h0, h1]
      · rw [totV_yes (S := r) (by unfold i64In; omega)]
        have hr : IntKind.wrap .i64 (0 - IntKind.wrap .i64 (lo : Int)) = r := by rw [IntKind.wrap_i64, IntKind.wrap_i64]; omega
        obtain ⟨q, hq⟩ : ∃ q, IntKind.wrap .i64 (lo : Int) = q := ⟨_, rfl⟩
        rw [hq] at hr
        have hr2 : IntKind.wrap .i64 (-q) = r := by rw [← hr]; congr 1; omega
        by_cases h2 : a < 0
        · have h3 : ¬ b < 0 := by omega
          simp (disch := first | omega | assumption | decide | (simp <;> omega) | fail) [facts, h2, h3, h0, h1, hq, hr, hr2]
        · have h3 : b < 0 := by omega
          simp (disch := first | omega | assumption | decide | (simp <;> omega) | fail) [facts, h2, h3, h0, h1, hq, hr, hr2]
    · rw [totV_no (S := r) (by unfold i64In; omega)]
      by_cases h2 : a < 0
      · have h3 : ¬ b < 0 := by omega
        simp (disch := first | omega | assumption | decide | (simp <;> omega) | fail) [facts, h2, h3, h0]
      · have h3 : b < 0 := by omega
        simp (disch := first | omega | assumption | decide | (simp <;> omega) | fail) [facts, h2, h3, h0]

theorem row_i64 {H : Heap} {b : Nat} (xs : List Int) : SlA (upd H b (.row true 0 (xs.map i64V) 0)) (some ⟨b, 0, none⟩) xs.length 1 (xs.map i64V) :=
  SlA.row (upd_same _ _ _) (Nat.le_refl _) (by simp) (by simp) (by rw [Nat.sub_self, List.drop_zero, Nat.mul_one, List.take_of_length_le (by simp)])
end Go.Proofs.Ytiaigpkaajnpoaa.GL
