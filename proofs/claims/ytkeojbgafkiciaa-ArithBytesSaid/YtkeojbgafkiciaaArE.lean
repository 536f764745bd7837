/- Layer 1, plain: what a width has. -/
import Derived.Test.YtkeojbgafkiciaaArD
namespace Go.Proofs.Ytkeojbgafkiciaa.GL
open Go Go.RowKit
set_option maxRecDepth 10000
set_option linter.unusedSimpArgs false
set_option linter.unusedVariables false

theorem wrap64 (a : Int) : IntKind.wrap .i64 a = if (2 : Int) ^ 63 ≤ a % 2 ^ 64 then a % 2 ^ 64 - 2 ^ 64 else a % 2 ^ 64 := by
  rw [IntKind.wrap_i64, show (2 : Int) ^ 63 = 9223372036854775808 by decide, show (2 : Int) ^ 64 = 18446744073709551616 by decide]
  split <;> omega
theorem wrapZ_eq (v n : Int) (h1 : 1 ≤ n) (h2 : n < 64) : wrapZ v n = if 2 ^ (n - 1).toNat ≤ v % 2 ^ n.toNat then v % 2 ^ n.toNat - 2 ^ n.toNat else v % 2 ^ n.toNat := by
  unfold wrapZ
  rw [if_neg (by omega), if_neg (by omega)]
  unfold shlK shrK
  have e0 : min (64 - n).toNat IntKind.i64.bits = (64 - n).toNat := Nat.min_eq_left (by simp only [IntKind.bits]; omega)
  rw [e0]
  obtain ⟨j, hj⟩ : ∃ j : Nat, j = n.toNat := ⟨_, rfl⟩
  have e1 : (64 - n).toNat = 64 - j := by omega
  have e2 : (n - 1).toNat = j - 1 := by omega
  rw [e1, e2, ← hj]
  have hMN : (2 : Int) ^ j * 2 ^ (64 - j) = 2 ^ 64 := by rw [← Int.pow_add]; congr 1; omega
  have hN2 : (2 : Int) ^ j = 2 * 2 ^ (j - 1) := by
    have : j = (j - 1) + 1 := by omega
    rw [this, Int.pow_succ, Nat.add_sub_cancel]; omega
  have hM : (0 : Int) < 2 ^ (64 - j) := Int.pow_pos (by decide)
  have hN : (0 : Int) < 2 ^ j := Int.pow_pos (by decide)
  have hr0 := Int.emod_nonneg v (show (2 : Int) ^ j ≠ 0 by omega)
  have hr1 := Int.emod_lt_of_pos v hN
  have hm : v * 2 ^ (64 - j) % 2 ^ 64 = v % 2 ^ j * 2 ^ (64 - j) := by
    rw [← hMN, Int.mul_comm v, Int.mul_comm (2 ^ j), Int.mul_emod_mul_of_pos _ _ hM, Int.mul_comm]
  generalize hM' : (2 : Int) ^ (64 - j) = M at *
  generalize hN' : (2 : Int) ^ j = N at *
  generalize hh : (2 : Int) ^ (j - 1) = h at *
  generalize hu : v % N = u at *
  have h63 : (2 : Int) ^ 63 = h * M := by
    have : (2 : Int) ^ 64 = 2 * 2 ^ 63 := by decide
    rw [this, hN2, Int.mul_assoc] at hMN
    omega
  rw [wrap64, hm]
  have hc : (2 ^ 63 ≤ u * M) ↔ h ≤ u := by
    rw [h63]
    exact ⟨fun hle => Int.le_of_mul_le_mul_right hle hM, fun hle => Int.mul_le_mul_of_nonneg_right hle (Int.le_of_lt hM)⟩
  by_cases hle : h ≤ u
  · rw [if_pos (hc.2 hle), if_pos hle, ← hMN, ← Int.sub_mul]
    exact Int.mul_fdiv_cancel _ (by omega)
  · rw [if_neg (fun h' => hle (hc.1 h')), if_neg hle]
    exact Int.mul_fdiv_cancel _ (by omega)
theorem wrapZ_self (v n : Int) (h1 : 1 ≤ n) (h2 : n < 64) : wrapZ v n = v ↔ -2 ^ (n - 1).toNat ≤ v ∧ v < 2 ^ (n - 1).toNat := by
  rw [wrapZ_eq v n h1 h2]
  have hN2 : (2 : Int) ^ n.toNat = 2 * 2 ^ (n - 1).toNat := by
    have : n.toNat = (n - 1).toNat + 1 := by omega
    rw [this, Int.pow_succ]; omega
  have hp : (0 : Int) < 2 ^ (n - 1).toNat := Int.pow_pos (by decide)
  rw [hN2]
  generalize (2 : Int) ^ (n - 1).toNat = h at *
  have hr0 := Int.emod_nonneg v (show 2 * h ≠ 0 by omega)
  have hr1 := Int.emod_lt_of_pos v (show 0 < 2 * h by omega)
  constructor
  · intro he
    split at he <;> omega
  · rintro ⟨h3, h4⟩
    by_cases hv : 0 ≤ v
    · rw [Int.emod_eq_of_lt hv (by omega), if_neg (by omega)]
    · have : v % (2 * h) = v + 2 * h := by
        rw [← Int.add_emod_right, Int.emod_eq_of_lt (by omega) (by omega)]
      rw [this, if_pos (by omega)]; omega
end Go.Proofs.Ytkeojbgafkiciaa.GL
