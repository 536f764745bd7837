/- Layer 1: the contracts of the functions on numbers alone. -/
import Derived.Test.YtkeojbgafkiciaaGlJ
import Derived.Test.YtkeojbgafkiciaaGlT
namespace Go.Proofs.Ytkeojbgafkiciaa.GL
open Go Go.RowKit
set_option maxRecDepth 10000
set_option pp.deepTerms.threshold 8
set_option pp.maxSteps 3000
set_option linter.unusedSimpArgs false
set_option linter.unusedVariables false

def i64In (v : Int) : Prop := -9223372036854775808 ≤ v ∧ v ≤ 9223372036854775807
def u64In (v : Int) : Prop := 0 ≤ v ∧ v ≤ 18446744073709551615
def wrapZ (v n : Int) : Int := if n < 1 then 0 else if 64 ≤ n then v else shrK .i64 (shlK .i64 v (64 - n)) (64 - n)
def lowZ (v n : Int) : Int := if n < 1 then 0 else if 64 ≤ n then v else andK .u64 v (shlK .u64 1 n - 1)

theorem wrap_c (v n : Int) (H : Heap) (hv : i64In v) (hn : i64In n) : ECalls Try.prog 16 #[.int .i64 v, .int .i64 n] H fun r H' => r = .int .i64 (wrapZ v n) ∧ H' = H := by
  refine ecalls_of_ewp (args := [_, _]) Try.func16 rfl rfl rfl (by simp [Try.ntmps16]) (by kernel_rfl) ?_
  unfold i64In at hv hn
  by_cases h1 : n < 1
  · simp (disch := first | omega | assumption | decide | (simp <;> omega) | fail) [facts, h1, wrapZ]
  · by_cases h2 : 64 ≤ n
    · simp (disch := first | omega | assumption | decide | (simp <;> omega) | fail) [facts, h1, h2, wrapZ]
    · simp (disch := first | omega | assumption | decide | (simp <;> omega) | fail) [facts, h1, h2, wrapZ]
theorem wrapR_c (v n : Int) (H : Heap) (hv : i64In v) (hn : i64In n) : ECalls Try.prog 17 #[.int .i64 v, .int .i64 n] H fun r H' => r = .int .i64 (wrapZ v n) ∧ H' = H := by
  refine ecalls_of_ewp (args := [_, _]) Try.func17 rfl rfl rfl (by simp [Try.ntmps17]) (by kernel_rfl) ?_
  unfold i64In at hv hn
  by_cases h1 : n < 1
  · simp (disch := first | omega | assumption | decide | (simp <;> omega) | fail) [facts, h1, wrapZ]
  · by_cases h2 : 63 < n
    · simp (disch := first | omega | assumption | decide | (simp <;> omega) | fail) [facts, h1, h2, wrapZ, show 64 ≤ n by omega]
    · simp (disch := first | omega | assumption | decide | (simp <;> omega) | fail) [facts, h1, h2, wrapZ, show ¬ 64 ≤ n by omega]

def narrowZ (v n : Int) : Value := if n < 1 ∨ 64 < n ∨ wrapZ v n ≠ v then .tuple #[.int .i64 0, .bool false] else .tuple #[.int .i64 v, .bool true]
theorem narrow_c (v n : Int) (H : Heap) (hv : i64In v) (hn : i64In n) : ECalls Try.prog 12 #[.int .i64 v, .int .i64 n] H fun r H' => r = narrowZ v n ∧ H' = H := by
  refine ecalls_of_ewp (args := [_, _]) Try.func12 rfl rfl rfl (by simp [Try.ntmps12]) (by kernel_rfl) ?_
  have hw := wrap_c v n H hv hn
  unfold i64In at hv hn
  by_cases h1 : n < 1
  · simp (disch := first | omega | assumption | decide | (simp <;> omega) | fail) [facts, h1, narrowZ]
  · by_cases h2 : 64 < n
    · simp (disch := first | omega | assumption | decide | (simp <;> omega) | fail) [facts, h1, h2, narrowZ]
    · simp (disch := first | omega | assumption | decide | (simp <;> omega) | fail) [facts, h1, h2]
      refine hw.mono ?_
      rintro r H' ⟨rfl, rfl⟩
      by_cases h3 : wrapZ v n = v
      · simp (disch := first | omega | assumption | decide | (simp <;> omega) | fail) [facts, h1, h2, h3, narrowZ]
      · simp (disch := first | omega | assumption | decide | (simp <;> omega) | fail) [facts, h1, h2, h3, narrowZ]
theorem narrowR_c (v n : Int) (H : Heap) (hv : i64In v) (hn : i64In n) : ECalls Try.prog 13 #[.int .i64 v, .int .i64 n] H fun r H' => r = narrowZ v n ∧ H' = H := by
  refine ecalls_of_ewp (args := [_, _]) Try.func13 rfl rfl rfl (by simp [Try.ntmps13]) (by kernel_rfl) ?_
  have hw := wrapR_c v n H hv hn
  unfold i64In at hv hn
  by_cases h1 : n < 1
  · simp (disch := first | omega | assumption | decide | (simp <;> omega) | fail) [facts, h1, narrowZ]
  · by_cases h2 : 64 < n
    · simp (disch := first | omega | assumption | decide | (simp <;> omega) | fail) [facts, h1, h2, narrowZ]
    · simp (disch := first | omega | assumption | decide | (simp <;> omega) | fail) [facts, h1, h2]
      refine hw.mono ?_
      rintro r H' ⟨rfl, rfl⟩
      by_cases h3 : wrapZ v n = v
      · simp (disch := first | omega | assumption | decide | (simp <;> omega) | fail) [facts, h1, h2, h3, narrowZ]
      · simp (disch := first | omega | assumption | decide | (simp <;> omega) | fail) [facts, h1, h2, h3, narrowZ]

theorem shl1_u64 (n : Int) (h0 : 0 ≤ n) (h1 : n < 64) : 1 ≤ shlK .u64 1 n ∧ shlK .u64 1 n ≤ 9223372036854775808 ∧ shlK .u64 1 n = ((2 ^ n.toNat : Nat) : Int) := by
  have hp : (2 : Nat) ^ n.toNat ≤ 2 ^ 63 := Nat.pow_le_pow_right (by decide) (by omega)
  have hq : 0 < (2 : Nat) ^ n.toNat := Nat.pow_pos (by decide)
  have e : shlK .u64 1 n = ((2 ^ n.toNat : Nat) : Int) := by
    unfold shlK
    rw [Nat.min_eq_left (by simp [IntKind.bits]; omega)]
    have : (1 : Int) * 2 ^ n.toNat = ((2 ^ n.toNat : Nat) : Int) := by simp
    rw [this]
    exact wrap_nat _ _ (by simp only [IntKind.bits]; omega) rfl
  rw [e]
  exact ⟨by omega, by omega, rfl⟩
theorem low_c (v n : Int) (H : Heap) (hv : u64In v) (hn : i64In n) : ECalls Try.prog 18 #[.int .u64 v, .int .i64 n] H fun r H' => r = .int .u64 (lowZ v n) ∧ H' = H := by
  refine ecalls_of_ewp (args := [_, _]) Try.func18 rfl rfl rfl (by simp [Try.ntmps18]) (by kernel_rfl) ?_
  unfold i64In at hn
  unfold u64In at hv
  by_cases h1 : n < 1
  · simp (disch := first | omega | assumption | decide | (simp <;> omega) | fail) [facts, h1, lowZ]
  · by_cases h2 : 64 ≤ n
    · simp (disch := first | omega | assumption | decide | (simp <;> omega) | fail) [facts, h1, h2, lowZ]
    · obtain ⟨s1, s2, _⟩ := shl1_u64 n (by omega) (by omega)
      simp (disch := first | omega | assumption | decide | (simp <;> omega) | fail) [facts, h1, h2, lowZ]
theorem lowR_c (v n : Int) (H : Heap) (hv : u64In v) (hn : i64In n) : ECalls Try.prog 19 #[.int .u64 v, .int .i64 n] H fun r H' => r = .int .u64 (lowZ v n) ∧ H' = H := by
  refine ecalls_of_ewp (args := [_, _]) Try.func19 rfl rfl rfl (by simp [Try.ntmps19]) (by kernel_rfl) ?_
  unfold i64In at hn
  unfold u64In at hv
  by_cases h1 : n < 1
  · simp (disch := first | omega | assumption | decide | (simp <;> omega) | fail) [facts, h1, lowZ]
  · by_cases h2 : 63 < n
    · simp (disch := first | omega | assumption | decide | (simp <;> omega) | fail) [facts, h1, h2, lowZ, show 64 ≤ n by omega]
    · obtain ⟨s1, s2, _⟩ := shl1_u64 n (by omega) (by omega)
      simp (disch := first | omega | assumption | decide | (simp <;> omega) | fail) [facts, h1, h2, lowZ, show ¬ 64 ≤ n by omega]

def unsignedZ (v n : Int) : Value := if v < 0 ∨ n < 0 ∨ 64 ≤ n ∨ shrK .u64 v n ≠ 0 then .tuple #[.int .u64 0, .bool false] else .tuple #[.int .u64 v, .bool true]
theorem shr_iu (v n : Int) : shrK .i64 v n = shrK .u64 v n := Eq.trans rfl rfl
theorem unsigned_c (v n : Int) (H : Heap) (hv : i64In v) (hn : i64In n) : ECalls Try.prog 14 #[.int .i64 v, .int .i64 n] H fun r H' => r = unsignedZ v n ∧ H' = H := by
  refine ecalls_of_ewp (args := [_, _]) Try.func14 rfl rfl rfl (by simp [Try.ntmps14]) (by kernel_rfl) ?_
  unfold i64In at hv hn
  by_cases h1 : v < 0
  · simp (disch := first | omega | assumption | decide | (simp <;> omega) | fail) [facts, h1, unsignedZ]
  · by_cases h2 : n < 0
    · simp (disch := first | omega | assumption | decide | (simp <;> omega) | fail) [facts, h1, h2, unsignedZ]
    · by_cases h3 : 64 ≤ n
      · simp (disch := first | omega | assumption | decide | (simp <;> omega) | fail) [facts, h1, h2, h3, unsignedZ]
      · by_cases h4 : shrK .u64 v n = 0
        · simp (disch := first | omega | assumption | decide | (simp <;> omega) | fail) [facts, h1, h2, h3, h4, shr_iu, unsignedZ]
        · simp (disch := first | omega | assumption | decide | (simp <;> omega) | fail) [facts, h1, h2, h3, h4, shr_iu, unsignedZ]
theorem unsignedR_c (v n : Int) (H : Heap) (hv : i64In v) (hn : i64In n) : ECalls Try.prog 15 #[.int .i64 v, .int .i64 n] H fun r H' => r = unsignedZ v n ∧ H' = H := by
  refine ecalls_of_ewp (args := [_, _]) Try.func15 rfl rfl rfl (by simp [Try.ntmps15]) (by kernel_rfl) ?_
  unfold i64In at hv hn
  by_cases h2 : n < 0
  · simp (disch := first | omega | assumption | decide | (simp <;> omega) | fail) [facts, h2, unsignedZ]
  · by_cases h3 : 63 < n
    · simp (disch := first | omega | assumption | decide | (simp <;> omega) | fail) [facts, h2, h3, unsignedZ, show 64 ≤ n by omega]
    · by_cases h1 : v < 0
      · simp (disch := first | omega | assumption | decide | (simp <;> omega) | fail) [facts, h1, h2, h3, unsignedZ]
      · by_cases h4 : shrK .u64 v n = 0
        · simp (disch := first | omega | assumption | decide | (simp <;> omega) | fail) [facts, h1, h2, h3, h4, shr_iu, unsignedZ, show ¬ 64 ≤ n by omega]
        · simp (disch := first | omega | assumption | decide | (simp <;> omega) | fail) [facts, h1, h2, h3, h4, shr_iu, unsignedZ, show ¬ 64 ≤ n by omega]
theorem wrap_u64_nat (n : Int) : ∃ m : Nat, IntKind.wrap .u64 n = m ∧ m < 2 ^ 64 := by
  refine ⟨(n % 2 ^ 64).toNat, ?_, ?_⟩
  · simp only [IntKind.wrap, IntKind.bits, IntKind.signed, Bool.false_and]
    simp
    omega
  · have := Int.emod_lt_of_pos n (show (0 : Int) < 2 ^ 64 by decide)
    omega
theorem and31 (n : Int) : 0 ≤ andK .u64 (IntKind.wrap .u64 n) 31 ∧ andK .u64 (IntKind.wrap .u64 n) 31 ≤ 31 := by
  obtain ⟨m, hm, hlt⟩ := wrap_u64_nat n
  have := andK_nat .u64 m 31 hlt (by decide) rfl
  rw [hm, show (31 : Int) = ((31 : Nat) : Int) from rfl, this]
  have h2 : m &&& 31 ≤ 31 := Nat.and_le_right
  omega
def rotZ (v n : Int) : Int := orK .u32 (shlK .u32 v (andK .u64 (IntKind.wrap .u64 n) 31)) (shrK .u32 v (32 - andK .u64 (IntKind.wrap .u64 n) 31))
theorem rotR_c (v n : Int) (H : Heap) (hn : i64In n) : ECalls Try.prog 21 #[.int .u32 v, .int .i64 n] H fun r H' => r = .int .u32 (rotZ v n) ∧ H' = H := by
  refine ecalls_of_ewp (args := [_, _]) Try.func21 rfl rfl rfl (by simp [Try.ntmps21]) (by kernel_rfl) ?_
  unfold i64In at hn
  obtain ⟨r1, r2⟩ := and31 n
  unfold rotZ
  generalize hk : andK .u64 (IntKind.wrap .u64 n) 31 = k at *
  simp (disch := first | omega | assumption | decide | (simp <;> omega) | fail) [facts, hk]
theorem rotL_c (v n : Int) (H : Heap) (hn : i64In n) : ECalls Try.prog 25 #[.int .u32 v, .int .i64 n] H fun r H' => r = .int .u32 (rotZ v n) ∧ H' = H := by
  refine ecalls_of_ewp (args := [_, _]) Try.func25 rfl rfl rfl (by simp [Try.ntmps25]) (by kernel_rfl) ?_
  unfold i64In at hn
  obtain ⟨r1, r2⟩ := and31 n
  unfold rotZ
  generalize hk : andK .u64 (IntKind.wrap .u64 n) 31 = k at *
  simp (disch := first | omega | assumption | decide | (simp <;> omega) | fail) [facts, hk]
theorem rot_c (v n : Int) (H : Heap) (hn : i64In n) : ECalls Try.prog 20 #[.int .u32 v, .int .i64 n] H fun r H' => r = .int .u32 (rotZ v n) ∧ H' = H := by
  refine ecalls_of_ewp (args := [_, _]) Try.func20 rfl rfl rfl (by simp [Try.ntmps20]) (by kernel_rfl) ?_
  simp (disch := first | omega | assumption | decide | (simp <;> omega) | fail) [facts, ]
  refine (rotL_c v n H hn).mono ?_
  rintro r H' ⟨rfl, rfl⟩
  simp (disch := first | omega | assumption | decide | (simp <;> omega) | fail) [facts, ]
end Go.Proofs.Ytkeojbgafkiciaa.GL
