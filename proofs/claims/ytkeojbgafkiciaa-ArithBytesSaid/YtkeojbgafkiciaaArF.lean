/- Layer 1: the edges of each width: the walk of ArithEdges. -/
import Derived.Test.YtkeojbgafkiciaaArE
namespace Go.Proofs.Ytkeojbgafkiciaa.GL
open Go Go.RowKit
set_option maxRecDepth 10000
set_option pp.deepTerms.threshold 8
set_option pp.maxSteps 3000
set_option linter.unusedSimpArgs false
set_option linter.unusedVariables false

theorem pow2_le {m n : Nat} (h : m ≤ n) : (2 : Int) ^ m ≤ 2 ^ n := by
  have := Nat.pow_le_pow_right (n := 2) (by decide) h
  have e : ∀ k : Nat, (2 : Int) ^ k = ((2 ^ k : Nat) : Int) := by simp
  rw [e, e]; omega
theorem shl1_i64 (j : Int) (h0 : 0 ≤ j) (h1 : j ≤ 62) : shlK .i64 1 j = 2 ^ j.toNat ∧ 1 ≤ (2 : Int) ^ j.toNat ∧ (2 : Int) ^ j.toNat ≤ 4611686018427387904 := by
  have hp : (2 : Int) ^ j.toNat ≤ 2 ^ 62 := pow2_le (by omega)
  have hq : (0 : Int) < 2 ^ j.toNat := Int.pow_pos (by decide)
  have h62 : (2 : Int) ^ 62 = 4611686018427387904 := by decide
  refine ⟨?_, by omega, by omega⟩
  unfold shlK
  rw [Nat.min_eq_left (by simp only [IntKind.bits]; omega), Int.one_mul]
  exact wr_i64 (by omega) (by omega)
theorem tmod3 (d : Int) : -2 ≤ d.tmod 3 ∧ d.tmod 3 ≤ 2 := by
  have h1 := Int.tmod_lt_of_pos d (show (0 : Int) < 3 by decide)
  have h2 := Int.lt_tmod_of_pos d (show (0 : Int) < 3 by decide)
  omega

/-- At the edges: top is 2^(k-1). -/
theorem edge_hi (k t r : Int) (hk : 2 ≤ k ∧ k ≤ 63) (ht : t = 2 ^ (k - 1).toNat) (hr : -2 ≤ r ∧ r ≤ 2) : narrowZ (t - 1 + r) k = if r ≤ 0 then .tuple #[.int .i64 (t - 1 + r), .bool true] else .tuple #[.int .i64 0, .bool false] := by
  have hs := wrapZ_self (t - 1 + r) k (by omega) (by omega)
  rw [← ht] at hs
  have h2 : 2 ≤ t := by
    rw [ht]
    have : (2 : Int) ^ 1 ≤ 2 ^ (k - 1).toNat := pow2_le (by omega)
    simpa using this
  unfold narrowZ
  by_cases h : r ≤ 0
  · rw [if_pos h, if_neg]
    rintro (h3 | h3 | h3)
    · omega
    · omega
    · exact h3 (hs.2 ⟨by omega, by omega⟩)
  · rw [if_neg h, if_pos]
    exact .inr (.inr fun h3 => by have := hs.1 h3; omega)
theorem edge_lo (k t r : Int) (hk : 2 ≤ k ∧ k ≤ 63) (ht : t = 2 ^ (k - 1).toNat) (hr : -2 ≤ r ∧ r ≤ 2) : narrowZ (-t + r) k = if 0 ≤ r then .tuple #[.int .i64 (-t + r), .bool true] else .tuple #[.int .i64 0, .bool false] := by
  have hs := wrapZ_self (-t + r) k (by omega) (by omega)
  rw [← ht] at hs
  have h2 : 2 ≤ t := by
    rw [ht]
    have : (2 : Int) ^ 1 ≤ 2 ^ (k - 1).toNat := pow2_le (by omega)
    simpa using this
  unfold narrowZ
  by_cases h : 0 ≤ r
  · rw [if_pos h, if_neg]
    rintro (h3 | h3 | h3)
    · omega
    · omega
    · exact h3 (hs.2 ⟨by omega, by omega⟩)
  · rw [if_neg h, if_pos]
    exact .inr (.inr fun h3 => by have := hs.1 h3; omega)
theorem edge_un (j t r : Int) (hj : 1 ≤ j ∧ j ≤ 62) (ht : t = 2 ^ j.toNat) (hr : -2 ≤ r ∧ r ≤ 2) : unsignedZ (t - 1 + r) j = if r ≤ 0 ∧ 0 ≤ t - 1 + r then .tuple #[.int .u64 (t - 1 + r), .bool true] else .tuple #[.int .u64 0, .bool false] := by
  have h2 : 2 ≤ t := by
    rw [ht]
    have : (2 : Int) ^ 1 ≤ 2 ^ j.toNat := pow2_le (by omega)
    simpa using this
  have hsh : shrK .u64 (t - 1 + r) j = (t - 1 + r).fdiv t := by
    unfold shrK
    rw [Nat.min_eq_left (by simp only [IntKind.bits]; omega), ← ht]
  rw [Int.fdiv_eq_ediv_of_nonneg _ (by omega)] at hsh
  unfold unsignedZ
  by_cases h0 : 0 ≤ t - 1 + r
  · by_cases h : r ≤ 0
    · have hc : ¬ (t - 1 + r < 0 ∨ j < 0 ∨ 64 ≤ j ∨ shrK .u64 (t - 1 + r) j ≠ 0) := by
        rintro (h3 | h3 | h3 | h3)
        · omega
        · omega
        · omega
        · exact h3 (by rw [hsh]; exact Int.ediv_eq_zero_of_lt h0 (by omega))
      rw [if_neg hc, if_pos ⟨h, h0⟩]
    · have hc : t - 1 + r < 0 ∨ j < 0 ∨ 64 ≤ j ∨ shrK .u64 (t - 1 + r) j ≠ 0 := by
        refine .inr (.inr (.inr fun h3 => ?_))
        rw [hsh] at h3
        have h5 := Int.lt_ediv_add_one_mul_self (t - 1 + r) (show 0 < t by omega)
        rw [h3] at h5
        omega
      rw [if_pos hc, if_neg (fun h3 => h h3.1)]
  · rw [if_pos (.inl (by omega)), if_neg (fun h3 => h0 h3.2)]

theorem arithEdges_c (x : Nat) (d : Int) (hx : x < 256) (hd : -128 ≤ d ∧ d ≤ 127) (H : Heap) : ECalls Try.prog 5 #[.int .u8 x, .int .i8 d] H fun v _ => v = .bool true := by
  refine ecalls_of_ewp (args := [_, _]) Try.func5 rfl rfl rfl (by simp [Try.ntmps5]) (by kernel_rfl) ?_
  obtain ⟨r1, r2⟩ := tmod3 d
  generalize hr : d.tmod 3 = r at r1 r2
  simp (disch := first | omega | assumption | decide | (simp <;> omega) | fail) [facts, ]
  refine (known_c H).mono ?_
  rintro v H1 ⟨rfl, hle1⟩
  have hn : x % 62 < 62 := Nat.mod_lt _ (by decide)
  have hnn : ((x : Int) % 62) = ((x % 62 : Nat) : Int) := by omega
  generalize x % 62 = n at hn hnn
  obtain ⟨s1, s2, s3⟩ := shl1_i64 ((n : Int) + 1) (by omega) (by omega)
  have e1 : (n : Int) + 2 - 1 = n + 1 := by omega
  generalize ht : (2 : Int) ^ ((n : Int) + 1).toNat = t at *
  simp (disch := first | omega | assumption | decide | (simp <;> omega) | fail) [facts, hnn, hr, e1, s1]
  have hhi := edge_hi (n + 2) t r (by omega) (by rw [e1, ht]) ⟨r1, r2⟩
  have hlo := edge_lo (n + 2) t r (by omega) (by rw [e1, ht]) ⟨r1, r2⟩
  have hun := edge_un (n + 1) t r (by omega) ht.symm ⟨r1, r2⟩
  refine (narrow_c _ _ _ (by simp only [i64In]; omega) (by simp only [i64In]; omega)).mono ?_
  rintro v H2 ⟨rfl, rfl⟩
  by_cases hx0 : 0 ≤ t - 1 + r
  · by_cases hr1 : r ≤ 0
    · by_cases hr0 : 0 ≤ r
      · rw [hhi, if_pos hr1]
        simp (disch := first | omega | assumption | decide | (simp <;> omega) | fail) [facts, hnn, hr, e1, s1]
        refine (narrow_c _ _ _ (by simp only [i64In]; omega) (by simp only [i64In]; omega)).mono ?_
        rintro v H3 ⟨rfl, rfl⟩
        rw [hlo, if_pos hr0]
        simp (disch := first | omega | assumption | decide | (simp <;> omega) | fail) [facts, hnn, hr, e1, s1]
        refine (unsigned_c _ _ _ (by simp only [i64In]; omega) (by simp only [i64In]; omega)).mono ?_
        rintro v H4 ⟨rfl, rfl⟩
        rw [hun, if_pos ⟨hr1, hx0⟩]
        simp (disch := first | omega | assumption | decide | (simp <;> omega) | fail) [facts, hnn, hr, e1, s1, hr1, hr0, hx0]
        exact ⟨_, Heap.le_refl _⟩
      · rw [hhi, if_pos hr1]
        simp (disch := first | omega | assumption | decide | (simp <;> omega) | fail) [facts, hnn, hr, e1, s1]
        refine (narrow_c _ _ _ (by simp only [i64In]; omega) (by simp only [i64In]; omega)).mono ?_
        rintro v H3 ⟨rfl, rfl⟩
        rw [hlo, if_neg hr0]
        simp (disch := first | omega | assumption | decide | (simp <;> omega) | fail) [facts, hnn, hr, e1, s1]
        refine (unsigned_c _ _ _ (by simp only [i64In]; omega) (by simp only [i64In]; omega)).mono ?_
        rintro v H4 ⟨rfl, rfl⟩
        rw [hun, if_pos ⟨hr1, hx0⟩]
        simp (disch := first | omega | assumption | decide | (simp <;> omega) | fail) [facts, hnn, hr, e1, s1, hr1, hr0, hx0]
        exact ⟨_, Heap.le_refl _⟩
    · by_cases hr0 : 0 ≤ r
      · rw [hhi, if_neg hr1]
        simp (disch := first | omega | assumption | decide | (simp <;> omega) | fail) [facts, hnn, hr, e1, s1]
        refine (narrow_c _ _ _ (by simp only [i64In]; omega) (by simp only [i64In]; omega)).mono ?_
        rintro v H3 ⟨rfl, rfl⟩
        rw [hlo, if_pos hr0]
        simp (disch := first | omega | assumption | decide | (simp <;> omega) | fail) [facts, hnn, hr, e1, s1]
        refine (unsigned_c _ _ _ (by simp only [i64In]; omega) (by simp only [i64In]; omega)).mono ?_
        rintro v H4 ⟨rfl, rfl⟩
        rw [hun, if_neg (fun h => hr1 h.1)]
        simp (disch := first | omega | assumption | decide | (simp <;> omega) | fail) [facts, hnn, hr, e1, s1, hr1, hr0, hx0]
        exact ⟨_, Heap.le_refl _⟩
      · omega
  · by_cases hr0 : 0 ≤ r
    · omega
    · have hr1 : r ≤ 0 := by omega
      rw [hhi, if_pos hr1]
      simp (disch := first | omega | assumption | decide | (simp <;> omega) | fail) [facts, hnn, hr, e1, s1]
      refine (narrow_c _ _ _ (by simp only [i64In]; omega) (by simp only [i64In]; omega)).mono ?_
      rintro v H3 ⟨rfl, rfl⟩
      rw [hlo, if_neg hr0]
      simp (disch := first | omega | assumption | decide | (simp <;> omega) | fail) [facts, hnn, hr, e1, s1]
      refine (unsigned_c _ _ _ (by simp only [i64In]; omega) (by simp only [i64In]; omega)).mono ?_
      rintro v H4 ⟨rfl, rfl⟩
      rw [hun, if_neg (fun h => hx0 h.2)]
      simp (disch := first | omega | assumption | decide | (simp <;> omega) | fail) [facts, hnn, hr, e1, s1, hr1, hr0, hx0]
      exact ⟨_, Heap.le_refl _⟩
end Go.Proofs.Ytkeojbgafkiciaa.GL
