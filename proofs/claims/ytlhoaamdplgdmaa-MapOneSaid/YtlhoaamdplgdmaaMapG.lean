import Derived.Test.YtlhoaamdplgdmaaMapF
namespace Go.Proofs.Ytlhoaamdplgdmaa.GL
open Go Go.RowKit
set_option maxRecDepth 10000
set_option pp.deepTerms.threshold 8
set_option pp.maxSteps 3000
set_option linter.unusedSimpArgs false

theorem mapOne_c (x y : Nat) (hx : x < 256) (hy : y < 256) (H : Heap) : ECalls Try.prog 5 #[.int .u8 x, .int .u8 y] H fun v _ => v = .bool true := by
  refine ecalls_of_ewp (args := [_, _]) Try.func5 rfl rfl rfl (by simp [Try.ntmps5]) (by kernel_rfl) ?_
  simp (disch := first | omega | assumption | decide | (simp <;> omega) | fail) [facts, ]
  refine (known_c H).mono ?_
  rintro v H1 ⟨rfl, hle1⟩
  simp (disch := first | omega | assumption | decide | (simp <;> omega) | fail) [facts, ]
  have hn : x % 127 < 127 := Nat.mod_lt _ (by decide)
  have hm : y % 127 < 127 := Nat.mod_lt _ (by decide)
  rw [show ((x : Int) % 127) = ((x % 127 : Nat) : Int) by omega, show ((y : Int) % 127) = ((y % 127 : Nat) : Int) by omega]
  generalize x % 127 = n at hn
  generalize y % 127 = m at hm
  refine fresh_intro fun b hb => ?_
  simp (disch := first | omega | assumption | decide | (simp <;> omega) | fail) [facts, ]
  refine (mapPut_some _ _ _ [(n : Int) + 2] _ _ (row_i64 [(n : Int) + 2]) (by simp) (put_one hn)).mono ?_
  rintro v H2 ⟨a2, c2, rfl, hs2, hc2, hle2⟩
  have hlen := one_len hn
  generalize hw : oneB ((n : Int) + 2) = w at *
  have h16 : (((w.length : Nat) : Int) = 16) = (64 < (n : Int) + 2) := by
    rw [hlen]; split <;> simp <;> omega
  have hwl : w.length ≤ 16 := by rw [hlen]; split <;> decide
  simp (disch := first | omega | assumption | decide | (simp <;> omega) | fail) [facts, h16]
  refine w_loop (fun s => ∃ k : Nat, k ≤ 127 ∧ s.env 5 = .int .i64 (n + 2) ∧ s.env 6 = .int .i64 (m + 2) ∧ s.env 7 = .slice a2 w.length c2 ∧ s.env 9 = .int .i64 (k + 2) ∧ s.heap = H2) (fun s => 129 - (intOf (s.env 9)).toNat) ?_ ?_
  · exact ⟨0, by decide, by simp, by simp, by simp, by simp, rfl⟩
  · rintro ⟨e, H3⟩ ⟨k, hk, e5, e6, e7, e9, hH⟩
    simp only at e5 e6 e7 e9 hH
    subst hH
    by_cases hlt : k < 127
    · simp (disch := first | omega | assumption | decide | (simp <;> omega) | fail) [facts, e5, e6, e7, e9, show (k : Int) + 2 ≤ 128 by omega]
      refine (has_c _ _ _ _ _ _ hs2 (by omega) (by omega)).mono ?_
      rintro v H4 ⟨rfl, rfl⟩
      have hh : hasB w ((k : Int) + 2) = decide (((k : Int) + 2) = (n : Int) + 2) := by
        rw [← hw, one_has hn hlt]
        exact decide_eq_decide.2 (by omega)
      simp (disch := first | omega | assumption | decide | (simp <;> omega) | fail) [facts, e5, e6, e7, e9, hh]
      exact ⟨_, Heap.le_refl _, ⟨k + 1, by omega, by simp [e5], by simp [e6], by simp [e7], by simp; omega, rfl⟩, by simp [intOf]; omega⟩
    · simp (disch := first | omega | assumption | decide | (simp <;> omega) | fail) [facts, e5, e6, e7, e9, show ¬ (k : Int) + 2 ≤ 128 by omega]
      refine fresh_intro fun b5 hb5 => ?_
      simp (disch := first | omega | assumption | decide | (simp <;> omega) | fail) [facts, e5, e6, e7, e9]
      have hle5 := le_upd (.row true 0 ([(n : Int) + 2, (m : Int) + 2].map i64V) 0) hb5
      have hfirst : hasB w 1 = decide (64 < (n : Int) + 2) := by rw [← hw, one_first hn]; exact decide_eq_decide.2 (by omega)
      have hzero := has_low w
      have hhigh := has_high w
      have h2 := put_two hn hm
      cases hp : putB [(n : Int) + 2, (m : Int) + 2] with
      | none =>
        rw [hp] at h2
        have hnm : ¬ n < m := by simpa using h2
        refine (mapPut_none _ _ _ [(n : Int) + 2, (m : Int) + 2] _ (row_i64 [(n : Int) + 2, (m : Int) + 2]) (by simp) hp).mono ?_
        rintro v H6 ⟨rfl, rfl⟩
        have hs6 := hs2.le hle5
        simp (disch := first | omega | assumption | decide | (simp <;> omega) | fail) [facts, e5, e6, e7, hnm]
        refine (has_c _ _ _ _ _ _ hs6 (by omega) (by omega)).mono ?_
        rintro v H7 ⟨rfl, rfl⟩
        simp (disch := first | omega | assumption | decide | (simp <;> omega) | fail) [facts, e5, e6, e7, hfirst]
        refine (has_c _ _ _ _ _ _ hs6 (by omega) (by omega)).mono ?_
        rintro v H7 ⟨rfl, rfl⟩
        simp (disch := first | omega | assumption | decide | (simp <;> omega) | fail) [facts, e5, e6, e7, hzero]
        refine (has_c _ _ _ _ _ _ hs6 (by omega) (by omega)).mono ?_
        rintro v H7 ⟨rfl, rfl⟩
        simp (disch := first | omega | assumption | decide | (simp <;> omega) | fail) [facts, e5, e6, e7, hhigh]
        exact ⟨_, Heap.le_refl _⟩
      | some bs =>
        rw [hp] at h2
        have hnm : n < m := by simpa using h2
        refine (mapPut_some _ _ _ [(n : Int) + 2, (m : Int) + 2] bs _ (row_i64 [(n : Int) + 2, (m : Int) + 2]) (by simp) hp).mono ?_
        rintro v H6 ⟨a6, c6, rfl, hs6', hc6, hle6⟩
        have hs6 := hs2.le (Heap.le_trans hle5 hle6)
        simp (disch := first | omega | assumption | decide | (simp <;> omega) | fail) [facts, e5, e6, e7, hnm]
        refine (has_c _ _ _ _ _ _ hs6 (by omega) (by omega)).mono ?_
        rintro v H7 ⟨rfl, rfl⟩
        simp (disch := first | omega | assumption | decide | (simp <;> omega) | fail) [facts, e5, e6, e7, hfirst]
        refine (has_c _ _ _ _ _ _ hs6 (by omega) (by omega)).mono ?_
        rintro v H7 ⟨rfl, rfl⟩
        simp (disch := first | omega | assumption | decide | (simp <;> omega) | fail) [facts, e5, e6, e7, hzero]
        refine (has_c _ _ _ _ _ _ hs6 (by omega) (by omega)).mono ?_
        rintro v H7 ⟨rfl, rfl⟩
        simp (disch := first | omega | assumption | decide | (simp <;> omega) | fail) [facts, e5, e6, e7, hhigh]
        exact ⟨_, Heap.le_refl _⟩
end Go.Proofs.Ytlhoaamdplgdmaa.GL
