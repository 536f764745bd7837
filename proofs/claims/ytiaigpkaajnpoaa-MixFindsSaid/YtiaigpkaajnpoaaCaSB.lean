/- Layer 2: the contracts of near, Total, size, abs, Mul64. -/
import Derived.Test.YtiaigpkaajnpoaaCaSA
namespace Go.Proofs.Ytiaigpkaajnpoaa.GL
open Go Go.RowKit
set_option maxRecDepth 10000
set_option pp.deepTerms.threshold 8
set_option pp.maxSteps 3000
set_option linter.unusedSimpArgs false
set_option linter.unusedVariables false

theorem add64_x {K : Kont} {H : Heap} {x y : Int} (hx : 0 ≤ x) (hy : 0 ≤ y) (hk : K (.tuple #[.int .u64 ((x + y) % 18446744073709551616), .int .u64 ((x + y) / 18446744073709551616)]) H) :
    eExt Try.prog 34 #[.int .u64 x, .int .u64 y, .int .u64 0] H K := by
  refine ext_intro (fun w => ?_) hk
  rw [run_callFunc_extern Try.func34 (by kernel_rfl) (by kernel_rfl) (by kernel_rfl) (e := add64Entry) (by kernel_rfl), run_add64 x y 0 hx hy (by decide) (by decide)]
  simp [Result.andThen]

theorem total_c (a : Option Addr) (n c : Nat) (zs : List Int) (H : Heap) (h : SlA H a n 1 (zs.map i64V)) (hz : ∀ z ∈ zs, i64In z) (hn : n ≤ 140737488351232) :
    ECalls Try.prog 28 #[.slice a n c] H fun r H' => r = totV zs.sum ∧ H' = H := by
  refine ecalls_of_ewp (args := [_]) Try.func28 rfl rfl rfl (by simp [Try.ntmps28]) (by kernel_rfl) ?_
  have hl : zs.length = n := by simpa using h.len
  simp (disch := first | omega | assumption | decide | (simp <;> omega) | fail) [facts, ]
  refine w_loop (fun s => ∃ k : Nat, k ≤ n ∧ s.env 10 = .slice a n c ∧ s.env 11 = .int .i64 n ∧ s.env 12 = .int .i64 k ∧ s.env 4 = .int .u64 (hiT (zs.take k).sum) ∧ s.env 5 = .int .u64 (loT (zs.take k).sum) ∧ s.heap = H) (fun s => n - (intOf (s.env 12)).toNat) ?_ ?_
  · exact ⟨0, Nat.zero_le _, by simp, by simp, by simp, by simp [hiT], by simp [loT], rfl⟩
  · rintro ⟨e, H1⟩ ⟨k, hk, e10, e11, e12, e4, e5, hH⟩
    simp only at e10 e11 e12 e4 e5 hH
    subst hH
    by_cases hlt : k < n
    · obtain ⟨x, hx⟩ : ∃ x, zs[k]? = some x := ⟨_, List.getElem?_eq_getElem (by omega)⟩
      have gx := h.at hx
      rw [i64V_def] at gx
      have px := h.plain
      have tx := h.there (by omega)
      have hxin : i64In x := hz x (List.mem_of_getElem? hx)
      have hst := sum_take_succ zs k x hx
      have h1 := lo_step (zs.take k).sum x hxin
      have h2 := hi_step (zs.take k).sum x hxin
      rw [← hst] at h1 h2
      have hlo : 0 ≤ loT (zs.take k).sum := by unfold loT; omega
      have hux : 0 ≤ IntKind.wrap .u64 x := by rw [wrapU]; omega
      obtain ⟨u, hu⟩ : ∃ u, IntKind.wrap .u64 x = u := ⟨_, rfl⟩
      obtain ⟨w, hw⟩ : ∃ w, IntKind.wrap .u64 (shrK .i64 x 63) = w := ⟨_, rfl⟩
      rw [hu, Int.add_zero] at h1
      rw [hu, hw, Int.add_zero] at h2
      rw [hu] at hux
      simp (disch := first | omega | assumption | decide | (simp <;> omega) | fail) [facts, e10, e11, e12, e4, e5, hlt, gx, hu]
      refine add64_x hlo hux ?_
      generalize (loT (zs.take k).sum + u) / 18446744073709551616 = cy at h2
      rw [h1]
      obtain ⟨y, hy⟩ : ∃ y, IntKind.wrap .u64 (w + cy) = y := ⟨_, rfl⟩
      rw [hy] at h2
      simp (disch := first | omega | assumption | decide | (simp <;> omega) | fail) [facts, e10, e11, e12, e4, e5, hw, hy, h2]
      exact ⟨_, Heap.le_refl _, ⟨k + 1, by omega, by simp [e10], by simp [e11], by simp, by simp, by simp, rfl⟩, by simp [intOf, e12]; omega⟩
    · have hkn : k = n := by omega
      subst hkn
      rw [List.take_of_length_le (by omega)] at e4 e5
      have hmid := sum_mid zs hz (by omega)
      have hend := tot_end _ hmid
      by_cases hin : i64In zs.sum
      · have hv := tot_val _ hin
        have hne : IntKind.wrap .i64 (hiT zs.sum) = shrK .i64 zs.sum 63 := by
          have := fun hc => hend.1 hc hin
          rw [hv] at this
          exact Classical.not_not.1 this
        simp (disch := first | omega | assumption | decide | (simp <;> omega) | fail) [facts, e10, e11, e12, e4, e5, hlt, hv, hne, totV, hin]
      · have hne := hend.2 hin
        simp (disch := first | omega | assumption | decide | (simp <;> omega) | fail) [facts, e10, e11, e12, e4, e5, hlt, hne, totV, hin]
end Go.Proofs.Ytiaigpkaajnpoaa.GL
