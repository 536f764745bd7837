/- Layer 2: the contracts of the reference's Total, of size, abs, Mul64. -/
import Derived.Test.YtiaigpkaajnpoaaCaSB
namespace Go.Proofs.Ytiaigpkaajnpoaa.GL
open Go Go.RowKit
set_option maxRecDepth 10000
set_option pp.deepTerms.threshold 8
set_option pp.maxSteps 3000
set_option linter.unusedSimpArgs false
set_option linter.unusedVariables false

theorem hi_mid (T : Int) (h : midIn T) : i64In (T / 18446744073709551616) := by unfold midIn at h; unfold i64In; omega
theorem wadd_c (T v : Int) (H : Heap) (hv : i64In v) (hT : midIn T) (hTv : midIn (T + v)) :
    ECalls Try.prog 30 #[.agg #[.int .i64 (T / 18446744073709551616), .int .u64 (loT T)], .int .i64 v] H fun r H' => r = .agg #[.int .i64 ((T + v) / 18446744073709551616), .int .u64 (loT (T + v))] ∧ Heap.le H H' := by
  refine ecalls_of_ewp (args := [_, _]) Try.func30 rfl rfl rfl (by simp [Try.ntmps30]) (by kernel_rfl) ?_
  have h1 := lo_step T v hv
  rw [Int.add_zero] at h1
  have hlo : 0 ≤ loT T := by unfold loT; omega
  have hux : 0 ≤ IntKind.wrap .u64 v := by rw [wrapU]; omega
  have hhi : IntKind.wrap .i64 (IntKind.wrap .i64 (T / 18446744073709551616 + shrK .i64 v 63) + IntKind.wrap .i64 ((loT T + IntKind.wrap .u64 v) / 18446744073709551616)) = (T + v) / 18446744073709551616 := by
    rw [shr63 v hv]
    unfold loT i64In midIn at *
    simp only [wrapU, IntKind.wrap_i64]
    split <;> omega
  obtain ⟨u, hu⟩ : ∃ u, IntKind.wrap .u64 v = u := ⟨_, rfl⟩
  obtain ⟨w, hw⟩ : ∃ w, IntKind.wrap .i64 (T / 18446744073709551616 + shrK .i64 v 63) = w := ⟨_, rfl⟩
  rw [hu] at h1 hux
  rw [hu, hw] at hhi
  simp (disch := first | omega | assumption | decide | (simp <;> omega) | fail) [facts, ]
  refine fresh_intro fun b hb => ?_
  simp (disch := first | omega | assumption | decide | (simp <;> omega) | fail) [facts, ]
  refine fresh_intro fun b2 hb2 => ?_
  have hbb : b ≠ b2 := ne_of_fresh hb2 (upd_same _ _ _)
  have hl2 : upd (upd H b (.row true 0 [.int .i64 (T / 18446744073709551616), .int .u64 (loT T)] 0)) b2 (.row true 0 [.int .i64 0, .int .u64 0] 0) b = some (.row true 0 [.int .i64 (T / 18446744073709551616), .int .u64 (loT T)] 0) := by rw [upd_ne _ _ hbb, upd_same]
  simp (disch := first | omega | assumption | decide | (simp <;> omega) | fail) [facts, hl2, hu]
  refine add64_x hlo hux ?_
  generalize (loT T + u) / 18446744073709551616 = cy at hhi
  rw [h1]
  simp (disch := first | omega | assumption | decide | (simp <;> omega) | fail) [facts, hl2, hu, hw]
  obtain ⟨c1, hc1⟩ : ∃ c, IntKind.wrap .i64 cy = c := ⟨_, rfl⟩
  rw [hc1] at hhi
  simp (disch := first | omega | assumption | decide | (simp <;> omega) | fail) [facts, hl2, hu, hw, hc1, hhi]
  exact ⟨_, Heap.le_refl _, le_updN _ (Heap.le_trans (le_upd _ hb) (le_upd _ hb2)) (le_of_none (le_upd _ hb) hb2)⟩
theorem wnarrow_c (T : Int) (H : Heap) (hT : midIn T) :
    ECalls Try.prog 31 #[.agg #[.int .i64 (T / 18446744073709551616), .int .u64 (loT T)]] H fun r H' => r = totV T ∧ Heap.le H H' := by
  refine ecalls_of_ewp (args := [_]) Try.func31 rfl rfl rfl (by simp [Try.ntmps31]) (by kernel_rfl) ?_
  have hend : (T / 18446744073709551616 = shrK .i64 (IntKind.wrap .i64 (loT T)) 63) ↔ i64In T := by
    have hw : i64In (IntKind.wrap .i64 (loT T)) := by rw [IntKind.wrap_i64]; unfold i64In; omega
    rw [shr63 _ hw, IntKind.wrap_i64]
    unfold loT i64In midIn at *
    split <;> omega
  simp (disch := first | omega | assumption | decide | (simp <;> omega) | fail) [facts, ]
  refine fresh_intro fun b hb => ?_
  by_cases hin : i64In T
  · have hv := tot_val _ hin
    have hne := hend.2 hin
    rw [hv] at hne
    simp (disch := first | omega | assumption | decide | (simp <;> omega) | fail) [facts, hv, hne, totV, hin]
    exact ⟨_, Heap.le_refl _, le_upd _ hb⟩
  · have hne : ¬ T / 18446744073709551616 = shrK .i64 (IntKind.wrap .i64 (loT T)) 63 := fun h => hin (hend.1 h)
    simp (disch := first | omega | assumption | decide | (simp <;> omega) | fail) [facts, hne, totV, hin]
    exact ⟨_, Heap.le_refl _, le_upd _ hb⟩

theorem totalR_c (a : Option Addr) (n c : Nat) (zs : List Int) (H : Heap) (h : SlA H a n 1 (zs.map i64V)) (hz : ∀ z ∈ zs, i64In z) (hn : n ≤ 140737488351232) :
    ECalls Try.prog 24 #[.slice a n c] H fun r H' => r = totV zs.sum ∧ Heap.le H H' := by
  refine ecalls_of_ewp (args := [_]) Try.func24 rfl rfl rfl (by simp [Try.ntmps24]) (by kernel_rfl) ?_
  have hl : zs.length = n := by simpa using h.len
  have hmid : ∀ k, midIn (zs.take k).sum := fun k => sum_mid _ (fun z hz' => hz z (List.mem_of_mem_take hz')) (by rw [List.length_take]; omega)
  simp (disch := first | omega | assumption | decide | (simp <;> omega) | fail) [facts, ]
  refine fresh_intro fun b hb => ?_
  simp (disch := first | omega | assumption | decide | (simp <;> omega) | fail) [facts, upd_upd]
  refine w_loop (fun s => ∃ k : Nat, k ≤ n ∧ s.env 0 = .slice a n c ∧ s.env 4 = .pointer (some ⟨b, 0, none⟩) ∧ s.env 5 = .int .i64 k ∧ Heap.le H s.heap ∧ s.heap b = some (.row true 0 [.int .i64 ((zs.take k).sum / 18446744073709551616), .int .u64 (loT (zs.take k).sum)] 0)) (fun s => n - (intOf (s.env 5)).toNat) ?_ ?_
  · exact ⟨0, Nat.zero_le _, by simp, by simp, by simp, by simpa using le_upd _ hb, by simp [loT]⟩
  · rintro ⟨e, H1⟩ ⟨k, hk, e0, e4, e5, hle, hbl⟩
    simp only at e0 e4 e5 hle hbl
    by_cases hlt : k < n
    · obtain ⟨x, hx⟩ : ∃ x, zs[k]? = some x := ⟨_, List.getElem?_eq_getElem (by omega)⟩
      have gx := (h.le hle).at hx
      rw [i64V_def] at gx
      have px := h.plain
      have tx := h.there (by omega)
      have hxin : i64In x := hz x (List.mem_of_getElem? hx)
      have hst := sum_take_succ zs k x hx
      have hm1 := hmid k
      have hm2 := hmid (k + 1)
      rw [hst] at hm2
      simp (disch := first | omega | assumption | decide | (simp <;> omega) | fail) [facts, e0, e4, e5, hlt]
      refine w_plan (P := Try.prog) (by simp [facts]) (opsP [0,1,2,3,4,5,6] .done) ?_ ?_
      · decide +kernel
      simp (disch := first | omega | assumption | decide | (simp <;> omega) | fail) [facts, e0, e4, e5, hlt, gx, hbl]
      refine (wadd_c _ x _ hxin hm1 hm2).mono ?_
      rintro r H2 ⟨rfl, hle2⟩
      have hbl2 := hle2 _ _ hbl
      simp (disch := first | omega | assumption | decide | (simp <;> omega) | fail) [facts, e0, e4, e5, hlt, hbl2]
      exact ⟨_, Heap.le_refl _, ⟨k + 1, by omega, by simp [e0], by simp [e4], by simp, by simpa using le_updN _ (Heap.le_trans hle hle2) hb, by simp [hst]⟩, by simp [intOf, e5]; omega⟩
    · have hkn : k = n := by omega
      subst hkn
      rw [List.take_of_length_le (by omega)] at hbl
      simp (disch := first | omega | assumption | decide | (simp <;> omega) | fail) [facts, e0, e4, e5, hlt, hbl]
      have hm := hmid k
      rw [List.take_of_length_le (by omega)] at hm
      refine (wnarrow_c _ _ hm).mono ?_
      rintro r H2 ⟨rfl, hle2⟩
      by_cases hin : i64In zs.sum
      · simp (disch := first | omega | assumption | decide | (simp <;> omega) | fail) [facts, totV, hin]
        exact ⟨_, Heap.le_refl _, Heap.le_trans hle hle2⟩
      · simp (disch := first | omega | assumption | decide | (simp <;> omega) | fail) [facts, totV, hin]
        exact ⟨_, Heap.le_refl _, Heap.le_trans hle hle2⟩

theorem size_c (v : Int) (H : Heap) (hv : i64In v) : ECalls Try.prog 33 #[.int .i64 v] H fun r H' => r = .int .u64 (v.natAbs : Int) ∧ H' = H := by
  refine ecalls_of_ewp (args := [_]) Try.func33 rfl rfl rfl (by simp [Try.ntmps33]) (by kernel_rfl) ?_
  by_cases h : v < 0
  · have h1 : IntKind.wrap .u64 (0 - IntKind.wrap .u64 v) = (v.natAbs : Int) := by simp only [wrapU]; unfold i64In at hv; omega
    obtain ⟨u, hu⟩ : ∃ u, IntKind.wrap .u64 v = u := ⟨_, rfl⟩
    rw [hu] at h1
    have h2 : IntKind.wrap .u64 (-u) = (v.natAbs : Int) := by rw [← h1]; congr 1; omega
    simp (disch := first | omega | assumption | decide | (simp <;> omega) | fail) [facts, h, hu, h1, h2]
  · have h1 : IntKind.wrap .u64 v = (v.natAbs : Int) := by simp only [wrapU]; unfold i64In at hv; omega
    simp (disch := first | omega | assumption | decide | (simp <;> omega) | fail) [facts, h, h1]
theorem abs_c (v : Int) (H : Heap) (hv : i64In v) : ECalls Try.prog 35 #[.int .i64 v] H fun r H' => r = .int .u64 (v.natAbs : Int) ∧ H' = H := by
  refine ecalls_of_ewp (args := [_]) Try.func35 rfl rfl rfl (by simp [Try.ntmps35]) (by kernel_rfl) ?_
  unfold i64In at hv
  by_cases h : v < 0
  · have h2 : -(v + 1) + 1 = (v.natAbs : Int) := by omega
    have h3 : 0 - (v + 1) + 1 = (v.natAbs : Int) := by omega
    simp (disch := first | omega | assumption | decide | (simp <;> omega) | fail) [facts, h, h2, h3]
    try omega
  · have h1 : IntKind.wrap .u64 v = (v.natAbs : Int) := by simp only [wrapU]; omega
    simp (disch := first | omega | assumption | decide | (simp <;> omega) | fail) [facts, h, h1]
end Go.Proofs.Ytiaigpkaajnpoaa.GL
