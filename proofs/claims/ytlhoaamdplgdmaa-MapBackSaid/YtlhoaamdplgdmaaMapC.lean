import Derived.Test.YtlhoaamdplgdmaaMapB
namespace Go.Proofs.Ytlhoaamdplgdmaa.GL
open Go Go.RowKit
set_option linter.unusedSimpArgs false
set_option linter.unusedVariables false
set_option maxRecDepth 10000
set_option pp.deepTerms.threshold 6
set_option pp.maxSteps 3000

theorem ints_c (a a' : Option Addr) (n n' c c' : Nat) (xs ys : List Int) (H : Heap) (hx : SlA H a n 1 (xs.map i64V)) (hy : SlA H a' n' 1 (ys.map i64V)) (hn : n ≤ 140737488351232) (hn' : n' ≤ 140737488351232) :
    ECalls Try.prog 10 #[.slice a n c, .slice a' n' c'] H fun v H' => v = .bool (decide (xs = ys)) ∧ H' = H := by
  refine ecalls_of_ewp (args := [_, _]) Try.func10 rfl rfl rfl (by simp [Try.ntmps10]) (by kernel_rfl) ?_
  have hl : xs.length = n := by simpa using hx.len
  have hl' : ys.length = n' := by simpa using hy.len
  by_cases hnn : n = n'
  · subst hnn
    simp (disch := first | omega | assumption | decide | (simp <;> omega)) [facts]
    refine w_loop (fun s => ∃ k : Nat, k ≤ n ∧ s.env 0 = .slice a n c ∧ s.env 1 = .slice a' n c' ∧ s.env 5 = .int .i64 k ∧ s.heap = H ∧ xs.take k = ys.take k) (fun s => n - (intOf (s.env 5)).toNat) ?_ ?_
    · exact ⟨0, Nat.zero_le _, by simp, by simp, by simp, rfl, by simp⟩
    · rintro ⟨e, H1⟩ ⟨k, hk, e0, e1, e5, hH, heq⟩
      simp only at e0 e1 e5 hH
      subst hH
      by_cases hlt : k < n
      · obtain ⟨x, hx1⟩ : ∃ x, xs[k]? = some x := ⟨_, List.getElem?_eq_getElem (by omega)⟩
        obtain ⟨y, hy1⟩ : ∃ y, ys[k]? = some y := ⟨_, List.getElem?_eq_getElem (by omega)⟩
        have gx : at1 H1 a k = some (.int .i64 x) := by rw [hx.get k (by omega), List.getElem?_map, hx1]; rfl
        have gy : at1 H1 a' k = some (.int .i64 y) := by rw [hy.get k (by omega), List.getElem?_map, hy1]; rfl
        have px := hx.plain
        have py := hy.plain
        have tx := hx.there (by omega)
        have ty := hy.there (by omega)
        simp (disch := first | omega | assumption | decide | (simp <;> omega)) [e0, e1, e5, hlt, facts]
        refine w_draw (by simp [facts]) (by decide +kernel) ?_
        by_cases hxy : x = y
        · simp (disch := first | omega | assumption | decide | (simp <;> omega)) [e0, e1, e5, hlt, gx, gy, hxy, facts]
          refine ⟨_, Heap.le_refl _, ⟨k + 1, by omega, by simp [e0], by simp [e1], by simp, rfl, ?_⟩, ?_⟩
          · rw [take_snoc hx1, take_snoc hy1, heq, hxy]
          · simp [intOf, e5]; omega
        · simp (disch := first | omega | assumption | decide | (simp <;> omega)) [e0, e1, e5, hlt, gx, gy, hxy, facts]
          intro h
          subst h
          rw [hx1] at hy1
          exact hxy (Option.some.inj hy1)
      · have hkn : k = n := by omega
        simp (disch := first | omega | assumption | decide | (simp <;> omega)) [e0, e1, e5, hlt, facts]
        rw [List.take_of_length_le (by omega), List.take_of_length_le (by omega)] at heq
        exact heq
  · have hnn' : ¬ ((n : Int) = n') := by omega
    simp (disch := first | omega | assumption | decide | (simp <;> omega)) [hnn', facts]
    intro h
    subst h
    omega
end Go.Proofs.Ytlhoaamdplgdmaa.GL
