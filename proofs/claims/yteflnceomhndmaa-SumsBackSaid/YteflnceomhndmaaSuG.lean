/- Layer 2: the walk of SumsBack. -/
import Derived.Test.YteflnceomhndmaaSuF
namespace Go.Proofs.Yteflnceomhndmaa.GL
open Go Go.RowKit
set_option maxRecDepth 10000
set_option pp.deepTerms.threshold 8
set_option pp.maxSteps 3000
set_option linter.unusedSimpArgs false
set_option linter.unusedVariables false

set_option maxHeartbeats 2000000 in
theorem sumsBack_c (a b : Int) (k m : Nat) (H : Heap) (ha : i64In a) (hb : i64In b) (hk : k < 256) (hm : m < 256) :
    ECalls Try.prog 6 #[.int .i64 a, .int .i64 b, .int .u8 k, .int .u8 m] H fun r _ => r = .bool true := by
  refine ecalls_of_ewp (args := [_, _, _, _]) Try.func6 rfl rfl rfl (by simp [Try.ntmps6]) (by kernel_rfl) ?_
  have hx := nearZ_in a k ha
  have hy := nearZ_in b m hb
  simp (disch := first | omega | assumption | decide | (simp <;> omega) | fail) [facts, ]
  refine (known_c H).mono ?_
  rintro r H1 ⟨rfl, hle1⟩
  simp (disch := first | omega | assumption | decide | (simp <;> omega) | fail) [facts, ]
  refine (near_c a k _ ha hk).mono ?_
  rintro r H2 ⟨rfl, rfl⟩
  simp (disch := first | omega | assumption | decide | (simp <;> omega) | fail) [facts, ]
  refine (near_c b m _ hb hm).mono ?_
  rintro r H2 ⟨rfl, rfl⟩
  generalize nearZ a k = x at *
  generalize nearZ b m = y at *
  simp (disch := first | omega | assumption | decide | (simp <;> omega) | fail) [facts, ]
  refine (add_c x y _ hx hy).mono ?_
  rintro r H3 ⟨rfl, hle3⟩
  by_cases hs : i64In (x + y)
  · rw [totV_yes hs]
    simp (disch := first | omega | assumption | decide | (simp <;> omega) | fail) [facts, ]
    refine (add_c y x _ hy hx).mono ?_
    rintro r H4 ⟨rfl, hle4⟩
    rw [Int.add_comm y x, totV_yes hs]
    simp (disch := first | omega | assumption | decide | (simp <;> omega) | fail) [facts, ]
    refine (sub_c (x + y) y _ hs hy).mono ?_
    rintro r H5 ⟨rfl, rfl⟩
    rw [show x + y - y = x by omega, totV_yes hx]
    simp (disch := first | omega | assumption | decide | (simp <;> omega) | fail) [facts, ]
    refine (mul_c x y _ hx hy).mono ?_
    rintro r H6 ⟨rfl, rfl⟩
    by_cases hp : i64In (x * y)
    · rw [totV_yes hp]
      simp (disch := first | omega | assumption | decide | (simp <;> omega) | fail) [facts, ]
      refine (mul_c y x _ hy hx).mono ?_
      rintro r H7 ⟨rfl, rfl⟩
      rw [Int.mul_comm y x, totV_yes hp]
      by_cases h0 : y = 0
      · subst h0
        simp (disch := first | omega | assumption | decide | (simp <;> omega) | fail) [facts, ]
        exact ⟨_, Heap.le_refl _⟩
      · by_cases h1 : y = -1
        · subst h1
          unfold i64In at hp hx
          simp (disch := first | omega | assumption | decide | (simp <;> omega) | fail) [facts, show x * -1 = -x by omega, show (0 : Int) - x = -x by omega]
          exact ⟨_, Heap.le_refl _⟩
        · have hdiv : (x * y).tdiv y = x := Int.mul_tdiv_cancel _ h0
          have hmod : (x * y).tmod y = 0 := Int.mul_tmod_left _ _
          generalize x * y = p at *
          unfold i64In at hx
          simp (disch := first | omega | assumption | decide | (simp <;> omega) | fail) [facts, h0, h1, hdiv, hmod]
          exact ⟨_, Heap.le_refl _⟩
    · rw [totV_no hp]
      simp (disch := first | omega | assumption | decide | (simp <;> omega) | fail) [facts, ]
      refine (mul_c y x _ hy hx).mono ?_
      rintro r H7 ⟨rfl, rfl⟩
      rw [Int.mul_comm y x, totV_no hp]
      simp (disch := first | omega | assumption | decide | (simp <;> omega) | fail) [facts, ]
      exact ⟨_, Heap.le_refl _⟩
  · rw [totV_no hs]
    simp (disch := first | omega | assumption | decide | (simp <;> omega) | fail) [facts, ]
    refine (add_c y x _ hy hx).mono ?_
    rintro r H4 ⟨rfl, hle4⟩
    rw [Int.add_comm y x, totV_no hs]
    simp (disch := first | omega | assumption | decide | (simp <;> omega) | fail) [facts, ]
    refine (mul_c x y _ hx hy).mono ?_
    rintro r H6 ⟨rfl, rfl⟩
    by_cases hp : i64In (x * y)
    · rw [totV_yes hp]
      simp (disch := first | omega | assumption | decide | (simp <;> omega) | fail) [facts, ]
      refine (mul_c y x _ hy hx).mono ?_
      rintro r H7 ⟨rfl, rfl⟩
      rw [Int.mul_comm y x, totV_yes hp]
      by_cases h0 : y = 0
      · subst h0
        simp (disch := first | omega | assumption | decide | (simp <;> omega) | fail) [facts, ]
        exact ⟨_, Heap.le_refl _⟩
      · by_cases h1 : y = -1
        · subst h1
          unfold i64In at hp hx
          simp (disch := first | omega | assumption | decide | (simp <;> omega) | fail) [facts, show x * -1 = -x by omega, show (0 : Int) - x = -x by omega]
          exact ⟨_, Heap.le_refl _⟩
        · have hdiv : (x * y).tdiv y = x := Int.mul_tdiv_cancel _ h0
          have hmod : (x * y).tmod y = 0 := Int.mul_tmod_left _ _
          generalize x * y = p at *
          unfold i64In at hx
          simp (disch := first | omega | assumption | decide | (simp <;> omega) | fail) [facts, h0, h1, hdiv, hmod]
          exact ⟨_, Heap.le_refl _⟩
    · rw [totV_no hp]
      simp (disch := first | omega | assumption | decide | (simp <;> omega) | fail) [facts, ]
      refine (mul_c y x _ hy hx).mono ?_
      rintro r H7 ⟨rfl, rfl⟩
      rw [Int.mul_comm y x, totV_no hp]
      simp (disch := first | omega | assumption | decide | (simp <;> omega) | fail) [facts, ]
      exact ⟨_, Heap.le_refl _⟩
end Go.Proofs.Yteflnceomhndmaa.GL
