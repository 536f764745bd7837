/- Layer 19: a transaction of numbers; the walks of StepVoids and StepAmounts. -/
import Derived.Test.YtahmnhdmnhijcaaStD
namespace Go.Proofs.Ytahmnhdmnhijcaa.GL
open Go Go.RowKit
set_option maxRecDepth 10000
set_option pp.deepTerms.threshold 8
set_option pp.maxSteps 3000
set_option linter.unusedSimpArgs false
set_option linter.unusedVariables false

def rtT (s k a g : Nat) : Txn :=
  if s = 0 then zeroT
  else if s = 3 then ⟨k % 3, k % 4 + 1, panL k, a, 3, k % 5, 1, 0, 0, 0, 0⟩
  else if s = 4 then ⟨k % 3, k % 4 + 1, panL k, a, 4, 0, 0, 0, 0, g, (a : Int) - g⟩
  else if s = 5 then (if k % 2 = 0 then ⟨k % 3, k % 4 + 1, panL k, a, 5, 0, 0, 0, 0, g, (a : Int) - g⟩ else ⟨k % 3, k % 4 + 1, panL k, a, 5, 0, 0, 0, 0, a, 0⟩)
  else ⟨k % 3, k % 4 + 1, panL k, a, s, 0, 0, 0, 0, 0, 0⟩
theorem panL_ok (k : Nat) : 1 ≤ (panL k).length ∧ (panL k).length ≤ 19 ∧ ∀ c ∈ panL k, digitB c := by
  have h : ∀ l : List UInt8, (l.all fun c => decide (48 ≤ c.toNat ∧ c.toNat ≤ 57)) = true → ∀ c ∈ l, digitB c := fun l hl c hc => by
    have := List.all_eq_true.1 hl c hc
    simpa [digitB] using this
  unfold panL
  repeat' split
  all_goals exact ⟨by decide, by decide, h _ (by decide)⟩
theorem rtT_right (s k a g : Nat) (hs : s < 7) (ha : 1 ≤ a ∧ a ≤ 3000) (hg : g < a) : RightT (rtT s k a g) := by
  obtain ⟨p1, p2, p3⟩ := panL_ok k
  have hk : fewIn ((k % 5 : Nat) : Int) := ⟨by omega, by omega⟩
  have f1 : fewIn 1 := ⟨by decide, by decide⟩
  have hc : s = 0 ∨ s = 1 ∨ s = 2 ∨ s = 3 ∨ s = 4 ∨ s = 5 ∨ s = 6 := by omega
  rcases hc with rfl | rfl | rfl | rfl | rfl | rfl | rfl
  · exact .inl rfl
  · exact .inr ⟨p1, p2, p3, by simp [rtT]; omega, by simp [rtT]; omega, ⟨few0, few0, few0, few0⟩, .inl ⟨.inl rfl, ⟨rfl, rfl, rfl, rfl⟩, rfl, rfl⟩⟩
  · exact .inr ⟨p1, p2, p3, by simp [rtT]; omega, by simp [rtT]; omega, ⟨few0, few0, few0, few0⟩, .inl ⟨.inr (.inl rfl), ⟨rfl, rfl, rfl, rfl⟩, rfl, rfl⟩⟩
  · exact .inr ⟨p1, p2, p3, by simp [rtT]; omega, by simp [rtT]; omega, ⟨hk, f1, few0, few0⟩, .inr (.inl ⟨rfl, rfl, rfl⟩)⟩
  · exact .inr ⟨p1, p2, p3, by simp [rtT]; omega, by simp [rtT]; omega, ⟨few0, few0, few0, few0⟩, .inr (.inr (.inl ⟨rfl, by simp [owesT, rtT]; omega⟩))⟩
  · by_cases h2 : k % 2 = 0
    · have e : rtT 5 k a g = ⟨k % 3, k % 4 + 1, panL k, a, 5, 0, 0, 0, 0, g, (a : Int) - g⟩ := by simp [rtT, h2]
      rw [e]
      exact .inr ⟨p1, p2, p3, by simp; omega, by simp; omega, ⟨few0, few0, few0, few0⟩, .inr (.inr (.inr ⟨rfl, .inr (by simp [owesT]; omega)⟩))⟩
    · have e : rtT 5 k a g = ⟨k % 3, k % 4 + 1, panL k, a, 5, 0, 0, 0, 0, a, 0⟩ := by simp [rtT, h2]
      rw [e]
      exact .inr ⟨p1, p2, p3, by simp; omega, by simp; omega, ⟨few0, few0, few0, few0⟩, .inr (.inr (.inr ⟨rfl, .inl ⟨rfl, rfl⟩⟩))⟩
  · exact .inr ⟨p1, p2, p3, by simp [rtT]; omega, by simp [rtT]; omega, ⟨few0, few0, few0, few0⟩, .inl ⟨.inr (.inr rfl), ⟨rfl, rfl, rfl, rfl⟩, rfl, rfl⟩⟩
theorem rtT_state (s k a g : Nat) (hs : s < 7) : (rtT s k a g).state = s := by
  unfold rtT
  repeat' split
  all_goals first | (simp [zeroT]; omega) | (subst_vars; rfl) | rfl

set_option maxHeartbeats 4000000 in
theorem right_c (st k am gi : Nat) (H : Heap) (hst : st < 256) (hk : k < 256) (ham : am < 65536) (hgi : gi < 65536) :
    ECalls Try.prog 9 #[.int .u8 st, .int .u8 k, .int .u16 am, .int .u16 gi] H fun v H' => v = txnV (rtT (st % 7) k (am % 3000 + 1) (gi % (am % 3000 + 1))) ∧ Heap.le H H' := by
  refine ecalls_of_ewp (args := [_, _, _, _]) Try.func9 rfl rfl rfl (by simp [Try.ntmps9]) (by kernel_rfl) ?_
  have e1 : (am : Int) % 3000 = ((am % 3000 : Nat) : Int) := by omega
  have e2 : (k : Int) % 3 = ((k % 3 : Nat) : Int) := by omega
  have e3 : (k : Int) % 4 = ((k % 4 : Nat) : Int) := by omega
  have e4 : (st : Int) % 7 = ((st % 7 : Nat) : Int) := by omega
  have e5 : (k : Int) % 5 = ((k % 5 : Nat) : Int) := by omega
  have e6 : (k : Int) % 2 = ((k % 2 : Nat) : Int) := by omega
  have h1 : am % 3000 < 3000 := Nat.mod_lt _ (by decide)
  have h2 : k % 3 < 3 := Nat.mod_lt _ (by decide)
  have h3 : k % 4 < 4 := Nat.mod_lt _ (by decide)
  have h4 : st % 7 < 7 := Nat.mod_lt _ (by decide)
  have h5 : k % 5 < 5 := Nat.mod_lt _ (by decide)
  have h6 : k % 2 < 2 := Nat.mod_lt _ (by decide)
  have e7 : (gi : Int) % ((am % 3000 : Nat) + 1 : Int) = ((gi % (am % 3000 + 1) : Nat) : Int) := by simp
  have h7 : gi % (am % 3000 + 1) < am % 3000 + 1 := Nat.mod_lt _ (by omega)
  have cp := fun H => pan_c k H hk
  obtain ⟨R, hR⟩ : ∃ R, R = txnV (rtT (st % 7) k (am % 3000 + 1) (gi % (am % 3000 + 1))) := ⟨_, rfl⟩
  rw [← hR]
  simp only [txnV, txnL, rtT, zeroT] at hR
  generalize gi % (am % 3000 + 1) = g at *
  generalize am % 3000 = a at *
  generalize panL k = pan at *
  generalize k % 3 = k3 at *
  generalize k % 4 = k4 at *
  generalize k % 5 = k5 at *
  generalize k % 2 = k2 at *
  generalize st % 7 = s at *
  simp (disch := first | omega | assumption | decide | (simp <;> omega) | fail) [facts, e1, e2, e3, e4, e7]
  refine fresh_intro fun b8 hb8 => ?_
  simp (disch := first | omega | assumption | decide | (simp <;> omega) | fail) [facts, e1, e2, e3, e4, e7]
  refine (cp _).mono ?_
  rintro v H2 ⟨rfl, hle2⟩
  simp (disch := first | omega | assumption | decide | (simp <;> omega) | fail) [facts, e1, e2, e3, e4, e7]
  refine fresh_intro fun b10 hb10 => ?_
  have l8 := hle2 _ _ (upd_same _ _ _)
  have hb10' : H b10 = none := le_of_none (le_upd _ hb8) (le_of_none hle2 hb10)
  have n8 : b8 ≠ b10 := ne_of_fresh hb10 l8
  have n8' := n8.symm
  have hleH := Heap.le_trans (le_upd _ hb8) hle2
  have hs7 : s = 0 ∨ s = 1 ∨ s = 2 ∨ s = 3 ∨ s = 4 ∨ s = 5 ∨ s = 6 := by omega
  have hk2 : k2 = 0 ∨ k2 = 1 := by omega
  rcases hs7 with rfl | rfl | rfl | rfl | rfl | rfl | rfl
  case inr.inr.inr.inr.inr.inl =>
    rcases hk2 with rfl | rfl
    all_goals
      simp (disch := first | omega | assumption | decide | (simp <;> omega) | fail) [facts, e1, e2, e3, e4, e5, e6, e7, upd_ne, upd_upd, l8]
      refine ⟨_, Heap.le_refl _, by rw [hR]; simp <;> omega, ?_⟩
      repeat' (first | exact hleH | exact hb8 | exact hb10' | apply le_updN)
  all_goals
    clear hk2
    simp (disch := first | omega | assumption | decide | (simp <;> omega) | fail) [facts, e1, e2, e3, e4, e5, e6, e7, upd_ne, upd_upd, l8]
    refine ⟨_, Heap.le_refl _, by rw [hR]; simp <;> omega, ?_⟩
    repeat' (first | exact hleH | exact hb8 | exact hb10' | apply le_updN)
end Go.Proofs.Ytahmnhdmnhijcaa.GL
