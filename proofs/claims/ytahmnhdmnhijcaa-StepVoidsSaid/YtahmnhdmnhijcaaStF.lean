/- Layer 19: the walks of StepVoids and StepAmounts. -/
import Derived.Test.YtahmnhdmnhijcaaStE
namespace Go.Proofs.Ytahmnhdmnhijcaa.GL
open Go Go.RowKit
set_option maxRecDepth 10000
set_option pp.deepTerms.threshold 8
set_option pp.maxSteps 3000
set_option linter.unusedSimpArgs false
set_option linter.unusedVariables false

set_option maxHeartbeats 4000000 in
theorem stepVoids_c (st k am gi : Nat) (H : Heap) (hst : st < 256) (hk : k < 256) (ham : am < 65536) (hgi : gi < 65536) :
    ECalls Try.prog 5 #[.int .u8 st, .int .u8 k, .int .u16 am, .int .u16 gi] H fun r _ => r = .bool true := by
  refine ecalls_of_ewp (args := [_, _, _, _]) Try.func5 rfl rfl rfl (by simp [Try.ntmps5]) (by kernel_rfl) ?_
  have cr := fun H => right_c st k am gi H hst hk ham hgi
  have hT := rtT_right (st % 7) k (am % 3000 + 1) (gi % (am % 3000 + 1)) (Nat.mod_lt _ (by decide)) (by have := Nat.mod_lt am (show 0 < 3000 by decide); omega) (Nat.mod_lt _ (by omega))
  generalize rtT (st % 7) k (am % 3000 + 1) (gi % (am % 3000 + 1)) = T at cr hT
  have ham2 : 0 ≤ T.amount := by
    rcases hT with rfl | h
    · decide
    · have := h.am1; omega
  obtain ⟨te, stn, pan, a, sta, n0, n1, n2, n3, gv, ow⟩ := T
  have cs := fun H => step_c _ ⟨4, te, stn, [], 0, 0, 0, 0, 0⟩ H hT (rightR_plain 4 te stn 0 (by decide) (by decide)) (.inr ⟨rfl, rfl⟩)
  clear hT
  simp only at ham2
  simp (disch := first | omega | assumption | decide | (simp <;> omega) | fail) [facts, ]
  refine (known_c H).mono ?_
  rintro r H1 ⟨rfl, hle1⟩
  simp (disch := first | omega | assumption | decide | (simp <;> omega) | fail) [facts, ]
  refine (cr _).mono ?_
  rintro r H2 ⟨rfl, hle2⟩
  clear cr
  simp only [txnV, txnL, recV] at cs
  simp only [txnV, txnL]
  simp (disch := first | omega | assumption | decide | (simp <;> omega) | fail) [facts, ]
  refine fresh_intro fun b9 hb9 => ?_
  simp (disch := first | omega | assumption | decide | (simp <;> omega) | fail) [facts, upd_upd]
  have l9 := upd_same H2 b9 (.row true 0 [.int .u16 te, .int .u32 stn, .string (mkS pan), .int .i64 a, .int .i64 sta, .int .i64 n0, .int .i64 n1, .int .i64 n2, .int .i64 n3, .int .i64 gv, .int .i64 ow] 0)
  generalize upd H2 b9 (.row true 0 [.int .u16 te, .int .u32 stn, .string (mkS pan), .int .i64 a, .int .i64 sta, .int .i64 n0, .int .i64 n1, .int .i64 n2, .int .i64 n3, .int .i64 gv, .int .i64 ow] 0) = H3 at l9 ⊢
  try simp (disch := first | omega | assumption | decide | (simp <;> omega) | fail) [facts, l9]
  refine (cs _).mono ?_
  rintro r H4 ⟨rfl, hle4⟩
  replace l9 := hle4 _ _ l9
  by_cases hin : sta = 1 ∨ sta = 2
  · have hs : stepF ⟨te, stn, pan, a, sta, n0, n1, n2, n3, gv, ow⟩ ⟨4, te, stn, [], 0, 0, 0, 0, 0⟩ = (⟨te, stn, pan, a, 4, n0, n1, n2, n3, 0, a⟩, 0) := by simp [stepF, fromL, hin, revT]
    rw [hs]
    have cd := fun H => due_c ⟨te, stn, pan, a, 4, n0, n1, n2, n3, 0, a⟩ H
    have co := fun H => open_c ⟨te, stn, pan, a, 4, n0, n1, n2, n3, 0, a⟩ H
    simp only [pairV, txnV, txnL] at cd co ⊢
    simp (disch := first | omega | assumption | decide | (simp <;> omega) | fail) [facts, ]
    refine fresh_intro fun b10 hb10 => ?_
    replace l9 := upd_other (o := .row true 0 [.int .u16 te, .int .u32 stn, .string (mkS pan), .int .i64 a, .int .i64 4, .int .i64 n0, .int .i64 n1, .int .i64 n2, .int .i64 n3, .int .i64 0, .int .i64 a] 0) hb10 l9
    have l10 := upd_same H4 b10 (.row true 0 [.int .u16 te, .int .u32 stn, .string (mkS pan), .int .i64 a, .int .i64 4, .int .i64 n0, .int .i64 n1, .int .i64 n2, .int .i64 n3, .int .i64 0, .int .i64 a] 0)
    rcases hin with rfl | rfl
    all_goals
      simp (disch := first | omega | assumption | decide | (simp <;> omega) | fail) [facts, l9, upd_upd]
      refine (cd _).mono ?_
      rintro r H5 ⟨rfl, hle5⟩
      replace l10 := hle5 _ _ l10
      simp (disch := first | omega | assumption | decide | (simp <;> omega) | fail) [facts, l10]
      refine (co _).mono ?_
      rintro r H6 ⟨rfl, hle6⟩
      simp (disch := first | omega | assumption | decide | (simp <;> omega) | fail) [facts, ]
      exact ⟨_, Heap.le_refl _⟩
  · have hs : stepF ⟨te, stn, pan, a, sta, n0, n1, n2, n3, gv, ow⟩ ⟨4, te, stn, [], 0, 0, 0, 0, 0⟩ = (zeroT, 30) := by simp [stepF, fromL, hin]
    rw [hs]
    simp only [pairV, txnV, txnL, zeroT]
    simp (disch := first | omega | assumption | decide | (simp <;> omega) | fail) [facts, ]
    refine fresh_intro fun b10 hb10 => ?_
    replace l9 := upd_other (o := .row true 0 [.int .u16 0, .int .u32 0, .string (mkS []), .int .i64 0, .int .i64 0, .int .i64 0, .int .i64 0, .int .i64 0, .int .i64 0, .int .i64 0, .int .i64 0] 0) hb10 l9
    simp (disch := first | omega | assumption | decide | (simp <;> omega) | fail) [facts, l9, upd_upd, show ¬ sta = 1 by omega, show ¬ sta = 2 by omega]
    exact ⟨_, Heap.le_refl _⟩

set_option maxHeartbeats 4000000 in
theorem stepAmounts_c (am gi k : Nat) (H : Heap) (ham : am < 65536) (hgi : gi < 65536) (hk : k < 256) :
    ECalls Try.prog 4 #[.int .u16 am, .int .u16 gi, .int .u8 k] H fun r _ => r = .bool true := by
  refine ecalls_of_ewp (args := [_, _, _]) Try.func4 rfl rfl rfl (by simp [Try.ntmps4]) (by kernel_rfl) ?_
  have cr := fun H => right_c 3 k am gi H (by decide) hk ham hgi
  have hT := rtT_right (3 % 7) k (am % 3000 + 1) (gi % (am % 3000 + 1)) (by decide) (by have := Nat.mod_lt am (show 0 < 3000 by decide); omega) (Nat.mod_lt _ (by omega))
  have ha : am % 3000 + 1 ≤ 3000 := by have := Nat.mod_lt am (show 0 < 3000 by decide); omega
  have ha1 : 1 ≤ am % 3000 + 1 := by omega
  have e : rtT (3 % 7) k (am % 3000 + 1) (gi % (am % 3000 + 1)) = ⟨k % 3, k % 4 + 1, panL k, ((am % 3000 + 1 : Nat) : Int), 3, k % 5, 1, 0, 0, 0, 0⟩ := by simp [rtT]
  rw [e] at cr hT
  clear e
  obtain ⟨p1, p2, p3⟩ := panL_ok k
  have hk5 : fewIn ((k : Int) % 5) := ⟨by omega, by omega⟩
  have f1 : fewIn 1 := ⟨by decide, by decide⟩
  generalize (k : Int) % 3 = te at cr hT
  generalize (k : Int) % 4 + 1 = stn at cr hT
  generalize (k : Int) % 5 = n0 at cr hT hk5
  generalize panL k = pan at *
  generalize am % 3000 + 1 = a at *
  have cs := fun H => step_c _ ⟨6, te, stn, [], gi, 0, 0, 0, 0⟩ H hT (rightR_plain 6 te stn gi (by decide) (by omega)) (.inr ⟨rfl, rfl⟩)
  clear hT
  simp (disch := first | omega | assumption | decide | (simp <;> omega) | fail) [facts, ]
  refine (known_c H).mono ?_
  rintro r H1 ⟨rfl, hle1⟩
  simp (disch := first | omega | assumption | decide | (simp <;> omega) | fail) [facts, ]
  refine (cr _).mono ?_
  rintro r H2 ⟨rfl, hle2⟩
  clear cr
  simp only [txnV, txnL, recV] at cs
  simp only [txnV, txnL]
  simp (disch := first | omega | assumption | decide | (simp <;> omega) | fail) [facts, ]
  refine fresh_intro fun b7 hb7 => ?_
  simp (disch := first | omega | assumption | decide | (simp <;> omega) | fail) [facts, upd_upd]
  have l7 := upd_same H2 b7 (.row true 0 [.int .u16 te, .int .u32 stn, .string (mkS pan), .int .i64 a, .int .i64 3, .int .i64 n0, .int .i64 1, .int .i64 0, .int .i64 0, .int .i64 0, .int .i64 0] 0)
  generalize upd H2 b7 (.row true 0 [.int .u16 te, .int .u32 stn, .string (mkS pan), .int .i64 a, .int .i64 3, .int .i64 n0, .int .i64 1, .int .i64 0, .int .i64 0, .int .i64 0, .int .i64 0] 0) = H3 at l7 ⊢
  try simp (disch := first | omega | assumption | decide | (simp <;> omega) | fail) [facts, l7]
  refine (cs _).mono ?_
  rintro r H4 ⟨rfl, hle4⟩
  replace l7 := hle4 _ _ l7
  by_cases hlt : (a : Int) < gi
  · have hs : stepF ⟨te, stn, pan, a, 3, n0, 1, 0, 0, 0, 0⟩ ⟨6, te, stn, [], gi, 0, 0, 0, 0⟩ = (zeroT, 34) := by simp [stepF, fromL]; omega
    rw [hs]
    simp only [pairV, txnV, txnL, zeroT]
    simp (disch := first | omega | assumption | decide | (simp <;> omega) | fail) [facts, ]
    refine fresh_intro fun b9 hb9 => ?_
    replace l7 := upd_other (o := .row true 0 [.int .u16 0, .int .u32 0, .string (mkS []), .int .i64 0, .int .i64 0, .int .i64 0, .int .i64 0, .int .i64 0, .int .i64 0, .int .i64 0, .int .i64 0] 0) hb9 l7
    simp (disch := first | omega | assumption | decide | (simp <;> omega) | fail) [facts, l7, upd_upd, hlt, show a < gi by omega]
    exact ⟨_, Heap.le_refl _⟩
  by_cases heq : (gi : Int) = a
  · have hs : stepF ⟨te, stn, pan, a, 3, n0, 1, 0, 0, 0, 0⟩ ⟨6, te, stn, [], gi, 0, 0, 0, 0⟩ = (⟨te, stn, pan, a, 5, n0, 1, 0, 0, a, 0⟩, 0) := by
      rw [heq]; simp [stepF, fromL, revT]
    rw [hs]
    have hU : RightT ⟨te, stn, pan, a, 5, n0, 1, 0, 0, a, 0⟩ := .inr ⟨p1, p2, p3, by simp; omega, by simp; omega, ⟨hk5, f1, few0, few0⟩, .inr (.inr (.inr ⟨rfl, .inl ⟨rfl, rfl⟩⟩))⟩
    have cs2 := fun H => step_c _ ⟨7, te, stn, [], 0, 0, 0, 0, 0⟩ H hU (rightR_plain 7 te stn 0 (by decide) (by decide)) (.inr ⟨rfl, rfl⟩)
    have hs2 : stepF ⟨te, stn, pan, a, 5, n0, 1, 0, 0, a, 0⟩ ⟨7, te, stn, [], 0, 0, 0, 0, 0⟩ = (zeroT, 30) := by simp [stepF, fromL]
    rw [hs2] at cs2
    have cd := fun H => due_c ⟨te, stn, pan, a, 5, n0, 1, 0, 0, a, 0⟩ H
    simp only [pairV, txnV, txnL, recV, zeroT] at cs2 cd ⊢
    obtain rfl : gi = a := by omega
    simp (disch := first | omega | assumption | decide | (simp <;> omega) | fail) [facts, ]
    refine fresh_intro fun b9 hb9 => ?_
    replace l7 := upd_other (o := .row true 0 [.int .u16 te, .int .u32 stn, .string (mkS pan), .int .i64 gi, .int .i64 5, .int .i64 n0, .int .i64 1, .int .i64 0, .int .i64 0, .int .i64 gi, .int .i64 0] 0) hb9 l7
    have l9 := upd_same H4 b9 (.row true 0 [.int .u16 te, .int .u32 stn, .string (mkS pan), .int .i64 gi, .int .i64 5, .int .i64 n0, .int .i64 1, .int .i64 0, .int .i64 0, .int .i64 gi, .int .i64 0] 0)
    simp (disch := first | omega | assumption | decide | (simp <;> omega) | fail) [facts, l7, upd_upd]
    refine (cs2 _).mono ?_
    rintro r H5 ⟨rfl, hle5⟩
    replace l7 := hle5 _ _ l7
    replace l9 := hle5 _ _ l9
    simp (disch := first | omega | assumption | decide | (simp <;> omega) | fail) [facts, l7, l9]
    refine fresh_intro fun b11 hb11 => ?_
    replace l7 := upd_other (o := .row true 0 [.int .u16 0, .int .u32 0, .string (mkS []), .int .i64 0, .int .i64 0, .int .i64 0, .int .i64 0, .int .i64 0, .int .i64 0, .int .i64 0, .int .i64 0] 0) hb11 l7
    replace l9 := upd_other (o := .row true 0 [.int .u16 0, .int .u32 0, .string (mkS []), .int .i64 0, .int .i64 0, .int .i64 0, .int .i64 0, .int .i64 0, .int .i64 0, .int .i64 0, .int .i64 0] 0) hb11 l9
    simp (disch := first | omega | assumption | decide | (simp <;> omega) | fail) [facts, l7, l9, upd_upd]
    refine (cd _).mono ?_
    rintro r H6 ⟨rfl, hle6⟩
    simp (disch := first | omega | assumption | decide | (simp <;> omega) | fail) [facts, ]
    exact ⟨_, Heap.le_refl _⟩
  · have hs : stepF ⟨te, stn, pan, a, 3, n0, 1, 0, 0, 0, 0⟩ ⟨6, te, stn, [], gi, 0, 0, 0, 0⟩ = (⟨te, stn, pan, a, 4, n0, 1, 0, 0, gi, (a : Int) - gi⟩, 0) := by
      simp [stepF, fromL, revT, show ¬ a < gi by omega, show ¬ (a : Int) - gi = 0 by omega]
    rw [hs]
    have hU : RightT ⟨te, stn, pan, a, 4, n0, 1, 0, 0, gi, (a : Int) - gi⟩ := .inr ⟨p1, p2, p3, by simp; omega, by simp; omega, ⟨hk5, f1, few0, few0⟩, .inr (.inr (.inl ⟨rfl, by simp only [owesT]; omega⟩))⟩
    have cs2 := fun H => step_c _ ⟨7, te, stn, [], 0, 0, 0, 0, 0⟩ H hU (rightR_plain 7 te stn 0 (by decide) (by decide)) (.inr ⟨rfl, rfl⟩)
    have hs2 : stepF ⟨te, stn, pan, a, 4, n0, 1, 0, 0, gi, (a : Int) - gi⟩ ⟨7, te, stn, [], 0, 0, 0, 0, 0⟩ = (⟨te, stn, pan, a, 5, n0, 1, 0, 0, gi, (a : Int) - gi⟩, 0) := by simp [stepF, fromL]
    rw [hs2] at cs2
    have cd := fun H => due_c ⟨te, stn, pan, a, 4, n0, 1, 0, 0, gi, (a : Int) - gi⟩ H
    have cd2 := fun H => due_c ⟨te, stn, pan, a, 5, n0, 1, 0, 0, gi, (a : Int) - gi⟩ H
    simp only [pairV, txnV, txnL, recV, zeroT] at cs2 cd cd2 ⊢
    obtain ⟨ow, how⟩ : ∃ ow : Int, ow = (a : Int) - gi := ⟨_, rfl⟩
    have hgo : (gi : Int) + ow = a := by omega
    rw [← how] at cs2 cd cd2 ⊢
    clear hs hs2 hU
    simp (disch := first | omega | assumption | decide | (simp <;> omega) | fail) [facts, ]
    refine fresh_intro fun b9 hb9 => ?_
    replace l7 := upd_other (o := .row true 0 [.int .u16 te, .int .u32 stn, .string (mkS pan), .int .i64 a, .int .i64 4, .int .i64 n0, .int .i64 1, .int .i64 0, .int .i64 0, .int .i64 gi, .int .i64 ow] 0) hb9 l7
    have l9 := upd_same H4 b9 (.row true 0 [.int .u16 te, .int .u32 stn, .string (mkS pan), .int .i64 a, .int .i64 4, .int .i64 n0, .int .i64 1, .int .i64 0, .int .i64 0, .int .i64 gi, .int .i64 ow] 0)
    simp (disch := first | omega | assumption | decide | (simp <;> omega) | fail) [facts, l7, upd_upd, hgo, hlt, heq, show ¬ a < gi by omega]
    refine (cs2 _).mono ?_
    rintro r H5 ⟨rfl, hle5⟩
    replace l7 := hle5 _ _ l7
    replace l9 := hle5 _ _ l9
    simp (disch := first | omega | assumption | decide | (simp <;> omega) | fail) [facts, l7, l9]
    refine fresh_intro fun b11 hb11 => ?_
    replace l7 := upd_other (o := .row true 0 [.int .u16 te, .int .u32 stn, .string (mkS pan), .int .i64 a, .int .i64 5, .int .i64 n0, .int .i64 1, .int .i64 0, .int .i64 0, .int .i64 gi, .int .i64 ow] 0) hb11 l7
    replace l9 := upd_other (o := .row true 0 [.int .u16 te, .int .u32 stn, .string (mkS pan), .int .i64 a, .int .i64 5, .int .i64 n0, .int .i64 1, .int .i64 0, .int .i64 0, .int .i64 gi, .int .i64 ow] 0) hb11 l9
    simp (disch := first | omega | assumption | decide | (simp <;> omega) | fail) [facts, l7, l9, upd_upd, show gi < a by omega]
    refine (cd2 _).mono ?_
    rintro r H6 ⟨rfl, hle6⟩
    replace l9 := hle6 _ _ l9
    simp (disch := first | omega | assumption | decide | (simp <;> omega) | fail) [facts, l9]
    refine (cd _).mono ?_
    rintro r H7 ⟨rfl, hle7⟩
    simp (disch := first | omega | assumption | decide | (simp <;> omega) | fail) [facts, ]
    exact ⟨_, Heap.le_refl _⟩
end Go.Proofs.Ytahmnhdmnhijcaa.GL
