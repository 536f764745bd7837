/- Layer 21: known. -/
import Derived.Test.YtdeffhibolcebaaLeF
namespace Go.Proofs.Ytdeffhibolcebaa.GL
open Go Go.RowKit Go.MapKept
set_option maxRecDepth 10000
set_option pp.deepTerms.threshold 8
set_option pp.maxSteps 3000
set_option linter.unusedSimpArgs false
set_option linter.unusedVariables false

abbrev p51 : ByteArray := ⟨#[53, 49]⟩
abbrev p9 : ByteArray := ⟨#[57]⟩
theorem known_c (H : Heap) : ECalls Try.prog 6 #[] H fun v H' => v = .bool true ∧ Heap.le H H' := by
  refine ecalls_of_ewp (args := []) Try.func6 rfl rfl rfl (by simp [Try.ntmps6]) (by kernel_rfl) ?_
  simp (disch := first | omega | assumption | decide | (simp <;> omega) | fail) [facts, ]
  refine fresh_intro fun b1 hb1 => ?_
  simp (disch := first | omega | assumption | decide | (simp <;> omega) | fail) [facts, ]
  refine fresh_intro fun b2 hb2 => ?_
  simp (disch := first | omega | assumption | decide | (simp <;> omega) | fail) [facts, ]
  have s1 : SlA (upd (upd H b1 (.row true 0 [.string p51] 0)) b2 (.row true 0 [.int .i64 1000] 0)) (some ⟨b1, 0, none⟩) 1 1 ([p51].map .string) := SlA.row (upd_other hb2 (upd_same _ _ _)) (Nat.le_refl _) rfl (by simp) (by simp)
  have s2 : SlA (upd (upd H b1 (.row true 0 [.string p51] 0)) b2 (.row true 0 [.int .i64 1000] 0)) (some ⟨b2, 0, none⟩) 1 1 ([1000].map i64V) := SlA.row (upd_same _ _ _) (Nat.le_refl _) rfl (by simp) (by simp [i64V])
  refine (new_c _ _ _ 1 1 1 1 [p51] [1000] s1 s2 (by decide) (by decide)).mono ?_
  rintro v H1 ⟨p, fm, lm, R1, rfl, ow1, hL1⟩
  have hle1 : Heap.le H H1 := Heap.le_trans (le_upd _ hb1) (Heap.le_trans (le_upd _ hb2) ow1.all)
  rw [show mkN [1000] [p51] 1 = [(p51, 1000)] by decide] at hL1
  clear s1 s2
  simp (disch := first | omega | assumption | decide | (simp <;> omega) | fail) [facts, ]
  refine fresh_intro fun kb hkb => ?_
  obtain ⟨H2, hH2⟩ : ∃ H2, H2 = upd H1 kb (.row true 0 [.int .u16 1, .int .u32 2] 0) := ⟨_, rfl⟩
  have hk2 : H2 kb = some (.row true 0 [.int .u16 1, .int .u32 2] 0) := by rw [hH2, upd_same]
  have hl2 : Heap.le H1 H2 := by rw [hH2]; exact le_upd _ hkb
  have hR2 : Heap.le R1 H2 := Heap.le_trans ow1.le hl2
  have hkR : R1 kb = none := le_of_none ow1.le hkb
  simp (disch := first | omega | assumption | decide | (simp <;> omega) | fail) [facts, upd_upd]
  rw [← hH2]
  obtain ⟨I, hI⟩ : ∃ I : St → Prop, I = (fun st => ∃ R3, st.env 1 = .pointer (some ⟨p, 0, none⟩) ∧ st.env 2 = .pointer (some ⟨kb, 0, none⟩) ∧ st.env 3 = .string okS ∧ st.env 4 = .string okS ∧ Own H2 R1 st.heap R3 ∧ Led R3 p [(p51, 400)] [⟨1, 2, okS, p51, 600⟩] fm lm) := ⟨_, rfl⟩
  have a1 : debA [(p51, 1000)] [] 1 2 p51 600 = okS := by decide
  have f1 : debF [(p51, 1000)] [] 1 2 p51 600 = [(p51, 400)] := by decide
  have l1 : debL [(p51, 1000)] [] 1 2 p51 600 = [⟨1, 2, okS, p51, 600⟩] := by decide
  have a2 : debA [(p51, 400)] [⟨1, 2, okS, p51, 600⟩] 1 2 p51 600 = okS := by decide
  have f2 : debF [(p51, 400)] [⟨1, 2, okS, p51, 600⟩] 1 2 p51 600 = [(p51, 400)] := by decide
  have l2 : debL [(p51, 400)] [⟨1, 2, okS, p51, 600⟩] 1 2 p51 600 = [⟨1, 2, okS, p51, 600⟩] := by decide
  refine w_cut I ?_ ?_
  · refine w_plan (by simp [facts]) (opsP [0,3] (.both (opsP [1] (.both (opsP [2,4,5,6,7] .done) (opsP [4,2,5,6,7] .done))) (opsP [4,1,2,5,6,7] .done))) (by decide +kernel) ?_
    simp (disch := first | omega | assumption | decide | (simp <;> omega) | fail) [facts, hk2]
    repeat' apply And.intro
    all_goals
      refine (debit_c hR2 hL1 1 2 p51 600 (by intro v hv; have : gF p51 [(p51, 1000)] = some 1000 := (by decide); rw [this] at hv; cases hv; decide)).mono ?_
      rintro v H3 ⟨rfl, R3, ow3, hL3⟩
      rw [a1]
      rw [f1, l1] at hL3
      have hk3 := (ow3.mv _ _ hkR hk2).2
      simp (disch := first | omega | assumption | decide | (simp <;> omega) | fail) [facts, hk3]
      refine (debit_c ow3.le hL3 1 2 p51 600 (by intro v hv; have : gF p51 [(p51, 400)] = some 400 := (by decide); rw [this] at hv; cases hv; decide)).mono ?_
      rintro v H4 ⟨rfl, R4, ow4, hL4⟩
      rw [a2]
      rw [f2, l2] at hL4
      simp (disch := first | omega | assumption | decide | (simp <;> omega) | fail) [facts, ]
      subst hI
      exact ⟨R4, by simp, by simp, by simp, by simp, ow3.trans ow4, hL4⟩
  rintro ⟨env, H4⟩ hS
  subst hI
  obtain ⟨R4, e1, e2, e3, e4, ow4, hL4⟩ := hS
  simp only at e1 e2 e3 e4 ow4
  have hk4 := (ow4.mv _ _ hkR hk2).2
  have hk4R := (ow4.mv _ _ hkR hk2).1
  simp (disch := first | omega | assumption | decide | (simp <;> omega) | fail) [facts, e1]
  refine (funds_c ow4.le hL4 p51).mono ?_
  rintro v H5 ⟨rfl, hle5⟩
  rw [show gF p51 [(p51, 400)] = some 400 by decide]
  have hk5 := hle5 _ _ hk4
  simp (disch := first | omega | assumption | decide | (simp <;> omega) | fail) [facts, e1, e2, hk5]
  refine (reverse_c (Heap.le_trans ow4.le hle5) hL4 1 2 100 (by intro e he; have : gE 1 2 [⟨1, 2, okS, p51, 600⟩] = some ⟨1, 2, okS, p51, 600⟩ := (by decide); rw [this] at he; cases he; decide)).mono ?_
  rintro v H6 ⟨rfl, R6, ow6, hL6⟩
  rw [show revA 100 = okS by decide]
  rw [show revF [(p51, 400)] [⟨1, 2, okS, p51, 600⟩] 1 2 100 = [(p51, 900)] by decide, show revL [⟨1, 2, okS, p51, 600⟩] 1 2 100 = [⟨1, 2, okS, p51, 100⟩] by decide] at hL6
  have hk6 := (ow6.mv _ _ hk4R hk5).2
  simp (disch := first | omega | assumption | decide | (simp <;> omega) | fail) [facts, e1, e2, e3, e4, hk6]
  refine (net_c ow6.le hL6 1 2).mono ?_
  rintro v H7 ⟨rfl, hle7⟩
  rw [show netE 1 2 [⟨1, 2, okS, p51, 100⟩] = 100 by decide]
  simp (disch := first | omega | assumption | decide | (simp <;> omega) | fail) [facts, e1]
  refine (total_c (Heap.le_trans ow6.le hle7) hL6 (by decide) (by decide)).mono ?_
  rintro v H8 ⟨rfl, hle8⟩
  rw [show sumF [(p51, 900)] = 900 by decide]
  simp (disch := first | omega | assumption | decide | (simp <;> omega) | fail) [facts, ]
  have fr1 := ow1.frame (Heap.le_trans (le_upd _ hb1) (le_upd _ hb2)) Off.nil
  have fr4 := ow4.frame (Heap.le_trans fr1.1 hl2) fr1.2
  have fr6 := ow6.frame (Heap.le_trans fr4.1 hle5) fr4.2
  exact ⟨_, Heap.le_refl _, Heap.le_trans fr6.1 (Heap.le_trans hle7 hle8)⟩
end Go.Proofs.Ytdeffhibolcebaa.GL
