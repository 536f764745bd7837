/- Layer 26: a message is taken away. -/
import Derived.Test.YtodflnpiabhpeaaLiC
namespace Go.Proofs.Ytodflnpiabhpeaa.GL
open Go Go.RowKit
set_option maxRecDepth 10000
set_option pp.deepTerms.threshold 8
set_option pp.maxSteps 3000
set_option linter.unusedSimpArgs false
set_option linter.unusedVariables false

theorem splice_mid {A B C D : List Value} {k : Nat} (hk : A.length = k) (hB : B.length = C.length) : splice (A ++ (B ++ D)) k C = A ++ (C ++ D) := by
  unfold splice
  subst hk
  rw [List.take_left', List.append_assoc]
  · congr 2
    rw [← hB, ← List.drop_drop, List.drop_left', List.drop_left'] <;> rfl
  · rfl
theorem erase_cells {ms : List MsgZ} {i : Nat} (hi : i < ms.length) (tail : List Value) : ∃ old, old.length = 3 ∧ splice (cellsM ms ++ tail) (i * 3) (cellsM (ms.drop (i + 1))) = cellsM (ms.eraseIdx i) ++ (old ++ tail) := by
  have h1 : cellsM ms = cellsM (ms.take i) ++ cellsM (ms.drop i) := by rw [← cellsM_app, List.take_append_drop]
  refine ⟨(cellsM (ms.drop i)).drop ((ms.length - (i + 1)) * 3), ?_, ?_⟩
  · rw [List.length_drop, cellsM_len, List.length_drop]; omega
  · have h2 : cellsM (ms.drop i) = (cellsM (ms.drop i)).take ((ms.length - (i + 1)) * 3) ++ (cellsM (ms.drop i)).drop ((ms.length - (i + 1)) * 3) := (List.take_append_drop _ _).symm
    rw [h1]
    conv => lhs; rw [h2]
    rw [List.append_assoc, List.append_assoc, splice_mid (by rw [cellsM_len, List.length_take]; congr 1; omega) (by rw [List.length_take, cellsM_len, cellsM_len, List.length_drop, List.length_drop]; omega), List.eraseIdx_eq_take_drop_succ, cellsM_app, List.append_assoc]
theorem deleteM_c (q o cap room i : Nat) (ms : List MsgZ) (tail : List Value) (H : Heap) (hrow : H q = some (.row true o (cellsM ms ++ tail) room)) (hi : i < ms.length) (hc : ms.length ≤ cap) (hms : ms.length ≤ 1000000) :
    ECalls Try.prog 14 #[.slice (some ⟨q, o, none⟩) ms.length cap, .int .i64 i, .int .i64 ((i : Int) + 1)] H fun v H' => v = .slice (some ⟨q, o, none⟩) (ms.length - 1) cap ∧ ∃ tail', tail'.length = tail.length + 3 ∧ H' = upd H q (.row true o (cellsM (ms.eraseIdx i) ++ tail') room) := by
  refine ecalls_of_ewp (args := [_, _, _]) Try.func14 rfl rfl rfl (by simp [Try.ntmps14]) (by kernel_rfl) ?_
  have hiI : (i : Int) < (ms.length : Int) := by omega
  have hne : ¬ (i : Int) = (i : Int) + 1 := by omega
  have hcI : (ms.length : Int) ≤ (cap : Int) := by omega
  simp (disch := first | omega | assumption | decide | (simp <;> omega) | fail) [facts, hne]
  refine w_plan (P := Try.prog) (by simp [facts]) (opsP [0,1,2,3,4,5,6,7] .done) ?_ ?_
  · decide +kernel
  simp (disch := first | omega | assumption | decide | (simp <;> omega) | fail) [facts, hne]
  have hsl : SlA H (if cap = i + 1 then some ⟨q, o, none⟩ else some ⟨q, o + (i + 1) * 3, none⟩) (ms.length - (i + 1)) 3 (cellsM (ms.drop (i + 1))) := by
    by_cases hcap : cap = i + 1
    · rw [if_pos hcap]
      have h0 : ms.length - (i + 1) = 0 := by omega
      have hd : ms.drop (i + 1) = [] := List.drop_eq_nil_of_le (by omega)
      rw [h0, hd]
      exact SlA.row hrow (Nat.le_refl _) rfl (by omega) (by simp [cellsM])
    · rw [if_neg hcap]
      have hl := cellsM_len ms
      refine SlA.row hrow (by omega) (by rw [cellsM_len, List.length_drop]) (by rw [List.length_append, hl]; omega) ?_
      rw [show o + (i + 1) * 3 - o = (i + 1) * 3 by omega, List.drop_append_of_le_length (by rw [hl]; omega), cellsM_drop, List.take_append_of_le_length (by rw [cellsM_len, List.length_drop]; omega), List.take_of_length_le (by rw [cellsM_len, List.length_drop]; omega)]
  obtain ⟨old, hold, hsp⟩ := erase_cells hi tail
  refine app_in (e := 29) (s := 3) (nbs := 40) (z := .agg #[.int .i64 0, .int .i64 0, .slice none 0 0]) (n := ms.length - (i + 1)) (ys := cellsM (ms.drop (i + 1))) (by simp [facts]) (by simp [facts]) (by simp [facts]) (by simp [facts]) rfl (by decide) hrow
    (src_sl (e1 := 29) (z := .agg #[.int .i64 0, .int .i64 0, .slice none 0 0]) (by simp [facts]) (by simp [facts]) (by simp [facts]) hsl) (by rw [cellsM_len, List.length_drop]) (cellsM_one _) (by omega) (by omega) (by rw [List.length_append, cellsM_len]; omega) ?_
  rw [hsp, show i + (ms.length - (i + 1)) = ms.length - 1 by omega]
  have hel : (ms.eraseIdx i).length = ms.length - 1 := by rw [List.length_eraseIdx, if_pos hi]
  have hnl : ¬ cap = ms.length - 1 := by omega
  simp (disch := first | omega | assumption | decide | (simp <;> omega) | fail) [facts, hnl]
  rw [show ms.length - (ms.length - 1) = 1 by omega]
  refine clear_in (e := 29) (z := .agg #[.int .i64 0, .int .i64 0, .slice none 0 0]) (s := 3) (by simp [facts]) (by simp [facts]) (by simp [facts]) rfl rfl (upd_same _ _ _) (by omega) (by simp only [List.length_append, cellsM_len, hel, hold]; omega) (by decide) ?_
  rw [show o + (ms.length - 1) * 3 - o = (ms.length - 1) * 3 by omega, splice_mid (by rw [cellsM_len, hel]) (by rw [hold]; rfl), upd_upd]
  simp (disch := first | omega | assumption | decide | (simp <;> omega) | fail) [facts, ]
  exact ⟨_, Heap.le_refl _, _, by simp [zeros], rfl⟩
end Go.Proofs.Ytodflnpiabhpeaa.GL
