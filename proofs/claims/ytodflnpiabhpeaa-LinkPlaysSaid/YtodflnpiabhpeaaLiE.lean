/- Layer 26: Take. -/
import Derived.Test.YtodflnpiabhpeaaLiD
namespace Go.Proofs.Ytodflnpiabhpeaa.GL
open Go Go.RowKit
set_option maxRecDepth 10000
set_option pp.deepTerms.threshold 8
set_option pp.maxSteps 3000
set_option linter.unusedSimpArgs false
set_option linter.unusedVariables false

theorem Net.grow {D H H' : Heap} {p : Nat} {ms : List MsgZ} (h : Net D H p ms) (hl : Heap.le H H') : Net D H' p ms := by
  refine ⟨Heap.le_trans h.le hl, h.here, h.data, ?_⟩
  rcases h.list with ⟨e, h1⟩ | ⟨q, o, cap, tail, room, hq, hqp, h1, h2, h3, h4⟩
  · exact .inl ⟨e, hl _ _ h1⟩
  · exact .inr ⟨q, o, cap, tail, room, hq, hqp, hl _ _ h1, hl _ _ h2, h3, h4⟩

theorem netTake_out (D H : Heap) (p : Nat) (ms : List MsgZ) (i : Int) (h : Net D H p ms) (hi : ¬ (0 ≤ i ∧ i < ms.length)) :
    ECalls Try.prog 8 #[.pointer (some ⟨p, 0, none⟩), .int .i64 i] H fun v H' => v = .tuple #[msgV 0 0 (.slice none 0 0), .bool false] ∧ Net D H' p ms := by
  refine ecalls_of_ewp (args := [_, _]) Try.func8 rfl rfl rfl (by simp [Try.ntmps8]) (by kernel_rfl) ?_
  unfold msgV
  simp (disch := first | omega | assumption | decide | (simp <;> omega) | fail) [facts, ]
  refine fresh_intro fun b4 hb4 => ?_
  have hg := h.grow (le_upd (.row true 0 [.int .i64 0, .int .i64 0, .slice none 0 0] 0) hb4)
  have ci := netIs_c D _ p ms i hg
  simp only [hi, decide_false] at ci
  simp (disch := first | omega | assumption | decide | (simp <;> omega) | fail) [facts, ]
  refine ci.mono ?_
  rintro v H2 ⟨rfl, rfl⟩
  simp (disch := first | omega | assumption | decide | (simp <;> omega) | fail) [facts, upd_upd]
  exact ⟨_, Heap.le_refl _, hg⟩

theorem netTake_in (D H : Heap) (p : Nat) (ms : List MsgZ) (k : Nat) (m : MsgZ) (h : Net D H p ms) (hk : ms[k]? = some m) (hms : ms.length ≤ 1000000) :
    ECalls Try.prog 8 #[.pointer (some ⟨p, 0, none⟩), .int .i64 k] H fun v H' => v = .tuple #[msgV m.f m.t (.slice m.a m.b.length m.c), .bool true] ∧ Net D H' p (ms.eraseIdx k) := by
  refine ecalls_of_ewp (args := [_, _]) Try.func8 rfl rfl rfl (by simp [Try.ntmps8]) (by kernel_rfl) ?_
  obtain ⟨hlt, _⟩ := List.getElem?_eq_some_iff.1 hk
  have hltI : (k : Int) < (ms.length : Int) := by omega
  have hin : 0 ≤ (k : Int) ∧ (k : Int) < (ms.length : Int) := ⟨by omega, hltI⟩
  unfold msgV
  rcases h.list with ⟨rfl, _⟩ | ⟨q, o, cap, tail, room, hq, hqp, h1, h2, h3, h4⟩
  · simp at hlt
  have hpq : p ≠ q := hqp.symm
  simp (disch := first | omega | assumption | decide | (simp <;> omega) | fail) [facts, ]
  refine fresh_intro fun b4 hb4 => ?_
  have y4 : p ≠ b4 := ne_of_fresh hb4 h1
  have q4 : q ≠ b4 := ne_of_fresh hb4 h2
  have y4' := y4.symm
  have q4' := q4.symm
  have l4 := upd_same H b4 (.row true 0 [.int .i64 0, .int .i64 0, .slice none 0 0] 0)
  have g4 : D b4 = none := le_of_none h.le hb4
  have hg := h.grow (le_upd (.row true 0 [.int .i64 0, .int .i64 0, .slice none 0 0] 0) hb4)
  replace h1 := upd_other (o := .row true 0 [.int .i64 0, .int .i64 0, .slice none 0 0] 0) hb4 h1
  replace h2 := upd_other (o := .row true 0 [.int .i64 0, .int .i64 0, .slice none 0 0] 0) hb4 h2
  simp (disch := first | omega | assumption | decide | (simp <;> omega) | fail) [facts, ]
  generalize upd H b4 (.row true 0 [.int .i64 0, .int .i64 0, .slice none 0 0] 0) = H1 at *
  have ci := netIs_c D H1 p ms k hg
  simp only [hin, and_self, decide_true] at ci
  refine ci.mono ?_
  rintro v H2 ⟨rfl, rfl⟩
  have hsl : SlA H2 (some ⟨q, o, none⟩) ms.length 3 (cellsM ms) := SlA.row h2 (Nat.le_refl _) (cellsM_len ms) (by simp [cellsM_len]) (by rw [Nat.sub_self, List.drop_zero, List.take_append_of_le_length (by rw [cellsM_len]; exact Nat.le_refl _), ← cellsM_len ms, List.take_length])
  have rm : rdNU (H2 q) (o + k * 3) 3 = some [.int .i64 m.f, .int .i64 m.t, .slice m.a m.b.length m.c] := by
    have := hsl.part hlt (cellsM_at hk) (j := 0) (r := 3) (by decide) (by decide)
    simpa [MsgZ.cells] using this
  simp (disch := first | omega | assumption | decide | (simp <;> omega) | fail) [facts, h1, hltI, rm]
  refine fresh_intro fun b6 hb6 => ?_
  have y6 : p ≠ b6 := ne_of_fresh hb6 h1
  have q6 : q ≠ b6 := ne_of_fresh hb6 h2
  have y46 : b4 ≠ b6 := ne_of_fresh hb6 l4
  have y6' := y6.symm
  have q6' := q6.symm
  have y46' := y46.symm
  have g6 : D b6 = none := le_of_none hg.le hb6
  simp (disch := first | omega | assumption | decide | (simp <;> omega) | fail) [facts, upd_upd, upd_ne, h1]
  refine (deleteM_c q o cap room k ms tail _ (by rw [upd_ne _ _ q6]; exact h2) hlt h3 hms).mono ?_
  rintro v H3 ⟨rfl, tail', htl, rfl⟩
  simp (disch := first | omega | assumption | decide | (simp <;> omega) | fail) [facts, upd_upd, upd_ne, h1, l4]
  have hel : (ms.eraseIdx k).length = ms.length - 1 := by rw [List.length_eraseIdx, if_pos hlt]
  refine ⟨_, Heap.le_refl _, le_updN _ (le_updN _ (le_updN _ (le_updN _ hg.le g6) hq) h.here) g4, h.here, fun m' hm' => h.data m' (List.mem_of_mem_eraseIdx hm'), .inr ⟨q, o, cap, tail', room, hq, hqp, ?_, ?_, by omega, by omega⟩⟩
  · rw [upd_ne _ _ y4, upd_same, hel]
  · rw [upd_ne _ _ q4, upd_ne _ _ hqp, upd_same]
end Go.Proofs.Ytodflnpiabhpeaa.GL
