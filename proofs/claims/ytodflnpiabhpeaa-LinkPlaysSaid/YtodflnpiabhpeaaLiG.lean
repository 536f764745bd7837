/- Layer 26: the chapter's example. -/
import Derived.Test.YtodflnpiabhpeaaLiF
namespace Go.Proofs.Ytodflnpiabhpeaa.GL
open Go Go.RowKit
set_option maxRecDepth 10000
set_option pp.deepTerms.threshold 8
set_option pp.maxSteps 3000
set_option linter.unusedSimpArgs false
set_option linter.unusedVariables false

theorem le_upd2 {D H : Heap} {b : Nat} (o : GObj) (h : Heap.le D H) : Heap.le (upd D b o) (upd H b o) := fun i p e => by
  by_cases hi : i = b
  · subst hi; rw [upd_same] at e ⊢; exact e
  · rw [upd_ne _ _ hi] at e ⊢; exact h i p e
/-- A new block is of what stays as it is. -/
theorem Net.keep {D H : Heap} {p : Nat} {ms : List MsgZ} (h : Net D H p ms) {b : Nat} (hb : H b = none) (o : GObj) : Net (upd D b o) (upd H b o) p ms ∧ Heap.le D (upd D b o) := by
  have hD : Heap.le D (upd D b o) := le_upd _ (le_of_none h.le hb)
  obtain ⟨a0, cap0, hp0, _, _⟩ := h.row
  have hpb : p ≠ b := ne_of_fresh hb hp0
  refine ⟨⟨le_upd2 o h.le, by rw [upd_ne _ _ hpb]; exact h.here, fun m hm => ⟨(h.data m hm).1.le hD, (h.data m hm).2⟩, ?_⟩, hD⟩
  rcases h.list with ⟨e, h1⟩ | ⟨q, oq, cap, tail, room, hq, hqp, h1, h2, h3, h4⟩
  · exact .inl ⟨e, upd_other hb h1⟩
  · exact .inr ⟨q, oq, cap, tail, room, by rw [upd_ne _ _ (ne_of_fresh hb h2)]; exact hq, hqp, upd_other hb h1, upd_other hb h2, h3, h4⟩

set_option maxHeartbeats 1000000 in
theorem known_c (H : Heap) : ECalls Try.prog 5 #[] H fun v H' => v = .bool true ∧ Heap.le H H' := by
  refine ecalls_of_ewp (args := []) Try.func5 rfl rfl rfl (by simp [Try.ntmps5]) (by kernel_rfl) ?_
  simp (disch := first | omega | assumption | decide | (simp <;> omega) | fail) [facts, ]
  refine (netNew_c H).mono ?_
  rintro v H1 ⟨p, rfl, h1⟩
  simp (disch := first | omega | assumption | decide | (simp <;> omega) | fail) [facts, ]
  refine fresh_intro fun b1 hb1 => ?_
  have h2 := h1.grow (le_upd (.row false 0 [.int .u8 97] 0) hb1)
  have s1 : SlA (upd H1 b1 (.row false 0 [.int .u8 97] 0)) (some ⟨b1, 0, none⟩) 1 1 ([97].map u8V) := SlA.row (upd_same _ _ _) (Nat.le_refl _) rfl (by decide) rfl
  simp (disch := first | omega | assumption | decide | (simp <;> omega) | fail) [facts, upd_upd]
  refine (netPut_c _ _ p [] h2 1 2 _ 1 1 [97] (.inl s1) (by decide) (by decide)).mono ?_
  rintro v H2 ⟨D2, m1, hD2, f1, t1, bb1, n1, _⟩
  simp (disch := first | omega | assumption | decide | (simp <;> omega) | fail) [facts, ]
  refine fresh_intro fun b2 hb2 => ?_
  have n2 := n1.grow (le_upd (.row false 0 [.int .u8 98] 0) hb2)
  have s2 : SlA (upd H2 b2 (.row false 0 [.int .u8 98] 0)) (some ⟨b2, 0, none⟩) 1 1 ([98].map u8V) := SlA.row (upd_same _ _ _) (Nat.le_refl _) rfl (by decide) rfl
  simp (disch := first | omega | assumption | decide | (simp <;> omega) | fail) [facts, upd_upd]
  refine (netPut_c _ _ p _ n2 3 4 _ 1 1 [98] (.inl s2) (by decide) (by simp)).mono ?_
  rintro v H3 ⟨D3, m2, hD3, f2, t2, bb2, n3, _⟩
  simp (disch := first | omega | assumption | decide | (simp <;> omega) | fail) [facts, ]
  refine (netTake_in _ _ p _ 0 m1 n3 rfl (by simp)).mono ?_
  rintro v H4 ⟨rfl, n4⟩
  unfold msgV
  simp (disch := first | omega | assumption | decide | (simp <;> omega) | fail) [facts, ]
  refine fresh_intro fun b3 hb3 => ?_
  obtain ⟨n5, hD5⟩ := n4.keep hb3 (.row true 0 [.int .i64 m1.f, .int .i64 m1.t, .slice m1.a m1.b.length m1.c] 0)
  have d1 := ((n3.data m1 (by simp)).1.le hD5)
  have l3 := upd_same D3 b3 (.row true 0 [.int .i64 m1.f, .int .i64 m1.t, .slice m1.a m1.b.length m1.c] 0)
  have hle := Heap.le_trans (Heap.le_trans hD2 hD3) hD5
  simp (disch := first | omega | assumption | decide | (simp <;> omega) | fail) [facts, upd_upd]
  generalize upd D3 b3 (.row true 0 [.int .i64 m1.f, .int .i64 m1.t, .slice m1.a m1.b.length m1.c] 0) = D5 at *
  generalize upd H4 b3 (.row true 0 [.int .i64 m1.f, .int .i64 m1.t, .slice m1.a m1.b.length m1.c] 0) = H5 at *
  have n5' : Net D5 H5 p [m2] := n5
  refine (netTake_out _ _ p _ 1 n5' (by simp)).mono ?_
  rintro v H6 ⟨rfl, n6⟩
  unfold msgV
  simp (disch := first | omega | assumption | decide | (simp <;> omega) | fail) [facts, ]
  refine fresh_intro fun b4 hb4 => ?_
  have n7 := n6.grow (le_upd (.row true 0 [.int .i64 0, .int .i64 0, .slice none 0 0] 0) hb4)
  simp (disch := first | omega | assumption | decide | (simp <;> omega) | fail) [facts, upd_upd]
  generalize upd H6 b4 (.row true 0 [.int .i64 0, .int .i64 0, .slice none 0 0] 0) = H7 at *
  have l7 := n7.le _ _ l3
  have d7 := d1.le n7.le
  rw [bb1] at d7 l7
  replace d7 : SlA H7 m1.a 1 1 ([97].map u8V) := d7
  simp (disch := first | omega | assumption | decide | (simp <;> omega) | fail) [facts, l7, f1, t1, conv_bytes (P := Try.prog) (el := 5) (by simp [facts]) d7]
  refine (netLen_c _ _ p _ n7).mono ?_
  rintro v H8 ⟨rfl, rfl⟩
  simp (disch := first | omega | assumption | decide | (simp <;> omega) | fail) [facts, ]
  refine (netDouble_in _ _ p _ 0 m2 n7 rfl (by simp)).mono ?_
  rintro v H9 ⟨rfl, D9, m9, hD9, _, _, _, n9, _⟩
  simp (disch := first | omega | assumption | decide | (simp <;> omega) | fail) [facts, ]
  refine (netLen_c _ _ p _ n9).mono ?_
  rintro v H10 ⟨rfl, rfl⟩
  simp (disch := first | omega | assumption | decide | (simp <;> omega) | fail) [facts, ]
  exact ⟨_, Heap.le_refl _, Heap.le_trans hle (Heap.le_trans hD9 n9.le)⟩
end Go.Proofs.Ytodflnpiabhpeaa.GL
