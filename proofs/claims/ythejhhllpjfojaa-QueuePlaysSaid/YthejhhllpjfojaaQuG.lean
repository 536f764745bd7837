/- Layer 22: the document's queue. -/
import Derived.Test.YthejhhllpjfojaaQuF
namespace Go.Proofs.Ythejhhllpjfojaa.GL
open Go Go.RowKit
set_option maxRecDepth 10000
set_option pp.deepTerms.threshold 8
set_option pp.maxSteps 3000
set_option linter.unusedSimpArgs false
set_option linter.unusedVariables false

section
variable {H R : Heap} {p : Nat} {q : QS}
def rfInv (G : Heap) (p kb : Nat) (g : Value) (l : List QZ) (t s : Int) (kt gt ct : Nat) (st : St) : Prop :=
  ∃ i : Nat, i ≤ l.length ∧ st.heap = G ∧ st.env 0 = .pointer (some ⟨p, 0, none⟩) ∧ st.env kt = .pointer (some ⟨kb, 0, none⟩) ∧ st.env gt = g ∧ st.env ct = .int .i64 i ∧ ∀ (j : Nat) (y : QZ), j < i → l[j]? = some y → ¬ (y.t = t ∧ y.s = s)
set_option maxHeartbeats 1000000 in
theorem refPutQ_c (hR : Heap.le R H) (h : Que R p q) (t s g : Int) (hn : q.l.length ≤ 1000000) : ECalls Try.prog 16 #[.pointer (some ⟨p, 0, none⟩), .agg #[.int .u16 t, .int .u32 s], .int .i64 g] H fun v H' => v = .int .i64 (putE q t s) ∧ ∃ R', Own H R H' R' ∧ Que R' p (putD q t s g) := by
  refine ecalls_of_ewp (args := [_, _, _]) Try.func16 rfl rfl rfl (by simp [Try.ntmps16]) (by kernel_rfl) ?_
  simp (disch := first | omega | assumption | decide | (simp <;> omega) | fail) [facts, ]
  refine fresh_intro fun kb hkb => ?_
  have ow1 := (Own.refl hR).grow (le_upd (.row true 0 [.int .u16 t, .int .u32 s] 0) hkb)
  have lk := upd_same H kb (.row true 0 [.int .u16 t, .int .u32 s] 0)
  generalize upd H kb (.row true 0 [.int .u16 t, .int .u32 s] 0) = H1 at *
  obtain ⟨v, hq⟩ := h
  have hp := ow1.le _ _ hq.row
  obtain ⟨a, c, rfl, hsl, hcap⟩ := hq.list.sl ow1.le
  simp (disch := first | omega | assumption | decide | (simp <;> omega) | fail) [facts, ]
  refine w_loop (rfInv H1 p kb (.int .i64 g) q.l t s 4 2 7) (fun s => q.l.length - (intOf (s.env 7)).toNat) ?_ ?_
  · exact ⟨0, Nat.zero_le _, rfl, by simp, by simp, by simp, by simp, fun j y hj => by omega⟩
  rintro ⟨env, G⟩ ⟨i, hi, hG, e0, e4, e2, e7, hno⟩
  simp only at hG e0 e4 e2 e7
  subst hG
  unfold putD putE
  by_cases hlt : i < q.l.length
  · have hltI : (i : Int) < (q.l.length : Int) := by omega
    obtain ⟨x, hx⟩ : ∃ x, q.l[i]? = some x := ⟨_, List.getElem?_eq_getElem hlt⟩
    obtain ⟨b, o, rfl⟩ := hsl.lit (by omega)
    have rx : rdNU (G b) (o + i * 4) 2 = some [.int .u16 x.t, .int .u32 x.s] := hsl.el q4 hx (j := 0) (r := 2) (by decide) (by decide)
    simp (disch := first | omega | assumption | decide | (simp <;> omega) | fail) [facts, e0, e2, e4, e7, hp, hltI]
    refine w_plan (P := Try.prog) (by simp [facts]) (opsP [0,1,2,3,4,5,6,7,8,9] .done) ?_ ?_
    · decide +kernel
    by_cases hx2 : x.t = t ∧ x.s = s
    · have hidx := idxQ_first hx hx2 hno
      simp (disch := first | omega | assumption | decide | (simp <;> omega) | fail) [facts, e0, e2, e4, e7, hp, hltI, rx, lk, hx2.1, hx2.2]
      rw [hidx]
      simp
      exact ⟨_, Heap.le_refl _, R, ow1, _, hq⟩
    · have hdd : (decide (x.t = t) && decide (x.s = s)) = false := by rw [Bool.and_eq_false_iff, decide_eq_false_iff_not, decide_eq_false_iff_not]; exact Decidable.not_and_iff_or_not.1 hx2
      simp (disch := first | omega | assumption | decide | (simp <;> omega) | fail) [facts, e0, e2, e4, e7, hp, hltI, rx, lk, hdd]
      refine ⟨_, Heap.le_refl _, ⟨i + 1, by omega, rfl, by simp [e0], by simp [e4], by simp [e2], by simp, fun j y hj hy => ?_⟩, by simp [intOf, e7]; omega⟩
      rcases Nat.lt_or_ge j i with h0 | h0
      · exact hno j y h0 hy
      · have : j = i := by omega
        subst this
        rw [hx] at hy; cases hy
        exact hx2
  · have hin : i = q.l.length := by omega
    subst hin
    have hidx := idxQ_all fun j y hy => hno j y (by have := (List.getElem?_eq_some_iff.1 hy).1; omega) hy
    simp only [hidx, Option.isSome_none, Bool.false_eq_true, if_false]
    by_cases h64 : 64 ≤ q.l.length
    · have h64I : (64 : Int) ≤ (q.l.length : Int) := by omega
      simp only [h64, if_true]
      simp (disch := first | omega | assumption | decide | (simp <;> omega) | fail) [facts, e0, e2, e4, e7, hp, h64I]
      exact ⟨_, Heap.le_refl _, R, ow1, _, hq⟩
    · have h64I : ¬ (64 : Int) ≤ (q.l.length : Int) := by omega
      simp only [h64, if_false, if_true]
      simp (disch := first | omega | assumption | decide | (simp <;> omega) | fail) [facts, e0, e2, e4, e7, hp, h64I]
      refine w_plan (P := Try.prog) (by simp [facts]) (opsP [0,1,2,3,6] (.both (opsP [4,5,7,8,9,10,11,12] .done) (opsP [5,7] (.both (opsP [4,8,9,10,11,12] .done) (opsP [8,4,9,10,11,12] .done))))) ?_ ?_
      · decide +kernel
      simp (disch := first | omega | assumption | decide | (simp <;> omega) | fail) [facts, e0, e2, e4, e7, hp, lk]
      repeat' apply And.intro
      all_goals
        refine fresh_intro fun b10 hb10 => ?_
        rw [show splice (zeros [.int .u16 0, .int .u32 0, .int .i64 0, .bool false] 1) 0 [.int .u16 t, .int .u32 s, .int .i64 g, .bool true] = QZ.cells ⟨t, s, g, true⟩ from rfl]
        have hp7 := upd_other (o := .row true 0 (QZ.cells ⟨t, s, g, true⟩) 0) hb10 hp
        simp (disch := first | omega | assumption | decide | (simp <;> omega) | fail) [facts, hp7]
        refine hq.list.app (m := 1) (ys := QZ.cells ⟨t, s, g, true⟩) (e := 57) (nbs := 24) (z := .agg #[.int .u16 0, .int .u32 0, .int .i64 0, .bool false]) (by simp [facts]) (by simp [facts]) (by simp [facts]) (by simp [facts]) (by simp) (by decide) (ow1.grow (le_upd _ hb10))
          (srcOne (s := 4) (b := b10) (e1 := 57) (z := .agg #[.int .u16 0, .int .u32 0, .int .i64 0, .bool false]) (by simp [facts]) (by simp [facts]) (by simp [facts]) rfl) rfl rfl (by omega) ?_
        intro v' H' R' own' hl' hkeep _
        obtain ⟨hp8, hoff8⟩ := hkeep p _ hq.row hq.off
        have hp9 := own'.le _ _ hp8
        obtain ⟨a', c', rfl, _, _⟩ := hl'.sl own'.le
        simp (disch := first | omega | assumption | decide | (simp <;> omega) | fail) [facts, e0, hp9]
        refine ⟨_, Heap.le_refl _, _, own'.set hp8 _, _, upd_same _ _ _, ?_, hoff8⟩
        refine LstR.up (B := R') ?_ fun i o hi ho => by rw [upd_ne _ _ (fun e => hoff8 (by rw [hi, e]))]; exact ho
        rw [rowsC_app, rowsC_single, List.length_append]
        exact hl'
set_option maxHeartbeats 1000000 in
theorem refAckQ_c (hR : Heap.le R H) (h : Que R p q) (t s : Int) (hn : q.l.length ≤ 1000000) : ECalls Try.prog 9 #[.pointer (some ⟨p, 0, none⟩), .agg #[.int .u16 t, .int .u32 s]] H fun v H' => v = .bool (idxQ t s q.l).isSome ∧ ∃ R', Own H R H' R' ∧ Que R' p (ackD q t s) := by
  refine ecalls_of_ewp (args := [_, _]) Try.func9 rfl rfl rfl (by simp [Try.ntmps9]) (by kernel_rfl) ?_
  simp (disch := first | omega | assumption | decide | (simp <;> omega) | fail) [facts, ]
  refine fresh_intro fun kb hkb => ?_
  have ow1 := (Own.refl hR).grow (le_upd (.row true 0 [.int .u16 t, .int .u32 s] 0) hkb)
  have lk := upd_same H kb (.row true 0 [.int .u16 t, .int .u32 s] 0)
  generalize upd H kb (.row true 0 [.int .u16 t, .int .u32 s] 0) = H1 at *
  obtain ⟨v, hq⟩ := h
  have hp := ow1.le _ _ hq.row
  obtain ⟨a, c, rfl, hsl, hcap⟩ := hq.list.sl ow1.le
  simp (disch := first | omega | assumption | decide | (simp <;> omega) | fail) [facts, ]
  refine w_loop (rfInv H1 p kb (.pointer (some ⟨kb, 0, none⟩)) q.l t s 3 3 5) (fun s => q.l.length - (intOf (s.env 5)).toNat) ?_ ?_
  · exact ⟨0, Nat.zero_le _, rfl, by simp, by simp, by simp, by simp, fun j y hj => by omega⟩
  rintro ⟨env, G⟩ ⟨i, hi, hG, e0, e3, _, e5, hno⟩
  simp only at hG e0 e3 e5
  subst hG
  unfold ackD
  by_cases hlt : i < q.l.length
  · have hltI : (i : Int) < (q.l.length : Int) := by omega
    obtain ⟨x, hx⟩ : ∃ x, q.l[i]? = some x := ⟨_, List.getElem?_eq_getElem hlt⟩
    obtain ⟨b, o, rfl⟩ := hsl.lit (by omega)
    have rx : rdNU (G b) (o + i * 4) 2 = some [.int .u16 x.t, .int .u32 x.s] := hsl.el q4 hx (j := 0) (r := 2) (by decide) (by decide)
    simp (disch := first | omega | assumption | decide | (simp <;> omega) | fail) [facts, e0, e3, e5, hp, hltI]
    refine w_plan (P := Try.prog) (by simp [facts]) (opsP [0,1,2,3,4,5,6,7,8,9] .done) ?_ ?_
    · decide +kernel
    by_cases hx2 : x.t = t ∧ x.s = s
    · have hidx := idxQ_first hx hx2 hno
      simp only [hidx, Option.isSome_some]
      have hcI : (q.l.length : Int) ≤ (c : Int) := by omega
      simp (disch := first | omega | assumption | decide | (simp <;> omega) | fail) [facts, e0, e3, e5, hp, hltI, rx, lk, hx2.1, hx2.2]
      refine w_plan (P := Try.prog) (by simp [facts]) (opsP [0,1,2,3,5,6,8,9,10,12,13] (.both (opsP [4,7,11,14,15,16,17,18] .done) (opsP [11,14,4,7,15,16,17,18] .done))) ?_ ?_
      · decide +kernel
      simp (disch := first | omega | assumption | decide | (simp <;> omega) | fail) [facts, e0, e3, e5, hp, hltI]
      have hsrc := src_tail (P := Try.prog) (e := 57) (t1 := 27) (e1 := 57) (z := .agg #[.int .u16 0, .int .u32 0, .int .i64 0, .bool false]) (l := i + 1) (by simp [facts]) (by simp [facts]) (by simp [facts]) hsl (by omega) hcap
      rw [rowsC_drop q4] at hsrc
      have hcut := hq.list.cut (k := i) (by omega)
      rw [rowsC_take q4] at hcut
      constructor
      all_goals
        refine hcut.app (m := q.l.length - (i + 1)) (ys := rowsC QZ.cells (q.l.drop (i + 1))) (e := 57) (nbs := 24) (z := .agg #[.int .u16 0, .int .u32 0, .int .i64 0, .bool false]) (by simp [facts]) (by simp [facts]) (by simp [facts]) (by simp [facts]) (by simp) (by decide) ow1
          (by simpa using hsrc) (by rw [rowsC_len q4, List.length_drop]) (rowsC_one q1 _) (by omega) ?_
        intro v' H' R' own' hl' hkeep _
        obtain ⟨hp8, hoff8⟩ := hkeep p _ hq.row hq.off
        have hp9 := own'.le _ _ hp8
        obtain ⟨a', c', rfl, _, _⟩ := hl'.sl own'.le
        simp (disch := first | omega | assumption | decide | (simp <;> omega) | fail) [facts, e0, hp9]
        refine ⟨_, Heap.le_refl _, _, own'.set hp8 _, _, upd_same _ _ _, ?_, hoff8⟩
        refine LstR.up (B := R') ?_ fun i o hi ho => by rw [upd_ne _ _ (fun e => hoff8 (by rw [hi, e]))]; exact ho
        have hel : (q.l.eraseIdx i).length = i + (q.l.length - (i + 1)) := by rw [List.length_eraseIdx, if_pos hlt]; omega
        rw [hel, List.eraseIdx_eq_take_drop_succ, rowsC_app]
        exact hl'
    · have hdd : (decide (x.t = t) && decide (x.s = s)) = false := by rw [Bool.and_eq_false_iff, decide_eq_false_iff_not, decide_eq_false_iff_not]; exact Decidable.not_and_iff_or_not.1 hx2
      simp (disch := first | omega | assumption | decide | (simp <;> omega) | fail) [facts, e0, e3, e5, hp, hltI, rx, lk, hdd]
      refine ⟨_, Heap.le_refl _, ⟨i + 1, by omega, rfl, by simp [e0], by simp [e3], by simp [e3], by simp, fun j y hj hy => ?_⟩, by simp [intOf, e5]; omega⟩
      rcases Nat.lt_or_ge j i with h0 | h0
      · exact hno j y h0 hy
      · have : j = i := by omega
        subst this
        rw [hx] at hy; cases hy
        exact hx2
  · have hin : i = q.l.length := by omega
    subst hin
    have hidx := idxQ_all fun j y hy => hno j y (by have := (List.getElem?_eq_some_iff.1 hy).1; omega) hy
    simp only [hidx, Option.isSome_none]
    simp (disch := first | omega | assumption | decide | (simp <;> omega) | fail) [facts, e0, e3, e5, hp]
    exact ⟨_, Heap.le_refl _, R, ow1, _, hq⟩
end
end Go.Proofs.Ythejhhllpjfojaa.GL
