/- Layer 22: put, acknowledged, ticks. -/
import Derived.Test.YthejhhllpjfojaaQuA
namespace Go.Proofs.Ythejhhllpjfojaa.GL
open Go Go.RowKit
set_option maxRecDepth 10000
set_option pp.deepTerms.threshold 8
set_option pp.maxSteps 3000
set_option linter.unusedSimpArgs false
set_option linter.unusedVariables false

theorem queNew_c (H : Heap) : ECalls Try.prog 7 #[] H fun v H' => ∃ p R, v = .pointer (some ⟨p, 0, none⟩) ∧ Own H (fun _ => none) H' R ∧ Que R p ⟨[], 0⟩ := by
  refine ecalls_of_ewp (args := []) Try.func7 rfl rfl rfl (by simp [Try.ntmps7]) (by kernel_rfl) ?_
  simp (disch := first | omega | assumption | decide | (simp <;> omega) | fail) [facts, ]
  refine fresh_intro fun p hp => ?_
  simp (disch := first | omega | assumption | decide | (simp <;> omega) | fail) [facts, ]
  exact ⟨_, Heap.le_refl _, _, (Own.nil (Heap.le_refl H)).add hp _, .slice none 0 0, upd_same _ _ _, LstR.nil _ _, by simp [blkV]⟩
def putE (q : QS) (t s : Int) : Int := if (idxQ t s q.l).isSome then 31 else if 64 ≤ q.l.length then 21 else 0
def putD (q : QS) (t s g : Int) : QS := if putE q t s = 0 then ⟨q.l ++ [⟨t, s, g, true⟩], q.k⟩ else q
theorem q_row (x : QZ) : splice (zeros [.int .u16 0, .int .u32 0, .int .i64 0, .bool false] 1) 0 [.int .u16 x.t, .int .u32 x.s, .int .i64 x.g, .bool x.w] = x.cells := rfl
theorem idxI_some {t s : Int} {l : List QZ} {i : Nat} (h : idxQ t s l = some i) : idxI t s l = i := by unfold idxI; rw [h]
theorem idxI_none {t s : Int} {l : List QZ} (h : idxQ t s l = none) : idxI t s l = -1 := by unfold idxI; rw [h]
section
variable {H R : Heap} {p : Nat} {q : QS}
set_option maxHeartbeats 1000000 in
theorem quePut_c (hR : Heap.le R H) (h : Que R p q) (t s g : Int) (hn : q.l.length ≤ 1000000) : ECalls Try.prog 15 #[.pointer (some ⟨p, 0, none⟩), .agg #[.int .u16 t, .int .u32 s], .int .i64 g] H fun v H' => v = .int .i64 (putE q t s) ∧ ∃ R', Own H R H' R' ∧ Que R' p (putD q t s g) := by
  refine ecalls_of_ewp (args := [_, _, _]) Try.func15 rfl rfl rfl (by simp [Try.ntmps15]) (by kernel_rfl) ?_
  simp (disch := first | omega | assumption | decide | (simp <;> omega) | fail) [facts, ]
  refine fresh_intro fun kb hkb => ?_
  have hle1 := le_upd (.row true 0 [.int .u16 t, .int .u32 s] 0) hkb
  have lk := upd_same H kb (.row true 0 [.int .u16 t, .int .u32 s] 0)
  generalize upd H kb (.row true 0 [.int .u16 t, .int .u32 s] 0) = H1 at *
  simp (disch := first | omega | assumption | decide | (simp <;> omega) | fail) [facts, lk]
  refine (queAt_c (Heap.le_trans hR hle1) h t s hn).mono ?_
  rintro v H2 ⟨rfl, hle2⟩
  have ow2 := (Own.refl hR).grow (Heap.le_trans hle1 hle2)
  unfold putD putE
  cases hi : idxQ t s q.l with
  | some i =>
    have h0 : (0 : Int) ≤ (i : Int) := by omega
    simp only [idxI_some hi, Option.isSome_some, if_true]
    simp (disch := first | omega | assumption | decide | (simp <;> omega) | fail) [facts, h0]
    exact ⟨_, Heap.le_refl _, R, ow2, by simpa using h⟩
  | none =>
    simp only [idxI_none hi, Option.isSome_none, Bool.false_eq_true, if_false]
    obtain ⟨v, hq⟩ := h
    have hp := ow2.le _ _ hq.row
    obtain ⟨a, c, rfl, hsl, _⟩ := hq.list.sl ow2.le
    by_cases h64 : 64 ≤ q.l.length
    · have h64I : (64 : Int) ≤ (q.l.length : Int) := by omega
      simp only [h64, if_true]
      simp (disch := first | omega | assumption | decide | (simp <;> omega) | fail) [facts, hp, h64I]
      exact ⟨_, Heap.le_refl _, R, ow2, _, by simpa using hq⟩
    · have h64I : ¬ (64 : Int) ≤ (q.l.length : Int) := by omega
      simp only [h64, if_false, if_true]
      have lk2 := hle2 _ _ lk
      simp (disch := first | omega | assumption | decide | (simp <;> omega) | fail) [facts, hp, h64I]
      refine w_plan (P := Try.prog) (by simp [facts]) (opsP [0,1,2,3,6] (.both (opsP [4,5,7,8,9,10,11,12,13] .done) (opsP [5,7,8] (.both (opsP [4,9,10,11,12,13] .done) (opsP [9,4,10,11,12,13] .done))))) ?_ ?_
      · decide +kernel
      simp (disch := first | omega | assumption | decide | (simp <;> omega) | fail) [facts, hp, lk2]
      repeat' apply And.intro
      all_goals
        refine fresh_intro fun b10 hb10 => ?_
        rw [show splice (zeros [.int .u16 0, .int .u32 0, .int .i64 0, .bool false] 1) 0 [.int .u16 t, .int .u32 s, .int .i64 g, .bool true] = QZ.cells ⟨t, s, g, true⟩ from rfl]
        have hp7 := upd_other (o := .row true 0 (QZ.cells ⟨t, s, g, true⟩) 0) hb10 hp
        simp (disch := first | omega | assumption | decide | (simp <;> omega) | fail) [facts, hp7]
        refine hq.list.app (m := 1) (ys := QZ.cells ⟨t, s, g, true⟩) (e := 55) (nbs := 24) (z := .agg #[.int .u16 0, .int .u32 0, .int .i64 0, .bool false]) (by simp [facts]) (by simp [facts]) (by simp [facts]) (by simp [facts]) (by simp) (by decide) (ow2.grow (le_upd _ hb10))
          (srcOne (s := 4) (b := b10) (e1 := 55) (z := .agg #[.int .u16 0, .int .u32 0, .int .i64 0, .bool false]) (by simp [facts]) (by simp [facts]) (by simp [facts]) rfl) rfl rfl (by omega) ?_
        intro v' H' R' own' hl' hkeep _
        obtain ⟨hp8, hoff8⟩ := hkeep p _ hq.row hq.off
        have hp9 := own'.le _ _ hp8
        obtain ⟨a', c', rfl, _, _⟩ := hl'.sl own'.le
        simp (disch := first | omega | assumption | decide | (simp <;> omega) | fail) [facts, hp9]
        refine ⟨_, Heap.le_refl _, _, own'.set hp8 _, _, upd_same _ _ _, ?_, hoff8⟩
        refine LstR.up (B := R') ?_ fun i o hi ho => by rw [upd_ne _ _ (fun e => hoff8 (by rw [hi, e]))]; exact ho
        rw [rowsC_app, rowsC_single, List.length_append]
        exact hl'
end
end Go.Proofs.Ythejhhllpjfojaa.GL
