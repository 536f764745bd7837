/- Layer 19: what a record makes of a transaction. -/
import Derived.Test.YtahmnhdmnhijcaaStB
namespace Go.Proofs.Ytahmnhdmnhijcaa.GL
open Go Go.RowKit
set_option maxRecDepth 10000
set_option pp.deepTerms.threshold 8
set_option pp.maxSteps 3000
set_option linter.unusedSimpArgs false
set_option linter.unusedVariables false

def revT (t : Txn) (g : Int) : Txn := { t with state := 4, given := g, owed := t.amount - g }
/-- What a record that may be makes of a transaction that may be, of the same key. -/
def stepF (t : Txn) (r : Rec) : Txn × Int :=
  if t.state ∈ fromL r.kind then
    if r.kind = 1 then (if r.pan = [] then (zeroT, 27) else if r.amount = 0 then (zeroT, 34) else (⟨r.term, r.stan, r.pan, r.amount, 1, 0, 0, 0, 0, 0, 0⟩, 0))
    else if r.kind = 2 then ({ t with state := 2 }, 0)
    else if r.kind = 3 then ({ t with state := 6 }, 0)
    else if r.kind = 4 then (revT t 0, 0)
    else if r.kind = 5 then ({ t with state := 3, n0 := r.n0, n1 := r.n1, n2 := r.n2, n3 := r.n3 }, 0)
    else if r.kind = 6 then (if t.amount < r.amount then (zeroT, 34) else if t.amount - r.amount = 0 then ({ revT t r.amount with state := 5 }, 0) else (revT t r.amount, 0))
    else ({ t with state := 5 }, 0)
  else (zeroT, 30)
def pairV (x : Txn × Int) : Value := .tuple #[txnV x.1, .int .i64 x.2]

theorem begin_c (r : Rec) (H : Heap) : ECalls Try.prog 15 #[recV r] H fun v H' => v = pairV (if r.pan = [] then (zeroT, 27) else if r.amount = 0 then (zeroT, 34) else (⟨r.term, r.stan, r.pan, r.amount, 1, 0, 0, 0, 0, 0, 0⟩, 0)) ∧ Heap.le H H' := by
  refine ecalls_of_ewp (args := [_]) Try.func15 rfl rfl rfl (by simp [Try.ntmps15]) (by kernel_rfl) ?_
  obtain ⟨k, te, st, pan, am, n0, n1, n2, n3⟩ := r
  simp only [recV]
  simp (disch := first | omega | assumption | decide | (simp <;> omega) | fail) [facts, ]
  refine fresh_intro fun b1 hb1 => ?_
  simp (disch := first | omega | assumption | decide | (simp <;> omega) | fail) [facts, ]
  refine fresh_intro fun b2 hb2 => ?_
  have hne : b1 ≠ b2 := ne_of_fresh hb2 (upd_same _ _ _)
  have hb2' : H b2 = none := le_of_none (le_upd _ hb1) hb2
  by_cases hp : pan = []
  · simp (disch := first | omega | assumption | decide | (simp <;> omega) | fail) [facts, upd_ne, hp, pairV, zeroT, txnV, txnL]
    refine ⟨_, Heap.le_refl _, ?_⟩
    repeat' (first | exact Heap.le_refl _ | exact hb1 | exact hb2' | apply le_updN)
  · by_cases ha : am = 0
    · simp (disch := first | omega | assumption | decide | (simp <;> omega) | fail) [facts, upd_ne, hp, ha, pairV, zeroT, txnV, txnL]
      refine ⟨_, Heap.le_refl _, ?_⟩
      repeat' (first | exact Heap.le_refl _ | exact hb1 | exact hb2' | apply le_updN)
    · simp (disch := first | omega | assumption | decide | (simp <;> omega) | fail) [facts, upd_ne, hp, ha, pairV, zeroT, txnV, txnL]
      refine ⟨_, Heap.le_refl _, ?_⟩
      repeat' (first | exact Heap.le_refl _ | exact hb1 | exact hb2' | apply le_updN)

theorem fromL_len (k : Int) : (fromL k).length ≤ 1000 := by
  unfold fromL; repeat' split
  all_goals simp
set_option maxHeartbeats 8000000 in
theorem step_c (t : Txn) (r : Rec) (H : Heap) (ht : RightT t) (hr : RightR r) (hk : t = zeroT ∨ (r.term = t.term ∧ r.stan = t.stan)) :
    ECalls Try.prog 7 #[txnV t, recV r] H fun v H' => v = pairV (stepF t r) ∧ Heap.le H H' := by
  refine ecalls_of_ewp (args := [_, _]) Try.func7 rfl rfl rfl (by simp [Try.ntmps7]) (by kernel_rfl) ?_
  have cR := fun H => rightR_c r H hr
  have cT := fun H => rightT_c t H ht
  have cB := fun H => begin_c r H
  have cV0 := fun (g : Int) (H : Heap) (h : -9223372036854775808 ≤ t.amount - g ∧ t.amount - g ≤ 9223372036854775807) => reverse_c t g H h
  have hkk : t.state = 0 ∨ (r.term = t.term ∧ r.stan = t.stan) := by
    rcases hk with rfl | h
    · exact .inl rfl
    · exact .inr h
  have ham : 0 ≤ t.amount ∧ t.amount ≤ 1000000 := by
    rcases ht with rfl | h
    · exact ⟨by decide, by decide⟩
    · exact ⟨by have := h.am1; omega, h.am2⟩
  obtain ⟨⟨k1, k7⟩, p2, p3, ⟨a1, a2⟩, few⟩ := hr
  clear ht hk p2 p3 few
  obtain ⟨tte, tst, tpan, tam, sta, m0, m1, m2, m3, gi, ow⟩ := t
  obtain ⟨k, te, st, pan, am, n0, n1, n2, n3⟩ := r
  simp only at k1 k7 a1 a2 hkk ham
  simp only [txnV, txnL, recV] at cR cT cB cV0 ⊢
  simp (disch := first | omega | assumption | decide | (simp <;> omega) | fail) [facts, ]
  refine fresh_intro fun b2 hb2 => ?_
  simp (disch := first | omega | assumption | decide | (simp <;> omega) | fail) [facts, ]
  refine fresh_intro fun b3 hb3 => ?_
  simp (disch := first | omega | assumption | decide | (simp <;> omega) | fail) [facts, ]
  refine fresh_intro fun b4 hb4 => ?_
  have q23 : b2 ≠ b3 := ne_of_fresh hb3 (upd_same _ _ _)
  have q34 : b3 ≠ b4 := ne_of_fresh hb4 (upd_same _ _ _)
  have q24 : b2 ≠ b4 := ne_of_fresh hb4 (by rw [upd_ne _ _ q23]; exact upd_same _ _ _)
  have hb3' : H b3 = none := le_of_none (le_upd _ hb2) hb3
  have hb4' : H b4 = none := le_of_none (le_upd _ hb2) (le_of_none (le_upd _ hb3) hb4)
  obtain ⟨tr, htr⟩ : ∃ tr : List Value, tr = [.int .u16 tte, .int .u32 tst, .string (mkS tpan), .int .i64 tam, .int .i64 sta, .int .i64 m0, .int .i64 m1, .int .i64 m2, .int .i64 m3, .int .i64 gi, .int .i64 ow] := ⟨_, rfl⟩
  obtain ⟨rr, hrr⟩ : ∃ rr : List Value, rr = [.int .i64 k, .int .u16 te, .int .u32 st, .string (mkS pan), .int .i64 am, .int .i64 n0, .int .i64 n1, .int .i64 n2, .int .i64 n3, .int .i64 0, .int .i64 0, .int .i64 0, .int .i64 0, .int .i64 0, .int .i64 0, .int .i64 0, .int .i64 0] := ⟨_, rfl⟩
  obtain ⟨zr, hzr⟩ : ∃ zr : List Value, zr = [.int .u16 0, .int .u32 0, .string (mkS []), .int .i64 0, .int .i64 0, .int .i64 0, .int .i64 0, .int .i64 0, .int .i64 0, .int .i64 0, .int .i64 0] := ⟨_, rfl⟩
  rw [← htr, ← hrr] at hb4
  rw [← htr] at hb3
  rw [← htr, ← hrr, ← hzr]
  have l2 : upd (upd (upd H b2 (.row true 0 tr 0)) b3 (.row true 0 rr 0)) b4 (.row true 0 zr 0) b2 = some (.row true 0 tr 0) := by rw [upd_ne _ _ q24, upd_ne _ _ q23, upd_same]
  have l3 : upd (upd (upd H b2 (.row true 0 tr 0)) b3 (.row true 0 rr 0)) b4 (.row true 0 zr 0) b3 = some (.row true 0 rr 0) := by rw [upd_ne _ _ q34, upd_same]
  have l4 : upd (upd (upd H b2 (.row true 0 tr 0)) b3 (.row true 0 rr 0)) b4 (.row true 0 zr 0) b4 = some (.row true 0 zr 0) := upd_same _ _ _
  have hle0 : Heap.le H (upd (upd (upd H b2 (.row true 0 tr 0)) b3 (.row true 0 rr 0)) b4 (.row true 0 zr 0)) := le_updN _ (le_updN _ (le_upd _ hb2) hb3') hb4'
  generalize upd (upd (upd H b2 (.row true 0 tr 0)) b3 (.row true 0 rr 0)) b4 (.row true 0 zr 0) = H0 at l2 l3 l4 hle0 ⊢
  subst htr hrr hzr
  simp (disch := first | omega | assumption | decide | (simp <;> omega) | fail) [facts, l2, l3, l4]
  refine (cR _).mono ?_
  rintro v H1 ⟨rfl, hle1⟩
  replace l2 := hle1 _ _ l2
  replace l3 := hle1 _ _ l3
  replace l4 := hle1 _ _ l4
  simp (disch := first | omega | assumption | decide | (simp <;> omega) | fail) [facts, l2, l3, l4]
  refine (cT _).mono ?_
  rintro v H2 ⟨rfl, hle2⟩
  replace l2 := hle2 _ _ l2
  replace l3 := hle2 _ _ l3
  replace l4 := hle2 _ _ l4
  have hle := Heap.le_trans hle0 (Heap.le_trans hle1 hle2)
  clear hle0 hle1 hle2 cR cT
  by_cases s0 : sta = 0
  · subst s0
    simp (disch := first | omega | assumption | decide | (simp <;> omega) | fail) [facts, l2, l3, l4, show ¬ 7 < k by omega]
    refine w_cut (fun s => s.env 2 = .pointer (some ⟨b2, 0, none⟩) ∧ s.env 3 = .pointer (some ⟨b3, 0, none⟩) ∧ s.env 4 = .pointer (some ⟨b4, 0, none⟩) ∧ s.env 33 = .bool (!decide (0 ∈ fromL k)) ∧ Heap.le H s.heap ∧
      s.heap b2 = some (.row true 0 [.int .u16 tte, .int .u32 tst, .string (mkS tpan), .int .i64 tam, .int .i64 0, .int .i64 m0, .int .i64 m1, .int .i64 m2, .int .i64 m3, .int .i64 gi, .int .i64 ow] 0) ∧ s.heap b3 = some (.row true 0 [.int .i64 k, .int .u16 te, .int .u32 st, .string (mkS pan), .int .i64 am, .int .i64 n0, .int .i64 n1, .int .i64 n2, .int .i64 n3, .int .i64 0, .int .i64 0, .int .i64 0, .int .i64 0, .int .i64 0, .int .i64 0, .int .i64 0, .int .i64 0] 0) ∧ s.heap b4 = some (.row true 0 [.int .u16 0, .int .u32 0, .string (mkS []), .int .i64 0, .int .i64 0, .int .i64 0, .int .i64 0, .int .i64 0, .int .i64 0, .int .i64 0, .int .i64 0] 0)) ?_ ?_
    · refine w_plan (P := Try.prog) (by simp [facts]) (opsP [0,2] (.both (opsP [1,3,4,5,6,7] .done) (opsP [3] (.both (opsP [1,4,5,6,7] .done) (opsP [4,1,5,6,7] .done))))) ?_ ?_
      · decide +kernel
      simp (disch := first | omega | assumption | decide | (simp <;> omega) | fail) [facts, l2, l3, l4]
      try (repeat' apply And.intro)
      all_goals
        refine (from_c k _).mono ?_
        rintro v H5 ⟨hle5, a5, c5, rfl, hs5⟩
        have g2 := hle5 _ _ l2
        simp (disch := first | omega | assumption | decide | (simp <;> omega) | fail) [facts, g2]
        refine (in_c 0 a5 _ c5 (fromL k) _ hs5 (fromL_len k)).mono ?_
        rintro v H6 ⟨rfl, rfl⟩
        simp (disch := first | omega | assumption | decide | (simp <;> omega) | fail) [facts, g2]
        exact ⟨Heap.le_trans hle hle5, hle5 _ _ l3, hle5 _ _ l4⟩
    · rintro ⟨e, H5⟩ ⟨e2, e3, e4, e33, hle, l2, l3, l4⟩
      simp only at e2 e3 e4 e33 hle l2 l3 l4
      by_cases hin : 0 ∈ fromL k
      · have hk7 : k = 1 ∨ k = 2 ∨ k = 3 ∨ k = 4 ∨ k = 5 ∨ k = 6 ∨ k = 7 := by omega
        rcases hk7 with rfl | rfl | rfl | rfl | rfl | rfl | rfl
        · simp (disch := first | omega | assumption | decide | (simp <;> omega) | fail) [facts, e2, e3, e4, e33, l2, l3, l4, upd_ne, hin]
          refine (cB _).mono ?_
          rintro v H6 ⟨rfl, hle6⟩
          replace hle := Heap.le_trans hle hle6
          replace l4 := hle6 _ _ l4
          by_cases hp : pan = []
          · simp (disch := first | omega | assumption | decide | (simp <;> omega) | fail) [facts, e2, e3, e4, e33, l2, l3, l4, upd_ne, pairV, revT, zeroT, txnV, txnL, stepF, hin, hp]
            refine ⟨_, Heap.le_refl _, ?_⟩
            repeat' (first | exact hle | exact hb2 | exact hb3' | exact hb4' | apply le_updN)
          · by_cases ha : am = 0
            · simp (disch := first | omega | assumption | decide | (simp <;> omega) | fail) [facts, e2, e3, e4, e33, l2, l3, l4, upd_ne, pairV, revT, zeroT, txnV, txnL, stepF, hin, hp, ha]
              refine ⟨_, Heap.le_refl _, ?_⟩
              repeat' (first | exact hle | exact hb2 | exact hb3' | exact hb4' | apply le_updN)
            · simp (disch := first | omega | assumption | decide | (simp <;> omega) | fail) [facts, e2, e3, e4, e33, l2, l3, l4, upd_ne, pairV, revT, zeroT, txnV, txnL, stepF, hin, hp, ha]
              refine ⟨_, Heap.le_refl _, ?_⟩
              repeat' (first | exact hle | exact hb2 | exact hb3' | exact hb4' | apply le_updN)
        · simp (disch := first | omega | assumption | decide | (simp <;> omega) | fail) [facts, e2, e3, e4, e33, l2, l3, l4, upd_ne, pairV, revT, zeroT, txnV, txnL, stepF, hin]
          refine ⟨_, Heap.le_refl _, ?_⟩
          repeat' (first | exact hle | exact hb2 | exact hb3' | exact hb4' | apply le_updN)
        · simp (disch := first | omega | assumption | decide | (simp <;> omega) | fail) [facts, e2, e3, e4, e33, l2, l3, l4, upd_ne, pairV, revT, zeroT, txnV, txnL, stepF, hin]
          refine ⟨_, Heap.le_refl _, ?_⟩
          repeat' (first | exact hle | exact hb2 | exact hb3' | exact hb4' | apply le_updN)
        · simp (disch := first | omega | assumption | decide | (simp <;> omega) | fail) [facts, e2, e3, e4, e33, l2, l3, l4, upd_ne, hin]
          refine (cV0 0 _ (by omega)).mono ?_
          rintro v H6 ⟨rfl, hle6⟩
          replace hle := Heap.le_trans hle hle6
          replace l2 := hle6 _ _ l2
          replace l4 := hle6 _ _ l4
          simp (disch := first | omega | assumption | decide | (simp <;> omega) | fail) [facts, e2, e3, e4, e33, l2, l3, l4, upd_ne, pairV, revT, zeroT, txnV, txnL, stepF, hin]
          refine ⟨_, Heap.le_refl _, ?_⟩
          repeat' (first | exact hle | exact hb2 | exact hb3' | exact hb4' | apply le_updN)
        · simp (disch := first | omega | assumption | decide | (simp <;> omega) | fail) [facts, e2, e3, e4, e33, l2, l3, l4, upd_ne, hin]
          refine w_plan (P := Try.prog) (by simp [facts]) (opsP [0,2] (.both (opsP [1,3,4,5] .done) (opsP [3,1,4,5] .done))) ?_ ?_
          · decide +kernel
          simp (disch := first | omega | assumption | decide | (simp <;> omega) | fail) [facts, e2, e3, e4, e33, l2, l3, l4, upd_ne, pairV, revT, zeroT, txnV, txnL, stepF, hin]
          try (repeat' apply And.intro)
          all_goals
            refine ⟨_, Heap.le_refl _, ?_⟩
            repeat' (first | exact hle | exact hb2 | exact hb3' | exact hb4' | apply le_updN)
        · by_cases hlt : tam < am
          · simp (disch := first | omega | assumption | decide | (simp <;> omega) | fail) [facts, e2, e3, e4, e33, l2, l3, l4, upd_ne, pairV, revT, zeroT, txnV, txnL, stepF, hin, hlt]
            refine ⟨_, Heap.le_refl _, ?_⟩
            repeat' (first | exact hle | exact hb2 | exact hb3' | exact hb4' | apply le_updN)
          · simp (disch := first | omega | assumption | decide | (simp <;> omega) | fail) [facts, e2, e3, e4, e33, l2, l3, l4, upd_ne, hin, hlt]
            refine (cV0 am _ (by omega)).mono ?_
            rintro v H6 ⟨rfl, hle6⟩
            replace hle := Heap.le_trans hle hle6
            replace l2 := hle6 _ _ l2
            replace l4 := hle6 _ _ l4
            by_cases hz : tam - am = 0
            · simp (disch := first | omega | assumption | decide | (simp <;> omega) | fail) [facts, e2, e3, e4, e33, l2, l3, l4, upd_ne, pairV, revT, zeroT, txnV, txnL, stepF, hin, hlt, hz]
              refine ⟨_, Heap.le_refl _, ?_⟩
              repeat' (first | exact hle | exact hb2 | exact hb3' | exact hb4' | apply le_updN)
            · simp (disch := first | omega | assumption | decide | (simp <;> omega) | fail) [facts, e2, e3, e4, e33, l2, l3, l4, upd_ne, pairV, revT, zeroT, txnV, txnL, stepF, hin, hlt, hz]
              refine ⟨_, Heap.le_refl _, ?_⟩
              repeat' (first | exact hle | exact hb2 | exact hb3' | exact hb4' | apply le_updN)
        · simp (disch := first | omega | assumption | decide | (simp <;> omega) | fail) [facts, e2, e3, e4, e33, l2, l3, l4, upd_ne, pairV, revT, zeroT, txnV, txnL, stepF, hin]
          refine ⟨_, Heap.le_refl _, ?_⟩
          repeat' (first | exact hle | exact hb2 | exact hb3' | exact hb4' | apply le_updN)
      · simp (disch := first | omega | assumption | decide | (simp <;> omega) | fail) [facts, e2, e3, e4, e33, l2, l3, l4, upd_ne, pairV, revT, zeroT, txnV, txnL, stepF, hin]
        refine ⟨_, Heap.le_refl _, ?_⟩
        repeat' (first | exact hle | exact hb2 | exact hb3' | exact hb4' | apply le_updN)
  · obtain ⟨rfl, rfl⟩ : te = tte ∧ st = tst := by
      rcases hkk with h | h
      · exact absurd h s0
      · exact h
    simp (disch := first | omega | assumption | decide | (simp <;> omega) | fail) [facts, l2, l3, l4, s0, show ¬ 7 < k by omega]
    refine w_cut (fun s => s.env 2 = .pointer (some ⟨b2, 0, none⟩) ∧ s.env 3 = .pointer (some ⟨b3, 0, none⟩) ∧ s.env 4 = .pointer (some ⟨b4, 0, none⟩) ∧ s.env 33 = .bool (!decide (sta ∈ fromL k)) ∧ Heap.le H s.heap ∧
      s.heap b2 = some (.row true 0 [.int .u16 te, .int .u32 st, .string (mkS tpan), .int .i64 tam, .int .i64 sta, .int .i64 m0, .int .i64 m1, .int .i64 m2, .int .i64 m3, .int .i64 gi, .int .i64 ow] 0) ∧ s.heap b3 = some (.row true 0 [.int .i64 k, .int .u16 te, .int .u32 st, .string (mkS pan), .int .i64 am, .int .i64 n0, .int .i64 n1, .int .i64 n2, .int .i64 n3, .int .i64 0, .int .i64 0, .int .i64 0, .int .i64 0, .int .i64 0, .int .i64 0, .int .i64 0, .int .i64 0] 0) ∧ s.heap b4 = some (.row true 0 [.int .u16 0, .int .u32 0, .string (mkS []), .int .i64 0, .int .i64 0, .int .i64 0, .int .i64 0, .int .i64 0, .int .i64 0, .int .i64 0, .int .i64 0] 0)) ?_ ?_
    · refine w_plan (P := Try.prog) (by simp [facts]) (opsP [0,2] (.both (opsP [1,3,4,5,6,7] .done) (opsP [3] (.both (opsP [1,4,5,6,7] .done) (opsP [4,1,5,6,7] .done))))) ?_ ?_
      · decide +kernel
      simp (disch := first | omega | assumption | decide | (simp <;> omega) | fail) [facts, l2, l3, l4]
      try (repeat' apply And.intro)
      all_goals
        refine (from_c k _).mono ?_
        rintro v H5 ⟨hle5, a5, c5, rfl, hs5⟩
        have g2 := hle5 _ _ l2
        simp (disch := first | omega | assumption | decide | (simp <;> omega) | fail) [facts, g2]
        refine (in_c sta a5 _ c5 (fromL k) _ hs5 (fromL_len k)).mono ?_
        rintro v H6 ⟨rfl, rfl⟩
        simp (disch := first | omega | assumption | decide | (simp <;> omega) | fail) [facts, g2]
        exact ⟨Heap.le_trans hle hle5, hle5 _ _ l3, hle5 _ _ l4⟩
    · rintro ⟨e, H5⟩ ⟨e2, e3, e4, e33, hle, l2, l3, l4⟩
      simp only at e2 e3 e4 e33 hle l2 l3 l4
      by_cases hin : sta ∈ fromL k
      · have hk7 : k = 1 ∨ k = 2 ∨ k = 3 ∨ k = 4 ∨ k = 5 ∨ k = 6 ∨ k = 7 := by omega
        rcases hk7 with rfl | rfl | rfl | rfl | rfl | rfl | rfl
        · simp (disch := first | omega | assumption | decide | (simp <;> omega) | fail) [facts, e2, e3, e4, e33, l2, l3, l4, upd_ne, hin]
          refine (cB _).mono ?_
          rintro v H6 ⟨rfl, hle6⟩
          replace hle := Heap.le_trans hle hle6
          replace l4 := hle6 _ _ l4
          by_cases hp : pan = []
          · simp (disch := first | omega | assumption | decide | (simp <;> omega) | fail) [facts, e2, e3, e4, e33, l2, l3, l4, upd_ne, pairV, revT, zeroT, txnV, txnL, stepF, hin, hp]
            refine ⟨_, Heap.le_refl _, ?_⟩
            repeat' (first | exact hle | exact hb2 | exact hb3' | exact hb4' | apply le_updN)
          · by_cases ha : am = 0
            · simp (disch := first | omega | assumption | decide | (simp <;> omega) | fail) [facts, e2, e3, e4, e33, l2, l3, l4, upd_ne, pairV, revT, zeroT, txnV, txnL, stepF, hin, hp, ha]
              refine ⟨_, Heap.le_refl _, ?_⟩
              repeat' (first | exact hle | exact hb2 | exact hb3' | exact hb4' | apply le_updN)
            · simp (disch := first | omega | assumption | decide | (simp <;> omega) | fail) [facts, e2, e3, e4, e33, l2, l3, l4, upd_ne, pairV, revT, zeroT, txnV, txnL, stepF, hin, hp, ha]
              refine ⟨_, Heap.le_refl _, ?_⟩
              repeat' (first | exact hle | exact hb2 | exact hb3' | exact hb4' | apply le_updN)
        · simp (disch := first | omega | assumption | decide | (simp <;> omega) | fail) [facts, e2, e3, e4, e33, l2, l3, l4, upd_ne, pairV, revT, zeroT, txnV, txnL, stepF, hin]
          refine ⟨_, Heap.le_refl _, ?_⟩
          repeat' (first | exact hle | exact hb2 | exact hb3' | exact hb4' | apply le_updN)
        · simp (disch := first | omega | assumption | decide | (simp <;> omega) | fail) [facts, e2, e3, e4, e33, l2, l3, l4, upd_ne, pairV, revT, zeroT, txnV, txnL, stepF, hin]
          refine ⟨_, Heap.le_refl _, ?_⟩
          repeat' (first | exact hle | exact hb2 | exact hb3' | exact hb4' | apply le_updN)
        · simp (disch := first | omega | assumption | decide | (simp <;> omega) | fail) [facts, e2, e3, e4, e33, l2, l3, l4, upd_ne, hin]
          refine (cV0 0 _ (by omega)).mono ?_
          rintro v H6 ⟨rfl, hle6⟩
          replace hle := Heap.le_trans hle hle6
          replace l2 := hle6 _ _ l2
          replace l4 := hle6 _ _ l4
          simp (disch := first | omega | assumption | decide | (simp <;> omega) | fail) [facts, e2, e3, e4, e33, l2, l3, l4, upd_ne, pairV, revT, zeroT, txnV, txnL, stepF, hin]
          refine ⟨_, Heap.le_refl _, ?_⟩
          repeat' (first | exact hle | exact hb2 | exact hb3' | exact hb4' | apply le_updN)
        · simp (disch := first | omega | assumption | decide | (simp <;> omega) | fail) [facts, e2, e3, e4, e33, l2, l3, l4, upd_ne, hin]
          refine w_plan (P := Try.prog) (by simp [facts]) (opsP [0,2] (.both (opsP [1,3,4,5] .done) (opsP [3,1,4,5] .done))) ?_ ?_
          · decide +kernel
          simp (disch := first | omega | assumption | decide | (simp <;> omega) | fail) [facts, e2, e3, e4, e33, l2, l3, l4, upd_ne, pairV, revT, zeroT, txnV, txnL, stepF, hin]
          try (repeat' apply And.intro)
          all_goals
            refine ⟨_, Heap.le_refl _, ?_⟩
            repeat' (first | exact hle | exact hb2 | exact hb3' | exact hb4' | apply le_updN)
        · by_cases hlt : tam < am
          · simp (disch := first | omega | assumption | decide | (simp <;> omega) | fail) [facts, e2, e3, e4, e33, l2, l3, l4, upd_ne, pairV, revT, zeroT, txnV, txnL, stepF, hin, hlt]
            refine ⟨_, Heap.le_refl _, ?_⟩
            repeat' (first | exact hle | exact hb2 | exact hb3' | exact hb4' | apply le_updN)
          · simp (disch := first | omega | assumption | decide | (simp <;> omega) | fail) [facts, e2, e3, e4, e33, l2, l3, l4, upd_ne, hin, hlt]
            refine (cV0 am _ (by omega)).mono ?_
            rintro v H6 ⟨rfl, hle6⟩
            replace hle := Heap.le_trans hle hle6
            replace l2 := hle6 _ _ l2
            replace l4 := hle6 _ _ l4
            by_cases hz : tam - am = 0
            · simp (disch := first | omega | assumption | decide | (simp <;> omega) | fail) [facts, e2, e3, e4, e33, l2, l3, l4, upd_ne, pairV, revT, zeroT, txnV, txnL, stepF, hin, hlt, hz]
              refine ⟨_, Heap.le_refl _, ?_⟩
              repeat' (first | exact hle | exact hb2 | exact hb3' | exact hb4' | apply le_updN)
            · simp (disch := first | omega | assumption | decide | (simp <;> omega) | fail) [facts, e2, e3, e4, e33, l2, l3, l4, upd_ne, pairV, revT, zeroT, txnV, txnL, stepF, hin, hlt, hz]
              refine ⟨_, Heap.le_refl _, ?_⟩
              repeat' (first | exact hle | exact hb2 | exact hb3' | exact hb4' | apply le_updN)
        · simp (disch := first | omega | assumption | decide | (simp <;> omega) | fail) [facts, e2, e3, e4, e33, l2, l3, l4, upd_ne, pairV, revT, zeroT, txnV, txnL, stepF, hin]
          refine ⟨_, Heap.le_refl _, ?_⟩
          repeat' (first | exact hle | exact hb2 | exact hb3' | exact hb4' | apply le_updN)
      · simp (disch := first | omega | assumption | decide | (simp <;> omega) | fail) [facts, e2, e3, e4, e33, l2, l3, l4, upd_ne, pairV, revT, zeroT, txnV, txnL, stepF, hin]
        refine ⟨_, Heap.le_refl _, ?_⟩
        repeat' (first | exact hle | exact hb2 | exact hb3' | exact hb4' | apply le_updN)
end Go.Proofs.Ytahmnhdmnhijcaa.GL
