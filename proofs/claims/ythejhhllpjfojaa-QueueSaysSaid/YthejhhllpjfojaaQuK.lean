/- Layer 22: QueueSays. -/
import Derived.Test.YthejhhllpjfojaaQuJ
namespace Go.Proofs.Ythejhhllpjfojaa.GL
open Go Go.RowKit
set_option maxRecDepth 10000
set_option pp.deepTerms.threshold 8
set_option pp.maxSteps 3000
set_option linter.unusedSimpArgs false
set_option linter.unusedVariables false

theorem tick_mod (l : List QZ) (m : Nat) : tickD ⟨l, ((m % 4 : Nat) : Int)⟩ = ⟨if (m + 1) % 4 = 0 then l.map QZ.on else l, (((m + 1) % 4 : Nat) : Int)⟩ := by
  unfold tickD
  by_cases h : (m + 1) % 4 = 0
  · rw [if_pos (by simp only; omega), if_pos h, h]; rfl
  · rw [if_neg (by simp only; omega), if_neg h]
    congr 1
    simp only; omega
def says1Inv (H1 : Heap) (p A T E : Nat) (s : St) : Prop :=
  ∃ (i : Nat) (R : Heap), i ≤ A % 9 ∧ s.env 0 = .int .u8 A ∧ s.env 1 = .int .u8 T ∧ s.env 2 = .int .u8 E ∧ s.env 7 = .pointer (some ⟨p, 0, none⟩) ∧ s.env 8 = .int .i64 i ∧ Own H1 (fun _ => none) s.heap R ∧ Que R p ⟨[], ((i % 4 : Nat) : Int)⟩
def says2Inv (H1 : Heap) (p A T E : Nat) (s : St) : Prop :=
  ∃ (i : Nat) (R : Heap), i ≤ T % 50 ∧ s.env 0 = .int .u8 A ∧ s.env 1 = .int .u8 T ∧ s.env 2 = .int .u8 E ∧ s.env 7 = .pointer (some ⟨p, 0, none⟩) ∧ s.env 11 = .int .i64 i ∧ Own H1 (fun _ => none) s.heap R ∧
    Que R p ⟨[⟨2, 3, 4, decide (E % 2 ≠ 0)⟩], (((A % 9 + i) % 4 : Nat) : Int)⟩ ∧ s.env 10 = .int .i64 (if E % 2 = 0 then ((1 + (A % 9 + i) / 4 - A % 9 / 4 : Nat) : Int) else 0)
set_option maxHeartbeats 2000000 in
theorem queueSays_c (A T E : Nat) (H : Heap) (hA : A < 256) (hT : T < 256) (hE : E < 256) :
    ECalls Try.prog 5 #[.int .u8 A, .int .u8 T, .int .u8 E] H fun r _ => r = .bool true := by
  refine ecalls_of_ewp (args := [_, _, _]) Try.func5 rfl rfl rfl (by simp [Try.ntmps5]) (by kernel_rfl) ?_
  simp (disch := first | omega | assumption | decide | (simp <;> omega) | fail) [facts, ]
  refine (known22_c H).mono ?_
  rintro v H1 ⟨rfl, hle⟩
  simp (disch := first | omega | assumption | decide | (simp <;> omega) | fail) [facts, ]
  refine (queNew_c H1).mono ?_
  rintro v H2 ⟨p, R2, rfl, ow2, d2⟩
  simp (disch := first | omega | assumption | decide | (simp <;> omega) | fail) [facts, ]
  refine w_loop (says1Inv H1 p A T E) (fun s => A % 9 - (intOf (s.env 8)).toNat) ?_ ?_
  · exact ⟨0, R2, Nat.zero_le _, by simp, by simp, by simp, by simp, by simp, ow2, d2⟩
  clear ow2 d2
  rintro ⟨env, G⟩ ⟨i, R, hi, e0, e1, e2, e7, e8, ow, d⟩
  simp only at e0 e1 e2 e7 e8 ow
  by_cases hlt : i < A % 9
  · have hltI : (i : Int) < (A : Int) % 9 := by omega
    simp (disch := first | omega | assumption | decide | (simp <;> omega) | fail) [facts, e0, e1, e2, e7, e8, hltI]
    refine (queTick_c ow.le d (by simp) (by simp only; omega)).mono ?_
    rintro v H3 ⟨R3, ow3, d3⟩
    rw [tick_mod] at d3
    replace d3 : Que R3 p ⟨[], (((i + 1) % 4 : Nat) : Int)⟩ := by
      split at d3 <;> exact d3
    simp (disch := first | omega | assumption | decide | (simp <;> omega) | fail) [facts, e0, e1, e2, e7, e8]
    exact ⟨_, Heap.le_refl _, ⟨i + 1, R3, by omega, by simp [e0], by simp [e1], by simp [e2], by simp [e7], by simp, ow.trans ow3, d3⟩, by simp [intOf, e8]; omega⟩
  · have hie : i = A % 9 := by omega
    have hltI : ¬ (i : Int) < (A : Int) % 9 := by omega
    simp (disch := first | omega | assumption | decide | (simp <;> omega) | fail) [facts, e0, e1, e2, e7, e8, hltI]
    refine fresh_intro fun kb hkb => ?_
    have ow1' := ow.grow (le_upd (.row true 0 [.int .u16 2, .int .u32 3] 0) hkb)
    have nG := upd_same G kb (.row true 0 [.int .u16 2, .int .u32 3] 0)
    simp (disch := first | omega | assumption | decide | (simp <;> omega) | fail) [facts, e0, e1, e2, e7, e8, upd_upd]
    generalize upd G kb (.row true 0 [.int .u16 2, .int .u32 3] 0) = G1 at *
    refine (quePut_c ow1'.le d 2 3 4 (by simp)).mono ?_
    rintro v H3 ⟨rfl, R3, ow3, d3⟩
    replace ow3 := ow1'.trans ow3
    rw [show putE ⟨[], ((i % 4 : Nat) : Int)⟩ 2 3 = 0 from rfl]
    replace d3 : Que R3 p ⟨[⟨2, 3, 4, true⟩], ((i % 4 : Nat) : Int)⟩ := d3
    obtain ⟨I, hI⟩ : ∃ I : St → Prop, I = (fun s => ∃ R, s.env 0 = .int .u8 A ∧ s.env 1 = .int .u8 T ∧ s.env 2 = .int .u8 E ∧ s.env 7 = .pointer (some ⟨p, 0, none⟩) ∧ Own H1 (fun _ => none) s.heap R ∧ Que R p ⟨[⟨2, 3, 4, decide (E % 2 ≠ 0)⟩], ((i % 4 : Nat) : Int)⟩ ∧ s.env 10 = .int .i64 (if E % 2 = 0 then 1 else 0)) := ⟨_, rfl⟩
    simp (disch := first | omega | assumption | decide | (simp <;> omega) | fail) [facts, e0, e1, e2, e7, e8]
    refine cond_cut3 I ?_ ?_
    · by_cases hE2 : E % 2 = 0
      · have hEI : (E : Int) % 2 = 0 := by omega
        simp (disch := first | omega | assumption | decide | (simp <;> omega) | fail) [facts, e0, e1, e2, e7, e8, hEI]
        refine (queOut_c ow3.le d3 (by simp)).mono ?_
        rintro v H4 ⟨R4, ow4, d4, l4⟩
        replace ow4 := ow3.trans ow4
        obtain ⟨_, _, rfl, _, _⟩ := l4.sl ow4.le
        replace d4 : Que R4 p ⟨[⟨2, 3, 4, false⟩], ((i % 4 : Nat) : Int)⟩ := d4
        rw [show (List.filter (fun x => x.w) (⟨[⟨2, 3, 4, true⟩], ((i % 4 : Nat) : Int)⟩ : QS).l).length = 1 from rfl]
        simp (disch := first | omega | assumption | decide | (simp <;> omega) | fail) [facts, e0, e1, e2, e7, e8]
        subst hI
        exact ⟨R4, by simp [e0], by simp [e1], by simp [e2], by simp [e7], ow4, by simpa [hE2] using d4, by simp [hE2]⟩
      · have hEI : ¬ (E : Int) % 2 = 0 := by omega
        simp (disch := first | omega | assumption | decide | (simp <;> omega) | fail) [facts, e0, e1, e2, e7, e8, hEI]
        subst hI
        exact ⟨R3, by simp [e0], by simp [e1], by simp [e2], by simp [e7], ow3, by simpa [hE2] using d3, by simp [hE2]⟩
    subst hI
    clear e0 e1 e2 e7 e8 d3 ow3 ow1' nG d ow
    rintro ⟨env, G⟩ ⟨R, e0, e1, e2, e7, ow, d, e10⟩
    simp only at e0 e1 e2 e7 ow e10
    simp (disch := first | omega | assumption | decide | (simp <;> omega) | fail) [facts, e0, e1, e2, e7]
    refine w_loop (says2Inv H1 p A T E) (fun s => T % 50 - (intOf (s.env 11)).toNat) ?_ ?_
    · refine ⟨0, R, Nat.zero_le _, by simp [e0], by simp [e1], by simp [e2], by simp [e7], by simp, ow, by rw [Nat.add_zero, ← hie]; exact d, ?_⟩
      have hz : (if E % 2 = 0 then ((1 + (A % 9 + 0) / 4 - A % 9 / 4 : Nat) : Int) else 0) = (if E % 2 = 0 then 1 else 0) := by
        split
        · omega
        · rfl
      rw [hz]
      simpa [setE_app] using e10
    clear e0 e1 e2 e7 e10 ow d
    rintro ⟨env, G⟩ ⟨j, R, hj, e0, e1, e2, e7, e11, ow, d, e10⟩
    simp only at e0 e1 e2 e7 e11 ow e10
    by_cases hjt : j < T % 50
    · have hjI : (j : Int) < (T : Int) % 50 := by omega
      simp (disch := first | omega | assumption | decide | (simp <;> omega) | fail) [facts, e0, e1, e2, e7, e11, hjI]
      refine (queTick_c ow.le d (by simp) (by simp only; omega)).mono ?_
      rintro v H4 ⟨R4, ow4, d4⟩
      rw [tick_mod] at d4
      replace ow4 := ow.trans ow4
      by_cases hE2 : E % 2 = 0
      · have hEI : (E : Int) % 2 = 0 := by omega
        rw [if_pos hE2] at e10
        replace d4 : Que R4 p ⟨[⟨2, 3, 4, decide ((A % 9 + j + 1) % 4 = 0)⟩], (((A % 9 + (j + 1)) % 4 : Nat) : Int)⟩ := by
          rw [show A % 9 + (j + 1) = A % 9 + j + 1 by omega]
          by_cases h4 : (A % 9 + j + 1) % 4 = 0
          · simpa [h4, QZ.on] using d4
          · simpa [h4, hE2] using d4
        simp (disch := first | omega | assumption | decide | (simp <;> omega) | fail) [facts, e0, e1, e2, e7, e11, e10, hEI]
        refine (queOut_c ow4.le d4 (by simp)).mono ?_
        rintro v H5 ⟨R5, ow5, d5, l5⟩
        replace ow5 := ow4.trans ow5
        obtain ⟨_, _, rfl, _, _⟩ := l5.sl ow5.le
        replace d5 : Que R5 p ⟨[⟨2, 3, 4, false⟩], (((A % 9 + (j + 1)) % 4 : Nat) : Int)⟩ := d5
        have hcnt : (List.filter (fun x : QZ => x.w) (⟨[⟨2, 3, 4, decide ((A % 9 + j + 1) % 4 = 0)⟩], (((A % 9 + (j + 1)) % 4 : Nat) : Int)⟩ : QS).l).length = if (A % 9 + j + 1) % 4 = 0 then 1 else 0 := by
          by_cases h4 : (A % 9 + j + 1) % 4 = 0 <;> simp [h4]
        rw [hcnt]
        obtain ⟨n1, hn1⟩ : ∃ n1 : Nat, 1 + (A % 9 + j) / 4 - A % 9 / 4 = n1 := ⟨_, rfl⟩
        obtain ⟨n2, hn2⟩ : ∃ n2 : Nat, (if (A % 9 + j + 1) % 4 = 0 then 1 else 0) = n2 := ⟨_, rfl⟩
        have hn3 : 1 + (A % 9 + (j + 1)) / 4 - A % 9 / 4 = n1 + n2 := by
          rw [← hn1, ← hn2]; split <;> omega
        have hn4 : n1 < 100 ∧ n2 < 100 := by
          rw [← hn1, ← hn2]; split <;> omega
        rw [hn1] at e10
        rw [hn2]
        simp (disch := first | omega | assumption | decide | (simp <;> omega) | fail) [facts, e0, e1, e2, e7, e11, e10]
        exact ⟨_, Heap.le_refl _, ⟨j + 1, R5, by omega, by simp [e0], by simp [e1], by simp [e2], by simp [e7], by simp, ow5, by simpa [hE2] using d5, by rw [if_pos hE2, hn3]; simp; omega⟩, by simp [intOf, e11]; omega⟩
      · have hEI : ¬ (E : Int) % 2 = 0 := by omega
        rw [if_neg hE2] at e10
        replace d4 : Que R4 p ⟨[⟨2, 3, 4, true⟩], (((A % 9 + (j + 1)) % 4 : Nat) : Int)⟩ := by
          rw [show A % 9 + (j + 1) = A % 9 + j + 1 by omega]
          by_cases h4 : (A % 9 + j + 1) % 4 = 0
          · simpa [h4, QZ.on] using d4
          · simpa [h4, hE2] using d4
        simp (disch := first | omega | assumption | decide | (simp <;> omega) | fail) [facts, e0, e1, e2, e7, e11, e10, hEI]
        exact ⟨_, Heap.le_refl _, ⟨j + 1, R4, by omega, by simp [e0], by simp [e1], by simp [e2], by simp [e7], by simp, ow4, by simpa [hE2] using d4, by rw [if_neg hE2]; simp [e10]⟩, by simp [intOf, e11]; omega⟩
    · have hje : j = T % 50 := by omega
      have hjI : ¬ (j : Int) < (T : Int) % 50 := by omega
      subst hje
      by_cases hE2 : E % 2 = 0
      · have hEI : (E : Int) % 2 = 0 := by omega
        rw [if_pos hE2, show ((1 + (A % 9 + T % 50) / 4 - A % 9 / 4 : Nat) : Int) = 1 + (((A : Int) % 9 + (T : Int) % 50) / 4 - (A : Int) % 9 / 4) by omega] at e10
        simp (disch := first | omega | assumption | decide | (simp <;> omega) | fail) [facts, e0, e1, e2, e7, e11, e10, hEI, hjI]
        exact ⟨_, Heap.le_refl _⟩
      · have hEI : ¬ (E : Int) % 2 = 0 := by omega
        replace d : Que R p ⟨[⟨2, 3, 4, true⟩], (((A % 9 + T % 50) % 4 : Nat) : Int)⟩ := by simpa [hE2] using d
        simp (disch := first | omega | assumption | decide | (simp <;> omega) | fail) [facts, e0, e1, e2, e7, e11, hEI, hjI]
        refine (queOut_c ow.le d (by simp)).mono ?_
        rintro v H5 ⟨R5, ow5, d5, l5⟩
        replace ow5 := ow.trans ow5
        obtain ⟨_, _, rfl, _, _⟩ := l5.sl ow5.le
        replace d5 : Que R5 p ⟨[⟨2, 3, 4, false⟩], (((A % 9 + T % 50) % 4 : Nat) : Int)⟩ := d5
        rw [show (List.filter (fun x : QZ => x.w) (⟨[⟨2, 3, 4, true⟩], (((A % 9 + T % 50) % 4 : Nat) : Int)⟩ : QS).l).length = 1 from rfl]
        simp (disch := first | omega | assumption | decide | (simp <;> omega) | fail) [facts, e0, e1, e2, e7]
        refine (queOut_c ow5.le d5 (by simp)).mono ?_
        rintro v H6 ⟨R6, ow6, d6, l6⟩
        replace ow6 := ow5.trans ow6
        obtain ⟨_, _, rfl, _, _⟩ := l6.sl ow6.le
        rw [show (List.filter (fun x : QZ => x.w) (⟨[⟨2, 3, 4, false⟩], (((A % 9 + T % 50) % 4 : Nat) : Int)⟩ : QS).l).length = 0 from rfl]
        simp (disch := first | omega | assumption | decide | (simp <;> omega) | fail) [facts, e0, e1, e2, e7]
        exact ⟨_, Heap.le_refl _⟩
end Go.Proofs.Ythejhhllpjfojaa.GL
