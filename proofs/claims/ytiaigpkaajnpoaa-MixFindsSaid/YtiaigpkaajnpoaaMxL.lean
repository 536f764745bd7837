/- Layer 17: the law of the limits, walked. -/
import Derived.Test.YtiaigpkaajnpoaaMxK
namespace Go.Proofs.Ytiaigpkaajnpoaa.GL
open Go Go.RowKit
set_option maxRecDepth 10000
set_option pp.deepTerms.threshold 8
set_option pp.maxSteps 3000
set_option linter.unusedSimpArgs false
set_option linter.unusedVariables false

def zC : Cs := ⟨0, 0, 0, 0⟩
theorem zC_m : zC.m = 0 := rfl
theorem zC_v : zC.v = 0 := rfl
/-- A cassette of notes of d, with l notes. -/
theorem cs_m {d l : Nat} (h1 : 1 ≤ d) (h2 : d ≤ 100000) (h3 : l ≤ 10000) : (Cs.mk d l 0 0).m = l := by
  have hk : (Cs.mk d l 0 0).ok := ⟨by show (1 : Int) ≤ d; omega, by show (d : Int) ≤ 100000; omega⟩
  unfold Cs.m leftZ
  have hf : fewIn (l : Int) ∧ fewIn (0 : Int) ∧ fewIn (0 : Int) := by unfold fewIn; omega
  rw [if_pos hk, if_pos hf]
  simp only
  omega
theorem cs_v {d l : Nat} (h1 : 1 ≤ d) (h2 : d ≤ 100000) (h3 : l ≤ 10000) : (Cs.mk d l 0 0).v = if 0 < l then d else 0 := by
  have hk : (Cs.mk d l 0 0).ok := ⟨by show (1 : Int) ≤ d; omega, by show (d : Int) ≤ 100000; omega⟩
  unfold Cs.v
  rw [cs_m h1 h2 h3]
  unfold Cs.w
  rw [if_pos hk]
  simp
def sLim (d l : Nat) : S4 := ⟨⟨d, l, 0, 0⟩, zC, zC, zC⟩
theorem lim_f {d l N a b c e : Nat} (h1 : 1 ≤ d) (h2 : d ≤ 100000) (h3 : l ≤ 10000) (h4 : 0 < l) : F4 (sLim d l) N a b c e ↔ a ≤ l ∧ b = 0 ∧ c = 0 ∧ e = 0 ∧ a * d = N ∧ a ≤ 40 := by
  have m1 : (sLim d l).a.m = l := cs_m h1 h2 h3
  have v1 : (sLim d l).a.v = d := by rw [show (sLim d l).a = Cs.mk d l 0 0 from rfl, cs_v h1 h2 h3, if_pos h4]
  have m2 : (sLim d l).b.m = 0 := rfl
  have m3 : (sLim d l).c.m = 0 := rfl
  have m4 : (sLim d l).e.m = 0 := rfl
  have v2 : (sLim d l).b.v = 0 := rfl
  have v3 : (sLim d l).c.v = 0 := rfl
  have v4 : (sLim d l).e.v = 0 := rfl
  constructor
  · rintro ⟨i1, i2, i3, i4, i5, i6⟩
    rw [m1] at i1; rw [m2] at i2; rw [m3] at i3; rw [m4] at i4; rw [v1, v2, v3, v4] at i5
    omega
  · rintro ⟨i1, i2, i3, i4, i5, i6⟩
    exact ⟨by rw [m1]; exact i1, by omega, by omega, by omega, by rw [v1, v2, v3, v4]; omega, by omega⟩
theorem lim_yes {d l n : Nat} (h1 : 1 ≤ d) (h2 : d ≤ 256) (h3 : n ≤ l) (h4 : l ≤ 10000) (hn : 1 ≤ n) (hn2 : n ≤ 40) : FindR (sLim d l) ((n * d : Nat) : Int) [n, 0, 0, 0] 0 := by
  have hb : n * d ≤ 40 * 256 := Nat.mul_le_mul hn2 h2
  have hp : 1 ≤ n * d := Nat.mul_pos hn h1
  refine .mk (by omega) (by omega) ((lim_f h1 (by omega) h4 (by omega)).2 ⟨h3, rfl, rfl, rfl, rfl, hn2⟩) fun a b c e f => ?_
  obtain ⟨i1, i2, i3, i4, i5, i6⟩ := (lim_f h1 (by omega) h4 (by omega)).1 f
  have : a = n := Nat.eq_of_mul_eq_mul_right h1 (by rw [i5]; rfl)
  omega
theorem lim_no {d l n : Nat} (h1 : 1 ≤ d) (h2 : d ≤ 256) (h4 : l ≤ 10000) (h5 : 0 < l) (hn : 1 ≤ n) (hn2 : n ≤ 42) (hno : l < n ∨ 40 < n) : FindR (sLim d l) ((n * d : Nat) : Int) [0, 0, 0, 0] 33 := by
  have hb : n * d ≤ 42 * 256 := Nat.mul_le_mul hn2 h2
  have hp : 1 ≤ n * d := Nat.mul_pos hn h1
  refine .no (by omega) (by omega) fun a b c e f => ?_
  obtain ⟨i1, i2, i3, i4, i5, i6⟩ := (lim_f h1 (by omega) h4 h5).1 f
  have : a = n := Nat.eq_of_mul_eq_mul_right h1 (by rw [i5]; rfl)
  omega
set_option maxHeartbeats 1600000 in
theorem mixLimits_c (t0 t1 t2 : Nat) (h0 : t0 < 256) (h1 : t1 < 256) (h2 : t2 < 256) (H : Heap) : ECalls Try.prog 5 #[.int .u8 t0, .int .u8 t1, .int .u8 t2] H fun v H' => v = .bool true ∧ Heap.le H H' := by
  refine ecalls_of_ewp (args := [_, _, _]) Try.func5 rfl rfl rfl (by simp [Try.ntmps5]) (by kernel_rfl) ?_
  simp (disch := first | omega | assumption | decide | (simp <;> omega) | fail) [facts, ]
  refine (known_c _).mono ?_
  rintro v H1 ⟨rfl, hle⟩
  obtain ⟨n, hn⟩ : ∃ n, n = 38 + t0 % 5 := ⟨_, rfl⟩
  obtain ⟨d, hd⟩ : ∃ d, d = t1 + 1 := ⟨_, rfl⟩
  obtain ⟨l, hl⟩ : ∃ l, l = n - t2 % 2 := ⟨_, rfl⟩
  have in1 : 38 + ((t0 : Int) % 5) = (n : Int) := by omega
  have in2 : (t1 : Int) + 1 = (d : Int) := by omega
  have in3 : (n : Int) - (t2 : Int) % 2 = (l : Int) := by omega
  obtain ⟨P, hP⟩ : ∃ P, P = n * d := ⟨_, rfl⟩
  have hPb : P ≤ 42 * 256 := by rw [hP]; exact Nat.mul_le_mul (by omega) (by omega)
  have in4 : (n : Int) * (d : Int) = (P : Int) := by rw [hP]; simp
  have hsp : splice (rep 16 (Value.int .i64 0)) 0 [.int .i64 d, .int .i64 l, .int .i64 0, .int .i64 0] = flat (sLim d l) := rfl
  have hsp2 : splice (rep 16 (Value.int .i64 0)) 0 (flat (sLim d l)) = flat (sLim d l) := rfl
  have hall : (flat (sLim d l)).all (·.oneCell') = true := rfl
  have hfl : (flat (sLim d l)).length = 16 := rfl
  have hft : List.take 16 (flat (sLim d l)) = flat (sLim d l) := rfl
  by_cases hok : n ≤ 40 ∧ t2 % 2 = 0
  · have c1 := fun H => find1 (sLim d l) (P : Int) (by unfold i64In; omega) (by rw [hP]; exact lim_yes (by omega) (by omega) (by omega) (by omega) (by omega) hok.1) H
    have nv : notesL [n, 0, 0, 0] = .agg #[.int .i64 n, .int .i64 0, .int .i64 0, .int .i64 0] := rfl
    rw [nv] at c1
    unfold setV at c1
    have q1 : (n : Int) ≤ 40 := by omega
    have q2 : (t2 : Int) % 2 = 0 := by omega
    simp (disch := first | omega | assumption | decide | (simp <;> omega) | fail) [facts, in1, in2, in3]
    refine fresh_intro fun b8 hb8 => ?_
    simp (disch := first | omega | assumption | decide | (simp <;> omega) | fail) [facts, in1, in2, in3, in4, hsp, hsp2, hall, hft, hfl, upd_upd]
    replace hle := Heap.le_trans hle (le_upd (.row true 0 (flat (sLim d l)) 0) hb8)
    generalize upd H1 b8 (.row true 0 (flat (sLim d l)) 0) = H2 at *
    refine (c1 _).mono ?_
    rintro v H3 ⟨rfl, hle2⟩
    replace hle := Heap.le_trans hle hle2
    clear hb8 hle2
    simp (disch := first | omega | assumption | decide | (simp <;> omega) | fail) [facts, ]
    refine fresh_intro fun b9 hb9 => ?_
    simp (disch := first | omega | assumption | decide | (simp <;> omega) | fail) [facts, upd_upd, q1, q2]
    exact ⟨_, Heap.le_refl _, Heap.le_trans hle (le_upd _ hb9)⟩
  · have c1 := fun H => find1 (sLim d l) (P : Int) (by unfold i64In; omega) (by rw [hP]; exact lim_no (by omega) (by omega) (by omega) (by omega) (by omega) (by omega) (by omega)) H
    have nv : notesL [0, 0, 0, 0] = .agg #[.int .i64 0, .int .i64 0, .int .i64 0, .int .i64 0] := rfl
    rw [nv] at c1
    unfold setV at c1
    simp (disch := first | omega | assumption | decide | (simp <;> omega) | fail) [facts, in1, in2, in3]
    refine fresh_intro fun b8 hb8 => ?_
    simp (disch := first | omega | assumption | decide | (simp <;> omega) | fail) [facts, in1, in2, in3, in4, hsp, hsp2, hall, hft, hfl, upd_upd]
    replace hle := Heap.le_trans hle (le_upd (.row true 0 (flat (sLim d l)) 0) hb8)
    generalize upd H1 b8 (.row true 0 (flat (sLim d l)) 0) = H2 at *
    refine (c1 _).mono ?_
    rintro v H3 ⟨rfl, hle2⟩
    replace hle := Heap.le_trans hle hle2
    clear hb8 hle2
    simp (disch := first | omega | assumption | decide | (simp <;> omega) | fail) [facts, ]
    refine fresh_intro fun b9 hb9 => ?_
    by_cases q1 : (n : Int) ≤ 40
    · have q2 : ¬ (t2 : Int) % 2 = 0 := by omega
      simp (disch := first | omega | assumption | decide | (simp <;> omega) | fail) [facts, upd_upd, q1, q2]
      exact ⟨_, Heap.le_refl _, Heap.le_trans hle (le_upd _ hb9)⟩
    · simp (disch := first | omega | assumption | decide | (simp <;> omega) | fail) [facts, upd_upd, q1]
      exact ⟨_, Heap.le_refl _, Heap.le_trans hle (le_upd _ hb9)⟩
end Go.Proofs.Ytiaigpkaajnpoaa.GL
