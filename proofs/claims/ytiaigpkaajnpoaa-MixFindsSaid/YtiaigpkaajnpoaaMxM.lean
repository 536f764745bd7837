/- Layer 17: the law of the first cassettes, walked. -/
import Derived.Test.YtiaigpkaajnpoaaMxL
namespace Go.Proofs.Ytiaigpkaajnpoaa.GL
open Go Go.RowKit
set_option maxRecDepth 10000
set_option pp.deepTerms.threshold 8
set_option pp.maxSteps 3000
set_option linter.unusedSimpArgs false
set_option linter.unusedVariables false

theorem cs_xv {d l x : Nat} (h1 : 1 ≤ d) (h2 : d ≤ 100000) (h3 : l ≤ 10000) (hx : x ≤ l) : x * (Cs.mk d l 0 0).v = x * d := by
  rw [cs_v h1 h2 h3]
  split
  · rfl
  · obtain rfl : x = 0 := by omega
    simp
def sFir (d l m n : Nat) : S4 := ⟨⟨d, l, 0, 0⟩, ⟨d, m, 0, 0⟩, ⟨d, n, 0, 0⟩, zC⟩
theorem fir_f {d l m n N a b c e : Nat} (h1 : 1 ≤ d) (h2 : d ≤ 100000) (hl : l ≤ 10000) (hm : m ≤ 10000) (hn : n ≤ 10000) :
    F4 (sFir d l m n) N a b c e ↔ a ≤ l ∧ b ≤ m ∧ c ≤ n ∧ e = 0 ∧ (a + b + c) * d = N ∧ a + b + c ≤ 40 := by
  have m1 : (sFir d l m n).a.m = l := cs_m h1 h2 hl
  have m2 : (sFir d l m n).b.m = m := cs_m h1 h2 hm
  have m3 : (sFir d l m n).c.m = n := cs_m h1 h2 hn
  have m4 : (sFir d l m n).e.m = 0 := rfl
  have v4 : (sFir d l m n).e.v = 0 := rfl
  constructor
  · rintro ⟨i1, i2, i3, i4, i5, i6⟩
    rw [m1] at i1; rw [m2] at i2; rw [m3] at i3; rw [m4] at i4
    have x1 : a * (sFir d l m n).a.v = a * d := cs_xv h1 h2 hl i1
    have x2 : b * (sFir d l m n).b.v = b * d := cs_xv h1 h2 hm i2
    have x3 : c * (sFir d l m n).c.v = c * d := cs_xv h1 h2 hn i3
    rw [v4, x1, x2, x3] at i5
    exact ⟨i1, i2, i3, by omega, by rw [Nat.add_mul, Nat.add_mul]; omega, by omega⟩
  · rintro ⟨i1, i2, i3, i4, i5, i6⟩
    have x1 : a * (sFir d l m n).a.v = a * d := cs_xv h1 h2 hl i1
    have x2 : b * (sFir d l m n).b.v = b * d := cs_xv h1 h2 hm i2
    have x3 : c * (sFir d l m n).c.v = c * d := cs_xv h1 h2 hn i3
    rw [Nat.add_mul, Nat.add_mul] at i5
    exact ⟨by rw [m1]; exact i1, by rw [m2]; exact i2, by rw [m3]; exact i3, by omega, by rw [v4, x1, x2, x3]; omega, by omega⟩
theorem fir_yes {d l m n k a b c : Nat} (h1 : 1 ≤ d) (h2 : d ≤ 256) (hl : l ≤ 10000) (hm : m ≤ 10000) (hn : n ≤ 10000) (hk : 1 ≤ k) (hk2 : k ≤ 40) (ha : a = min k l) (hb : b = min (k - a) m) (hc : c = k - a - b) (hcn : c ≤ n) :
    FindR (sFir d l m n) ((k * d : Nat) : Int) [a, b, c, 0] 0 := by
  have hbd : k * d ≤ 40 * 256 := Nat.mul_le_mul hk2 h2
  have hp : 1 ≤ k * d := Nat.mul_pos hk h1
  refine .mk (by omega) (by omega) ((fir_f h1 (by omega) hl hm hn).2 ⟨by omega, by omega, by omega, rfl, by rw [show a + b + c = k by omega]; rfl, by omega⟩) fun x y z e f => ?_
  obtain ⟨i1, i2, i3, i4, i5, i6⟩ := (fir_f h1 (by omega) hl hm hn).1 f
  have : x + y + z = k := Nat.eq_of_mul_eq_mul_right h1 (by rw [i5]; rfl)
  omega
theorem fir_no {d l m n k a b c : Nat} (h1 : 1 ≤ d) (h2 : d ≤ 256) (hl : l ≤ 10000) (hm : m ≤ 10000) (hn : n ≤ 10000) (hk : 1 ≤ k) (hk2 : k ≤ 40) (ha : a = min k l) (hb : b = min (k - a) m) (hc : c = k - a - b) (hcn : ¬ c ≤ n) :
    FindR (sFir d l m n) ((k * d : Nat) : Int) [0, 0, 0, 0] 33 := by
  have hbd : k * d ≤ 40 * 256 := Nat.mul_le_mul hk2 h2
  have hp : 1 ≤ k * d := Nat.mul_pos hk h1
  refine .no (by omega) (by omega) fun x y z e f => ?_
  obtain ⟨i1, i2, i3, i4, i5, i6⟩ := (fir_f h1 (by omega) hl hm hn).1 f
  have : x + y + z = k := Nat.eq_of_mul_eq_mul_right h1 (by rw [i5]; rfl)
  omega
set_option maxHeartbeats 1600000 in
theorem mixFirst_c (t0 t1 t2 t3 t4 : Nat) (h0 : t0 < 256) (h1 : t1 < 256) (h2 : t2 < 256) (h3 : t3 < 256) (h4 : t4 < 256) (H : Heap) : ECalls Try.prog 7 #[.int .u8 t0, .int .u8 t1, .int .u8 t2, .int .u8 t3, .int .u8 t4] H fun v H' => v = .bool true ∧ Heap.le H H' := by
  refine ecalls_of_ewp (args := [_, _, _, _, _]) Try.func7 rfl rfl rfl (by simp [Try.ntmps7]) (by kernel_rfl) ?_
  simp (disch := first | omega | assumption | decide | (simp <;> omega) | fail) [facts, ]
  refine (known_c _).mono ?_
  rintro v H1 ⟨rfl, hle⟩
  obtain ⟨d, hd⟩ : ∃ d, d = t0 + 1 := ⟨_, rfl⟩
  obtain ⟨l, hl⟩ : ∃ l, l = t1 % 20 := ⟨_, rfl⟩
  obtain ⟨m, hm⟩ : ∃ m, m = t2 % 20 := ⟨_, rfl⟩
  obtain ⟨n, hn⟩ : ∃ n, n = t3 % 20 := ⟨_, rfl⟩
  obtain ⟨k, hk⟩ : ∃ k, k = t4 % 40 + 1 := ⟨_, rfl⟩
  obtain ⟨a, ha⟩ : ∃ a, a = min k l := ⟨_, rfl⟩
  obtain ⟨b, hb⟩ : ∃ b, b = min (k - a) m := ⟨_, rfl⟩
  obtain ⟨c, hc⟩ : ∃ c, c = k - a - b := ⟨_, rfl⟩
  have id : (t0 : Int) + 1 = (d : Int) := by omega
  have il : (t1 : Int) % 20 = (l : Int) := by omega
  have im : (t2 : Int) % 20 = (m : Int) := by omega
  have in' : (t3 : Int) % 20 = (n : Int) := by omega
  have ik : (t4 : Int) % 40 + 1 = (k : Int) := by omega
  have ia : min (k : Int) (l : Int) = (a : Int) := by omega
  have ib : min ((k : Int) - (a : Int)) (m : Int) = (b : Int) := by omega
  have ic : (k : Int) - (a : Int) - (b : Int) = (c : Int) := by omega
  obtain ⟨P, hP⟩ : ∃ P, P = k * d := ⟨_, rfl⟩
  have hPb : P ≤ 40 * 256 := by rw [hP]; exact Nat.mul_le_mul (by omega) (by omega)
  have iP : (k : Int) * (d : Int) = (P : Int) := by rw [hP]; simp
  have hsp : splice (splice (splice (rep 16 (Value.int .i64 0)) 0 [.int .i64 d, .int .i64 l, .int .i64 0, .int .i64 0]) 4 [.int .i64 d, .int .i64 m, .int .i64 0, .int .i64 0]) 8 [.int .i64 d, .int .i64 n, .int .i64 0, .int .i64 0] = flat (sFir d l m n) := rfl
  have hs1 : (splice (rep 16 (Value.int .i64 0)) 0 [.int .i64 d, .int .i64 l, .int .i64 0, .int .i64 0]).length = 16 := rfl
  have hs2 : (splice (splice (rep 16 (Value.int .i64 0)) 0 [.int .i64 d, .int .i64 l, .int .i64 0, .int .i64 0]) 4 [.int .i64 d, .int .i64 m, .int .i64 0, .int .i64 0]).length = 16 := rfl
  have hsp2 : splice (rep 16 (Value.int .i64 0)) 0 (flat (sFir d l m n)) = flat (sFir d l m n) := rfl
  have hall : (flat (sFir d l m n)).all (·.oneCell') = true := rfl
  have hfl : (flat (sFir d l m n)).length = 16 := rfl
  have hft : List.take 16 (flat (sFir d l m n)) = flat (sFir d l m n) := rfl
  by_cases hok : c ≤ n
  · have c1 := fun H => find1 (sFir d l m n) (P : Int) (by unfold i64In; omega) (by rw [hP]; exact fir_yes (by omega) (by omega) (by omega) (by omega) (by omega) (by omega) (by omega) ha hb hc hok) H
    have nv : notesL [a, b, c, 0] = .agg #[.int .i64 a, .int .i64 b, .int .i64 c, .int .i64 0] := rfl
    rw [nv] at c1
    unfold setV at c1
    have q1 : ¬ (n : Int) < (c : Int) := by omega
    simp (disch := first | omega | assumption | decide | (simp <;> omega) | fail) [facts, id, il, im, in', ik, hs1, hs2]
    refine fresh_intro fun b8 hb8 => ?_
    simp (disch := first | omega | assumption | decide | (simp <;> omega) | fail) [facts, id, il, im, in', ik, ia, ib, ic, iP, hsp, hsp2, hall, hft, hfl, upd_upd]
    replace hle := Heap.le_trans hle (le_upd (.row true 0 (flat (sFir d l m n)) 0) hb8)
    generalize upd H1 b8 (.row true 0 (flat (sFir d l m n)) 0) = H2 at *
    refine (c1 _).mono ?_
    rintro v H3 ⟨rfl, hle2⟩
    replace hle := Heap.le_trans hle hle2
    clear hb8 hle2
    simp (disch := first | omega | assumption | decide | (simp <;> omega) | fail) [facts, ]
    refine fresh_intro fun b9 hb9 => ?_
    simp (disch := first | omega | assumption | decide | (simp <;> omega) | fail) [facts, upd_upd, in', q1]
    exact ⟨_, Heap.le_refl _, Heap.le_trans hle (le_upd _ hb9)⟩
  · have c1 := fun H => find1 (sFir d l m n) (P : Int) (by unfold i64In; omega) (by rw [hP]; exact fir_no (by omega) (by omega) (by omega) (by omega) (by omega) (by omega) (by omega) ha hb hc hok) H
    have nv : notesL [0, 0, 0, 0] = .agg #[.int .i64 0, .int .i64 0, .int .i64 0, .int .i64 0] := rfl
    rw [nv] at c1
    unfold setV at c1
    have q1 : (n : Int) < (c : Int) := by omega
    simp (disch := first | omega | assumption | decide | (simp <;> omega) | fail) [facts, id, il, im, in', ik, hs1, hs2]
    refine fresh_intro fun b8 hb8 => ?_
    simp (disch := first | omega | assumption | decide | (simp <;> omega) | fail) [facts, id, il, im, in', ik, ia, ib, ic, iP, hsp, hsp2, hall, hft, hfl, upd_upd]
    replace hle := Heap.le_trans hle (le_upd (.row true 0 (flat (sFir d l m n)) 0) hb8)
    generalize upd H1 b8 (.row true 0 (flat (sFir d l m n)) 0) = H2 at *
    refine (c1 _).mono ?_
    rintro v H3 ⟨rfl, hle2⟩
    replace hle := Heap.le_trans hle hle2
    clear hb8 hle2
    simp (disch := first | omega | assumption | decide | (simp <;> omega) | fail) [facts, ]
    refine fresh_intro fun b9 hb9 => ?_
    simp (disch := first | omega | assumption | decide | (simp <;> omega) | fail) [facts, upd_upd, in', q1]
    exact ⟨_, Heap.le_refl _, Heap.le_trans hle (le_upd _ hb9)⟩
end Go.Proofs.Ytiaigpkaajnpoaa.GL
