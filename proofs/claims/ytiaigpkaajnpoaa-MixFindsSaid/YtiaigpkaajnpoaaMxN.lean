/- Layer 17: the law of the fewest notes, walked. -/
import Derived.Test.YtiaigpkaajnpoaaMxM
namespace Go.Proofs.Ytiaigpkaajnpoaa.GL
open Go Go.RowKit
set_option maxRecDepth 10000
set_option pp.deepTerms.threshold 8
set_option pp.maxSteps 3000
set_option linter.unusedSimpArgs false
set_option linter.unusedVariables false

def sFew (d l g n : Nat) : S4 := ⟨⟨d, l, 0, 0⟩, zC, ⟨g, n, 0, 0⟩, zC⟩
theorem few_f {d l g n N a b c e : Nat} (h1 : 1 ≤ d) (h2 : d ≤ 100000) (h3 : 1 ≤ g) (h4 : g ≤ 100000) (hl : l ≤ 10000) (hn : n ≤ 10000) :
    F4 (sFew d l g n) N a b c e ↔ a ≤ l ∧ b = 0 ∧ c ≤ n ∧ e = 0 ∧ a * d + c * g = N ∧ a + c ≤ 40 := by
  have m1 : (sFew d l g n).a.m = l := cs_m h1 h2 hl
  have m2 : (sFew d l g n).b.m = 0 := rfl
  have m3 : (sFew d l g n).c.m = n := cs_m h3 h4 hn
  have m4 : (sFew d l g n).e.m = 0 := rfl
  have v2 : (sFew d l g n).b.v = 0 := rfl
  have v4 : (sFew d l g n).e.v = 0 := rfl
  constructor
  · rintro ⟨i1, i2, i3, i4, i5, i6⟩
    rw [m1] at i1; rw [m2] at i2; rw [m3] at i3; rw [m4] at i4
    have x1 : a * (sFew d l g n).a.v = a * d := cs_xv h1 h2 hl i1
    have x3 : c * (sFew d l g n).c.v = c * g := cs_xv h3 h4 hn i3
    rw [v2, v4, x1, x3] at i5
    exact ⟨i1, by omega, i3, by omega, by omega, by omega⟩
  · rintro ⟨i1, i2, i3, i4, i5, i6⟩
    have x1 : a * (sFew d l g n).a.v = a * d := cs_xv h1 h2 hl i1
    have x3 : c * (sFew d l g n).c.v = c * g := cs_xv h3 h4 hn i3
    exact ⟨by rw [m1]; exact i1, by omega, by rw [m3]; exact i3, by omega, by rw [v2, v4, x1, x3]; omega, by omega⟩
/-- What was the best of those looked at. -/
structure Few (d g l n N : Nat) (S : Nat → Nat → Prop) (best bx : Nat) : Prop where
  le : best ≤ 41
  is : best ≤ 40 → bx ≤ best ∧ bx ≤ l ∧ best - bx ≤ n ∧ bx * d + (best - bx) * g = N
  low : ∀ x y, S x y → x * d + y * g = N → best ≤ x + y ∧ (x + y = best → x ≤ bx)
  bx : bx ≤ 10000
theorem Few.findR {d g l n N : Nat} {best bx : Nat} (h : Few d g l n N (fun x y => x ≤ l ∧ y ≤ n) best bx) (h1 : 1 ≤ d) (h2 : d ≤ 100000) (h3 : 1 ≤ g) (h4 : g ≤ 100000) (hl : l ≤ 10000) (hn : n ≤ 10000) (hN : 1 ≤ N) (hN2 : N ≤ 1000000) :
    (best ≤ 40 → FindR (sFew d l g n) (N : Int) [bx, 0, best - bx, 0] 0) ∧ (40 < best → FindR (sFew d l g n) (N : Int) [0, 0, 0, 0] 33) := by
  constructor
  · intro hb
    obtain ⟨k1, k2, k3, k4⟩ := h.is hb
    refine .mk (by omega) (by omega) ((few_f h1 h2 h3 h4 hl hn).2 ⟨k2, rfl, k3, rfl, k4, by omega⟩) fun x y z e f => ?_
    obtain ⟨i1, i2, i3, i4, i5, i6⟩ := (few_f h1 h2 h3 h4 hl hn).1 f
    have := h.low x z ⟨i1, i3⟩ i5
    omega
  · intro hb
    refine .no (by omega) (by omega) fun x y z e f => ?_
    obtain ⟨i1, i2, i3, i4, i5, i6⟩ := (few_f h1 h2 h3 h4 hl hn).1 f
    have := h.low x z ⟨i1, i3⟩ i5
    omega
def seen (n x y x' y' : Nat) : Prop := y' ≤ n ∧ (x' < x ∨ x' = x ∧ y' < y)
theorem Few.skip {d g l n N x y best bx : Nat} (h : Few d g l n N (seen n x y) best bx) (hno : ¬ (x * d + y * g = N ∧ (x + y < best ∨ x + y = best ∧ bx < x))) : Few d g l n N (seen n x (y + 1)) best bx := by
  refine ⟨h.le, h.is, fun x' y' hs he => ?_, h.bx⟩
  by_cases e : x' = x ∧ y' = y
  · obtain ⟨rfl, rfl⟩ := e
    have hno' : ¬ (x' + y' < best ∨ x' + y' = best ∧ bx < x') := fun h => hno ⟨he, h⟩
    omega
  · exact h.low x' y' ⟨hs.1, by have := hs.2; omega⟩ he
theorem Few.take {d g l n N x y best bx : Nat} (h : Few d g l n N (seen n x y) best bx) (hx : x ≤ l) (hy : y ≤ n) (he : x * d + y * g = N) (hb : x + y < best ∨ x + y = best ∧ bx < x) (hl : l ≤ 10000) : Few d g l n N (seen n x (y + 1)) (x + y) x := by
  have := h.le
  refine ⟨by omega, fun _ => ⟨by omega, hx, by omega, by rw [show x + y - x = y by omega]; exact he⟩, fun x' y' hs he' => ?_, by omega⟩
  by_cases e : x' = x ∧ y' = y
  · omega
  · have := h.low x' y' ⟨hs.1, by have := hs.2; omega⟩ he'
    omega
theorem Few.line {d g l n N x best bx : Nat} (h : Few d g l n N (seen n x (n + 1)) best bx) : Few d g l n N (seen n (x + 1) 0) best bx :=
  ⟨h.le, h.is, fun x' y' hs he => h.low x' y' ⟨hs.1, by have := hs.1; have := hs.2; omega⟩ he, h.bx⟩
theorem Few.all {d g l n N best bx : Nat} (h : Few d g l n N (seen n (l + 1) 0) best bx) : Few d g l n N (fun x y => x ≤ l ∧ y ≤ n) best bx :=
  ⟨h.le, h.is, fun x' y' hs he => h.low x' y' ⟨hs.2, by omega⟩ he, h.bx⟩
theorem Few.begin {d g l n N : Nat} : Few d g l n N (seen n 0 0) 41 0 :=
  ⟨by omega, fun h => by omega, fun x y hs he => by have := hs.2; omega, by omega⟩
def fewB (H : Heap) (t2 t3 d g N b13 : Nat) (s : S4) (st : St) : Prop :=
  st.env 2 = .int .u8 t2 ∧ st.env 3 = .int .u8 t3 ∧ st.env 10 = .bool false ∧ st.env 11 = .int .i64 d ∧ st.env 12 = .int .i64 g ∧ st.env 13 = .pointer (some ⟨b13, 0, none⟩) ∧ st.env 14 = .int .i64 N ∧ st.heap = H
def few1Inv (H : Heap) (t2 t3 d g l n N b13 : Nat) (st : St) : Prop :=
  fewB H t2 t3 d g N b13 (sFew d l g n) st ∧ ∃ x best bx : Nat, x ≤ l + 1 ∧ st.env 17 = .int .i64 x ∧ st.env 15 = .int .i64 best ∧ st.env 16 = .int .i64 bx ∧ Few d g l n N (seen n x 0) best bx
def few2Inv (H : Heap) (t2 t3 d g l n N b13 x : Nat) (st : St) : Prop :=
  fewB H t2 t3 d g N b13 (sFew d l g n) st ∧ st.env 17 = .int .i64 x ∧ ∃ y best bx : Nat, y ≤ n + 1 ∧ st.env 18 = .int .i64 y ∧ st.env 15 = .int .i64 best ∧ st.env 16 = .int .i64 bx ∧ Few d g l n N (seen n x y) best bx
set_option maxHeartbeats 1600000 in
theorem mixFew_c (t0 t1 t2 t3 t4 : Nat) (h0 : t0 < 256) (h1 : t1 < 256) (h2 : t2 < 256) (h3 : t3 < 256) (h4 : t4 < 65536) (H : Heap) : ECalls Try.prog 6 #[.int .u8 t0, .int .u8 t1, .int .u8 t2, .int .u8 t3, .int .u16 t4] H fun v H' => v = .bool true ∧ Heap.le H H' := by
  refine ecalls_of_ewp (args := [_, _, _, _, _]) Try.func6 rfl rfl rfl (by simp [Try.ntmps6]) (by kernel_rfl) ?_
  simp (disch := first | omega | assumption | decide | (simp <;> omega) | fail) [facts, ]
  refine (known_c _).mono ?_
  rintro v H1 ⟨rfl, hle⟩
  obtain ⟨d, hd⟩ : ∃ d, d = t0 % 20 + 1 := ⟨_, rfl⟩
  obtain ⟨g, hg⟩ : ∃ d, d = t1 % 20 + 1 := ⟨_, rfl⟩
  obtain ⟨l, hl⟩ : ∃ l, l = t2 % 50 := ⟨_, rfl⟩
  obtain ⟨n, hn⟩ : ∃ n, n = t3 % 50 := ⟨_, rfl⟩
  obtain ⟨N, hN⟩ : ∃ k, k = t4 % 600 + 1 := ⟨_, rfl⟩
  have id : (t0 : Int) % 20 + 1 = (d : Int) := by omega
  have ig : (t1 : Int) % 20 + 1 = (g : Int) := by omega
  have il : (t2 : Int) % 50 = (l : Int) := by omega
  have in' : (t3 : Int) % 50 = (n : Int) := by omega
  have iN : (t4 : Int) % 600 + 1 = (N : Int) := by omega
  have hsp : splice (splice (splice (rep 16 (Value.int .i64 0)) 0 [.int .i64 d, .int .i64 l, .int .i64 0, .int .i64 0]) 4 [.int .i64 0, .int .i64 0, .int .i64 0, .int .i64 0]) 8 [.int .i64 g, .int .i64 n, .int .i64 0, .int .i64 0] = flat (sFew d l g n) := rfl
  have hs1 : (splice (rep 16 (Value.int .i64 0)) 0 [.int .i64 d, .int .i64 l, .int .i64 0, .int .i64 0]).length = 16 := rfl
  have hs2 : (splice (splice (rep 16 (Value.int .i64 0)) 0 [.int .i64 d, .int .i64 l, .int .i64 0, .int .i64 0]) 4 [.int .i64 0, .int .i64 0, .int .i64 0, .int .i64 0]).length = 16 := rfl
  have hsp2 : splice (rep 16 (Value.int .i64 0)) 0 (flat (sFew d l g n)) = flat (sFew d l g n) := rfl
  have hall : (flat (sFew d l g n)).all (·.oneCell') = true := rfl
  have hfl : (flat (sFew d l g n)).length = 16 := rfl
  have hft : List.take 16 (flat (sFew d l g n)) = flat (sFew d l g n) := rfl
  simp (disch := first | omega | assumption | decide | (simp <;> omega) | fail) [facts, id, ig, il, in', hs1, hs2]
  refine fresh_intro fun b8 hb8 => ?_
  simp (disch := first | omega | assumption | decide | (simp <;> omega) | fail) [facts, id, il, in', ig, iN, hsp, hsp2, hall, hft, hfl, upd_upd]
  replace hle := Heap.le_trans hle (le_upd (.row true 0 (flat (sFew d l g n)) 0) hb8)
  have r8 := upd_same H1 b8 (.row true 0 (flat (sFew d l g n)) 0)
  generalize upd H1 b8 (.row true 0 (flat (sFew d l g n)) 0) = H2 at *
  refine w_loop (few1Inv H2 t2 t3 d g l n N b8) (fun st => l + 1 - (intOf (st.env 17)).toNat) ?_ ?_
  · exact ⟨⟨by simp, by simp, by simp, by simp, by simp, by simp, by simp, rfl⟩, 0, 41, 0, by omega, by simp, by simp, by simp, Few.begin⟩
  rintro ⟨env, G⟩ ⟨⟨e2, e3, e10, e11, e12, e13, e14, rfl⟩, x, best, bx, hx, e17, e15, e16, fw⟩
  simp only at e2 e3 e10 e11 e12 e13 e14 e15 e16 e17 r8 hle
  by_cases hxl : x ≤ l
  case neg =>
    obtain rfl : x = l + 1 := by omega
    have q1 : ¬ (l : Int) + 1 ≤ (l : Int) := by omega
    obtain ⟨f1, f2⟩ := fw.all.findR (by omega) (by omega) (by omega) (by omega) (by omega) (by omega) (by omega) (by omega)
    have fle := fw.le
    have fbx := fw.bx
    by_cases hb : best ≤ 40
    · have f3 := f1 hb
      obtain ⟨k1, k2, k3, k4⟩ := fw.is hb
      have q2 : ¬ (40 : Int) < (best : Int) := by omega
      have q3 : (best : Int) - (bx : Int) = ((best - bx : Nat) : Int) := by omega
      have c1 := fun H => find1 (sFew d l g n) (N : Int) (by unfold i64In; omega) f3 H
      have nv : notesL [bx, 0, best - bx, 0] = .agg #[.int .i64 bx, .int .i64 0, .int .i64 ((best - bx : Nat) : Int), .int .i64 0] := rfl
      rw [nv] at c1
      unfold setV at c1
      simp (disch := first | omega | assumption | decide | (simp <;> omega) | fail) [facts, e2, e3, e10, e11, e12, e13, e14, e15, e16, e17, il, q1, r8, hft, hfl]
      refine (c1 _).mono ?_
      rintro v H3 ⟨rfl, hle2⟩
      replace hle := Heap.le_trans hle hle2
      simp (disch := first | omega | assumption | decide | (simp <;> omega) | fail) [facts, ]
      refine fresh_intro fun b9 hb9 => ?_
      simp (disch := first | omega | assumption | decide | (simp <;> omega) | fail) [facts, e2, e3, e10, e11, e12, e13, e14, e15, e16, e17, upd_upd, q2, q3]
      exact ⟨_, Heap.le_refl _, Heap.le_trans hle (le_upd _ hb9)⟩
    · have f3 := f2 (by omega)
      have q2 : (40 : Int) < (best : Int) := by omega
      have c1 := fun H => find1 (sFew d l g n) (N : Int) (by unfold i64In; omega) f3 H
      have nv : notesL [0, 0, 0, 0] = .agg #[.int .i64 0, .int .i64 0, .int .i64 0, .int .i64 0] := rfl
      rw [nv] at c1
      unfold setV at c1
      simp (disch := first | omega | assumption | decide | (simp <;> omega) | fail) [facts, e2, e3, e10, e11, e12, e13, e14, e15, e16, e17, il, q1, r8, hft, hfl]
      refine (c1 _).mono ?_
      rintro v H3 ⟨rfl, hle2⟩
      replace hle := Heap.le_trans hle hle2
      simp (disch := first | omega | assumption | decide | (simp <;> omega) | fail) [facts, ]
      refine fresh_intro fun b9 hb9 => ?_
      simp (disch := first | omega | assumption | decide | (simp <;> omega) | fail) [facts, e2, e3, e10, e11, e12, e13, e14, e15, e16, e17, upd_upd, q2]
      exact ⟨_, Heap.le_refl _, Heap.le_trans hle (le_upd _ hb9)⟩
  have q1 : (x : Int) ≤ (l : Int) := by omega
  simp (disch := first | omega | assumption | decide | (simp <;> omega) | fail) [facts, e2, e3, e10, e11, e12, e13, e14, e15, e16, e17, il, q1]
  refine w_loop (few2Inv G t2 t3 d g l n N b8 x) (fun st => n + 1 - (intOf (st.env 18)).toNat) ?_ ?_
  · exact ⟨⟨by simp [e2], by simp [e3], by simp [e10], by simp [e11], by simp [e12], by simp [e13], by simp [e14], rfl⟩, by simp [e17], 0, best, bx, by omega, by simp, by simp [e15], by simp [e16], fw⟩
  clear e2 e3 e10 e11 e12 e13 e14 e15 e16 e17 fw
  rintro ⟨env, G'⟩ ⟨⟨e2, e3, e10, e11, e12, e13, e14, rfl⟩, e17, y, best, bx, hy, e18, e15, e16, fw⟩
  simp only at e2 e3 e10 e11 e12 e13 e14 e15 e16 e17 e18 r8 hle
  by_cases hyn : y ≤ n
  case neg =>
    obtain rfl : y = n + 1 := by omega
    have q3 : ¬ (n : Int) + 1 ≤ (n : Int) := by omega
    simp (disch := first | omega | assumption | decide | (simp <;> omega) | fail) [facts, e2, e3, e10, e11, e12, e13, e14, e15, e16, e17, e18, in', q3]
    exact ⟨_, Heap.le_refl _, ⟨⟨by simp [e2], by simp [e3], by simp [e10], by simp [e11], by simp [e12], by simp [e13], by simp [e14], rfl⟩, x + 1, best, bx, by omega, by simp, by simp [e15], by simp [e16], fw.line⟩, by simp [intOf]; omega⟩
  have q3 : (y : Int) ≤ (n : Int) := by omega
  obtain ⟨P, hP⟩ : ∃ P, P = x * d := ⟨_, rfl⟩
  obtain ⟨R, hR⟩ : ∃ P, P = y * g := ⟨_, rfl⟩
  have lP : P ≤ 50 * 20 := by rw [hP]; exact Nat.mul_le_mul (by omega) (by omega)
  have lR : R ≤ 50 * 20 := by rw [hR]; exact Nat.mul_le_mul (by omega) (by omega)
  have iP : (x : Int) * (d : Int) = (P : Int) := by rw [hP]; simp
  have iR : (y : Int) * (g : Int) = (R : Int) := by rw [hR]; simp
  have fle := fw.le
  have fbx := fw.bx
  by_cases hq : x * d + y * g = N ∧ (x + y < best ∨ x + y = best ∧ bx < x)
  · have fw' := fw.take hxl hyn hq.1 hq.2 (by omega)
    obtain ⟨hq1, hq2⟩ := hq
    rw [← hP, ← hR] at hq1
    have q4 : (P : Int) + (R : Int) = (N : Int) := by omega
    have fin : few2Inv G' t2 t3 d g l n N b8 x = few2Inv G' t2 t3 d g l n N b8 x := rfl
    by_cases q5 : (x : Int) + (y : Int) < (best : Int)
    · simp (disch := first | omega | assumption | decide | (simp <;> omega) | fail) [facts, e2, e3, e10, e11, e12, e13, e14, e15, e16, e17, e18, in', q3, iP, iR, q4, q5]
      exact ⟨_, Heap.le_refl _, ⟨⟨by simp [e2], by simp [e3], by simp [e10], by simp [e11], by simp [e12], by simp [e13], by simp [e14], rfl⟩, by simp [e17], y + 1, x + y, x, by omega, by simp, by simp, by simp, fw'⟩, by simp [intOf, e18]; omega⟩
    · have q6 : (x : Int) + (y : Int) = (best : Int) := by omega
      have q7 : (bx : Int) < (x : Int) := by omega
      simp (disch := first | omega | assumption | decide | (simp <;> omega) | fail) [facts, e2, e3, e10, e11, e12, e13, e14, e15, e16, e17, e18, in', q3, iP, iR, q4, q5, q6, q7]
      exact ⟨_, Heap.le_refl _, ⟨⟨by simp [e2], by simp [e3], by simp [e10], by simp [e11], by simp [e12], by simp [e13], by simp [e14], rfl⟩, by simp [e17], y + 1, x + y, x, by omega, by simp, by simp [q6], by simp, fw'⟩, by simp [intOf, e18]; omega⟩
  · have fw' := fw.skip hq
    rw [← hP, ← hR] at hq
    by_cases q4 : (P : Int) + (R : Int) = (N : Int)
    · have hq2 : ¬ (x + y < best ∨ x + y = best ∧ bx < x) := fun h => hq ⟨by omega, h⟩
      have q5 : ¬ (x : Int) + (y : Int) < (best : Int) := by omega
      by_cases q6 : (x : Int) + (y : Int) = (best : Int)
      · have q7 : ¬ (bx : Int) < (x : Int) := by omega
        simp (disch := first | omega | assumption | decide | (simp <;> omega) | fail) [facts, e2, e3, e10, e11, e12, e13, e14, e15, e16, e17, e18, in', q3, iP, iR, q4, q5, q6, q7]
        exact ⟨_, Heap.le_refl _, ⟨⟨by simp [e2], by simp [e3], by simp [e10], by simp [e11], by simp [e12], by simp [e13], by simp [e14], rfl⟩, by simp [e17], y + 1, best, bx, by omega, by simp, by simp [e15], by simp [e16], fw'⟩, by simp [intOf, e18]; omega⟩
      · simp (disch := first | omega | assumption | decide | (simp <;> omega) | fail) [facts, e2, e3, e10, e11, e12, e13, e14, e15, e16, e17, e18, in', q3, iP, iR, q4, q5, q6]
        exact ⟨_, Heap.le_refl _, ⟨⟨by simp [e2], by simp [e3], by simp [e10], by simp [e11], by simp [e12], by simp [e13], by simp [e14], rfl⟩, by simp [e17], y + 1, best, bx, by omega, by simp, by simp [e15], by simp [e16], fw'⟩, by simp [intOf, e18]; omega⟩
    · simp (disch := first | omega | assumption | decide | (simp <;> omega) | fail) [facts, e2, e3, e10, e11, e12, e13, e14, e15, e16, e17, e18, in', q3, iP, iR, q4]
      exact ⟨_, Heap.le_refl _, ⟨⟨by simp [e2], by simp [e3], by simp [e10], by simp [e11], by simp [e12], by simp [e13], by simp [e14], rfl⟩, by simp [e17], y + 1, best, bx, by omega, by simp, by simp [e15], by simp [e16], fw'⟩, by simp [intOf, e18]; omega⟩
end Go.Proofs.Ytiaigpkaajnpoaa.GL
