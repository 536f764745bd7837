/- Layer 17: the law that what can be made is made, walked. -/
import Derived.Test.YtiaigpkaajnpoaaMxO
namespace Go.Proofs.Ytiaigpkaajnpoaa.GL
open Go Go.RowKit
set_option maxRecDepth 10000
set_option pp.deepTerms.threshold 8
set_option pp.maxSteps 3000
set_option linter.unusedSimpArgs false
set_option linter.unusedVariables false

theorem COk.m {c : Cs} (h : COk c) : (c.m : Int) = c.l ∧ leftZ c.l c.g c.r = c.l := by
  obtain ⟨h1, h2, h3, h4, h5, h6⟩ := h
  have hk : c.ok := ⟨h1, by omega⟩
  have hl : leftZ c.l c.g c.r = c.l := by
    rw [h5, h6]
    unfold leftZ
    rw [if_pos (by unfold fewIn; omega)]
    omega
  refine ⟨?_, hl⟩
  unfold Cs.m
  rw [if_pos hk, hl]
  omega
theorem COk.v {c : Cs} (h : COk c) {x : Nat} (hx : x ≤ c.m) : ((x * c.v : Nat) : Int) = (x : Int) * c.d := by
  obtain ⟨h1, h2, h3, h4, h5, h6⟩ := h
  have hk : c.ok := ⟨h1, by omega⟩
  unfold Cs.v
  split
  · unfold Cs.w
    rw [if_pos hk, Int.natCast_mul]
    rw [show ((c.d.toNat : Nat) : Int) = c.d by omega]
  · obtain rfl : x = 0 := by omega
    simp
theorem mul_le4 {x : Nat} {d : Int} (hx : x ≤ 40) (h1 : 1 ≤ d) (h2 : d ≤ 10000) : (x : Int) ≤ (x : Int) * d ∧ (x : Int) * d ≤ 10000 * (x : Int) := by
  constructor
  · have := Int.mul_le_mul_of_nonneg_left h1 (show (0 : Int) ≤ x by omega)
    omega
  · have := Int.mul_le_mul_of_nonneg_left h2 (show (0 : Int) ≤ x by omega)
    omega
/-- What is worth what it says. -/
theorem worth_four {x0 x1 x2 x3 : Nat} {d0 d1 d2 d3 : Int} (h : x0 + x1 + x2 + x3 ≤ 40) (h0 : 1 ≤ d0 ∧ d0 ≤ 10000) (h1 : 1 ≤ d1 ∧ d1 ≤ 10000) (h2 : 1 ≤ d2 ∧ d2 ≤ 10000) (h3 : 1 ≤ d3 ∧ d3 ≤ 10000) :
    worthV [(x0 : Int), x1, x2, x3] [d0, d1, d2, d3] = .tuple #[.int .i64 ((x0 : Int) * d0 + (x1 : Int) * d1 + (x2 : Int) * d2 + (x3 : Int) * d3), .bool true] := by
  have p0 := mul_le4 (x := x0) (by omega) h0.1 h0.2
  have p1 := mul_le4 (x := x1) (by omega) h1.1 h1.2
  have p2 := mul_le4 (x := x2) (by omega) h2.1 h2.2
  have p3 := mul_le4 (x := x3) (by omega) h3.1 h3.2
  have hp : prods [(x0 : Int), x1, x2, x3] [d0, d1, d2, d3] = [(x0 : Int) * d0, (x1 : Int) * d1, (x2 : Int) * d2, (x3 : Int) * d3] := rfl
  unfold worthV
  rw [hp]
  generalize (x0 : Int) * d0 = q0 at *
  generalize (x1 : Int) * d1 = q1 at *
  generalize (x2 : Int) * d2 = q2 at *
  generalize (x3 : Int) * d3 = q3 at *
  have hs : [q0, q1, q2, q3].sum = q0 + q1 + q2 + q3 := by simp; omega
  rw [if_pos (in4 (by unfold i64In; omega) (by unfold i64In; omega) (by unfold i64In; omega) (by unfold i64In; omega)), hs]
  exact totV_yes (by unfold i64In; omega)
structure Made (s : S4) (N : Int) (n : Nat) (y : List Nat) : Prop where
  ex : ∃ a b c e, y = [a, b, c, e] ∧ a ≤ s.a.m ∧ b ≤ s.b.m ∧ c ≤ s.c.m ∧ e ≤ s.e.m ∧ a + b + c + e ≤ n ∧ (a : Int) * s.a.d + (b : Int) * s.b.d + (c : Int) * s.c.d + (e : Int) * s.e.d = N
theorem makes {s : S4} (hs : CassOk s) {a b c e : Nat} (ha : a ≤ s.a.m) (hb : b ≤ s.b.m) (hc : c ≤ s.c.m) (he : e ≤ s.e.m) (h1 : 1 ≤ a + b + c + e) (h40 : a + b + c + e ≤ 40) {N : Int} (hN : (a : Int) * s.a.d + (b : Int) * s.b.d + (c : Int) * s.c.d + (e : Int) * s.e.d = N)
    {y : List Nat} {f : Int} (h : FindR s N y f) : f = 0 ∧ Made s N (a + b + c + e) y := by
  obtain ⟨ca, cb, cc, ce⟩ := hs
  have p0 := mul_le4 (x := a) (by omega) ca.1 ca.2.1
  have p1 := mul_le4 (x := b) (by omega) cb.1 cb.2.1
  have p2 := mul_le4 (x := c) (by omega) cc.1 cc.2.1
  have p3 := mul_le4 (x := e) (by omega) ce.1 ce.2.1
  have f4 : F4 s N.toNat a b c e := ⟨ha, hb, hc, he, by
    have v0 := ca.v ha
    have v1 := cb.v hb
    have v2 := cc.v hc
    have v3 := ce.v he
    generalize a * s.a.v = q0 at *
    generalize b * s.b.v = q1 at *
    generalize c * s.c.v = q2 at *
    generalize e * s.e.v = q3 at *
    omega, h40⟩
  have hfe : Feas s N.toNat [a, b, c, e] := feas_iff.2 ⟨a, b, c, e, rfl, f4⟩
  cases h with
  | out h => omega
  | none k1 k2 k3 => exact absurd hfe (k3 _)
  | some _ k1 k2 k3 =>
    refine ⟨rfl, ⟨?_⟩⟩
    obtain ⟨a', b', c', e', rfl, g4⟩ := feas_iff.1 k3.is
    have hle := k3.few _ hfe
    simp at hle
    refine ⟨a', b', c', e', rfl, g4.la, g4.lb, g4.lc, g4.le, by omega, ?_⟩
    have := g4.eq
    have v0 := ca.v g4.la
    have v1 := cb.v g4.lb
    have v2 := cc.v g4.lc
    have v3 := ce.v g4.le
    omega
end Go.Proofs.Ytiaigpkaajnpoaa.GL
