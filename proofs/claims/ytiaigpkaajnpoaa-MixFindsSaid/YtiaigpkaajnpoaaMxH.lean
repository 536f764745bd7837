/- Layer 17: the search the plain way: all sums, all divisions, in order. -/
import Derived.Test.YtiaigpkaajnpoaaMxG
namespace Go.Proofs.Ytiaigpkaajnpoaa.GL
open Go Go.RowKit
set_option maxRecDepth 10000
set_option pp.deepTerms.threshold 8
set_option pp.maxSteps 3000
set_option linter.unusedSimpArgs false
set_option linter.unusedVariables false

def Cs.v (c : Cs) : Nat := if 0 < c.m then c.w else 0
def vL (s : S4) : List Nat := (cl s).map Cs.v
theorem Cs.v_le (c : Cs) : c.v ≤ 100000 := by
  unfold Cs.v; have := c.w_le; split <;> omega
theorem Cs.xv (c : Cs) {x : Nat} (h : x ≤ c.m) : x * c.w = x * c.v := by
  unfold Cs.v
  split
  · rfl
  · obtain rfl : x = 0 := by omega
    simp
structure F4 (s : S4) (N a b c e : Nat) : Prop where
  la : a ≤ s.a.m
  lb : b ≤ s.b.m
  lc : c ≤ s.c.m
  le : e ≤ s.e.m
  eq : a * s.a.v + b * s.b.v + c * s.c.v + e * s.e.v = N
  few : a + b + c + e ≤ 40
theorem feas_iff {s : S4} {N : Nat} {x : List Nat} : Feas s N x ↔ ∃ a b c e, x = [a, b, c, e] ∧ F4 s N a b c e := by
  constructor
  · rintro ⟨h1, h2, h3, h4, h5⟩
    obtain ⟨a, b, c, e, rfl⟩ := lit4 h1
    have i0 := h3 0 (by omega) (by omega)
    have i1 := h3 1 (by omega) (by omega)
    have i2 := h3 2 (by omega) (by omega)
    have i3 := h3 3 (by omega) (by omega)
    simp [msL, cl] at i0 i1 i2 i3
    simp [wsum, wsL, cl] at h4
    simp at h5
    rw [s.a.xv i0, s.b.xv i1, s.c.xv i2, s.e.xv i3] at h4
    exact ⟨a, b, c, e, rfl, i0, i1, i2, i3, by omega, by omega⟩
  · rintro ⟨a, b, c, e, rfl, h⟩
    refine ⟨rfl, rfl, fun j _ hj => ?_, ?_, ?_⟩
    · have : j = 0 ∨ j = 1 ∨ j = 2 ∨ j = 3 := by omega
      rcases this with rfl | rfl | rfl | rfl
      · simpa [msL, cl] using h.la
      · simpa [msL, cl] using h.lb
      · simpa [msL, cl] using h.lc
      · simpa [msL, cl] using h.le
    · have := h.eq
      rw [← s.a.xv h.la, ← s.b.xv h.lb, ← s.c.xv h.lc, ← s.e.xv h.le] at this
      simp [wsum, wsL, cl]
      omega
    · have := h.few
      simp; omega
def NF (s : S4) (N : Nat) (n A B C : Int) : Prop := ∀ a b c e : Nat, F4 s N a b c e → n ≤ (a : Int) + b + c + e ∧ ((a : Int) + b + c + e = n → (a : Int) ≤ A ∧ ((a : Int) = A → (b : Int) ≤ B ∧ ((b : Int) = B → (c : Int) ≤ C)))
theorem best4 {s : S4} {N a b c e : Nat} (h : F4 s N a b c e) (hn : NF s N ((a : Int) + b + c + e) a b c) : IsBest (Feas s N) [a, b, c, e] := by
  refine ⟨feas_iff.2 ⟨a, b, c, e, rfl, h⟩, fun y hy => ?_, fun y hy hs => ?_⟩
  · obtain ⟨a', b', c', e', rfl, h'⟩ := feas_iff.1 hy
    have := (hn a' b' c' e' h').1
    simp; omega
  · obtain ⟨a', b', c', e', rfl, h'⟩ := feas_iff.1 hy
    obtain ⟨k1, k2⟩ := hn a' b' c' e' h'
    simp at hs
    have k3 := k2 (by omega)
    simp only [lexGt]
    by_cases ea : a = a'
    · subst ea
      have k4 := k3.2 rfl
      by_cases eb : b = b'
      · subst eb
        have k5 := k4.2 rfl
        by_cases ec : c = c'
        · subst ec
          left
          simp; omega
        · right; simp [ec]; omega
      · right; simp [eb]; omega
    · right; simp [ea]; omega
theorem NF.c {s : S4} {N : Nat} {n A B C : Int} (h : NF s N n A B C) (hA : 0 ≤ A) (hB : 0 ≤ B) (hC : 0 ≤ C) (hno : ¬ F4 s N A.toNat B.toNat C.toNat (n - A - B - C).toNat) : NF s N n A B (C - 1) := by
  intro a b c e f
  obtain ⟨h1, h2⟩ := h a b c e f
  refine ⟨h1, fun h3 => ?_⟩
  obtain ⟨h4, h5⟩ := h2 h3
  refine ⟨h4, fun h6 => ?_⟩
  obtain ⟨h7, h8⟩ := h5 h6
  refine ⟨h7, fun h9 => ?_⟩
  have h10 := h8 h9
  by_cases e1 : (c : Int) = C
  · exfalso
    apply hno
    rw [show A.toNat = a by omega, show B.toNat = b by omega, show C.toNat = c by omega, show (n - A - B - C).toNat = e by omega]
    exact f
  · omega
def NF1 (s : S4) (N : Nat) (n : Int) : Prop := ∀ a b c e : Nat, F4 s N a b c e → n ≤ (a : Int) + b + c + e
def NF2 (s : S4) (N : Nat) (n A : Int) : Prop := ∀ a b c e : Nat, F4 s N a b c e → n ≤ (a : Int) + b + c + e ∧ ((a : Int) + b + c + e = n → (a : Int) ≤ A)
def NF3 (s : S4) (N : Nat) (n A B : Int) : Prop := ∀ a b c e : Nat, F4 s N a b c e → n ≤ (a : Int) + b + c + e ∧ ((a : Int) + b + c + e = n → (a : Int) ≤ A ∧ ((a : Int) = A → (b : Int) ≤ B))
section
variable {s : S4} {N : Nat} {n A B C : Int}
theorem NF1.begin (hN : 0 < N) : NF1 s N 1 := fun a b c e f => by
  rcases Nat.eq_zero_or_pos (a + b + c + e) with h | h
  · exfalso
    obtain rfl : a = 0 := by omega
    obtain rfl : b = 0 := by omega
    obtain rfl : c = 0 := by omega
    obtain rfl : e = 0 := by omega
    have := f.eq
    simp at this
    omega
  · omega
theorem NF1.start (h : NF1 s N n) : NF2 s N n (min n s.a.m) := fun a b c e f => by
  have h1 := h a b c e f
  have h2 := f.la
  exact ⟨h1, fun h3 => by omega⟩
theorem NF2.exit (h : NF2 s N n A) (hA : A < 0) : NF1 s N (n + 1) := fun a b c e f => by
  have h1 := h a b c e f
  omega
theorem NF2.start (h : NF2 s N n A) : NF3 s N n A (min (n - A) s.b.m) := fun a b c e f => by
  obtain ⟨h1, h4⟩ := h a b c e f
  have h2 := f.lb
  exact ⟨h1, fun h3 => ⟨h4 h3, fun h5 => by omega⟩⟩
theorem NF3.exit (h : NF3 s N n A B) (hB : B < 0) : NF2 s N n (A - 1) := fun a b c e f => by
  obtain ⟨h1, h4⟩ := h a b c e f
  exact ⟨h1, fun h3 => by have := h4 h3; omega⟩
theorem NF3.start (h : NF3 s N n A B) : NF s N n A B (min (n - A - B) s.c.m) := fun a b c e f => by
  obtain ⟨h1, h4⟩ := h a b c e f
  have h2 := f.lc
  exact ⟨h1, fun h3 => ⟨(h4 h3).1, fun h5 => ⟨(h4 h3).2 h5, fun h6 => by omega⟩⟩⟩
theorem NF.exit (h : NF s N n A B C) (hC : C < 0) : NF3 s N n A (B - 1) := fun a b c e f => by
  obtain ⟨h1, h4⟩ := h a b c e f
  refine ⟨h1, fun h3 => ⟨(h4 h3).1, fun h5 => ?_⟩⟩
  have := (h4 h3).2 h5
  omega
theorem NF1.none (h : NF1 s N 41) : ∀ y, ¬ Feas s N y := fun y hy => by
  obtain ⟨a, b, c, e, rfl, f⟩ := feas_iff.1 hy
  have h1 := h a b c e f
  have h2 := f.few
  omega
end
end Go.Proofs.Ytiaigpkaajnpoaa.GL
