/- Layer 17: Find. -/
import Derived.Test.YtiaigpkaajnpoaaMxE
namespace Go.Proofs.Ytiaigpkaajnpoaa.GL
open Go Go.RowKit
set_option maxRecDepth 10000
set_option pp.deepTerms.threshold 8
set_option pp.maxSteps 3000
set_option linter.unusedSimpArgs false
set_option linter.unusedVariables false

def Cs.ok (c : Cs) : Prop := 1 ≤ c.d ∧ c.d ≤ 100000
instance (c : Cs) : Decidable c.ok := inferInstanceAs (Decidable (_ ∧ _))
def Cs.m (c : Cs) : Nat := if c.ok then (leftZ c.l c.g c.r).toNat else 0
def Cs.w (c : Cs) : Nat := if c.ok then c.d.toNat else 0
theorem leftZ_in (l g r : Int) : 0 ≤ leftZ l g r ∧ leftZ l g r ≤ 10000 := by
  unfold leftZ
  split
  · rename_i h; unfold fewIn at h; omega
  · omega
theorem Cs.m_le (c : Cs) : c.m ≤ 10000 := by
  unfold Cs.m; have := leftZ_in c.l c.g c.r; split <;> omega
theorem Cs.w_le (c : Cs) : c.w ≤ 100000 := by
  unfold Cs.w; split
  · rename_i h; unfold Cs.ok at h; omega
  · omega
def cl (s : S4) : List Cs := [s.a, s.b, s.c, s.e]
def msL (s : S4) : List Nat := (cl s).map Cs.m
def wsL (s : S4) : List Nat := (cl s).map Cs.w
def dsL (s : S4) : List Nat := [max (max (max (max 0 s.e.w) s.c.w) s.b.w) s.a.w, max (max (max 0 s.e.w) s.c.w) s.b.w, max (max 0 s.e.w) s.c.w, max 0 s.e.w, 0]
theorem srD (s : S4) : SrD (msL s) (wsL s) (dsL s) := by
  have a1 := s.a.m_le; have a2 := s.b.m_le; have a3 := s.c.m_le; have a4 := s.e.m_le
  have b1 := s.a.w_le; have b2 := s.b.w_le; have b3 := s.c.w_le; have b4 := s.e.w_le
  refine ⟨rfl, rfl, rfl, fun i => ?_, fun i => ?_, fun i => ?_, fun i j hij hj => ?_⟩
  · unfold msL cl
    rcases i with _ | _ | _ | _ | i <;> simp <;> omega
  · unfold wsL cl
    rcases i with _ | _ | _ | _ | i <;> simp <;> omega
  · unfold dsL
    rcases i with _ | _ | _ | _ | _ | i <;> simp <;> omega
  · unfold dsL wsL cl
    have : j = 0 ∨ j = 1 ∨ j = 2 ∨ j = 3 := by omega
    have : i = 0 ∨ i = 1 ∨ i = 2 ∨ i = 3 := by omega
    rcases ‹j = 0 ∨ _› with rfl | rfl | rfl | rfl <;> rcases ‹i = 0 ∨ _› with rfl | rfl | rfl | rfl <;> first | omega | (simp; done) | (simp; omega)
def Feas (s : S4) (amount : Nat) (x : List Nat) : Prop := Comp (msL s) (wsL s) [0, 0, 0, 0] 0 amount x
inductive FindR (s : S4) (amount : Int) : List Nat → Int → Prop
  | out : amount < 1 ∨ 1000000 < amount → FindR s amount [0, 0, 0, 0] 33
  | none : 1 ≤ amount → amount ≤ 1000000 → (∀ y, ¬ Feas s amount.toNat y) → FindR s amount [0, 0, 0, 0] 33
  | some (x : List Nat) : 1 ≤ amount → amount ≤ 1000000 → IsBest (Feas s amount.toNat) x → FindR s amount x 0
theorem FindR.one {s : S4} {amount : Int} {x y : List Nat} {e f : Int} (h : FindR s amount x e) (k : FindR s amount y f) : x = y ∧ e = f := by
  cases h with
  | out h => cases k with
    | out k => exact ⟨rfl, rfl⟩
    | none k1 k2 k3 => exact ⟨rfl, rfl⟩
    | some _ k1 k2 k3 => omega
  | none h1 h2 h3 => cases k with
    | out k => exact ⟨rfl, rfl⟩
    | none k1 k2 k3 => exact ⟨rfl, rfl⟩
    | some _ k1 k2 k3 => exact absurd k3.is (h3 _)
  | some _ h1 h2 h3 => cases k with
    | out k => omega
    | none k1 k2 k3 => exact absurd h3.is (k3 _)
    | some _ k1 k2 k3 => exact ⟨best_one h3 k3, rfl⟩
theorem FindR.four {s : S4} {amount : Int} {x : List Nat} {e : Int} (h : FindR s amount x e) : x.length = 4 ∧ (e = 0 ∨ e = 33) := by
  cases h with
  | out h => exact ⟨rfl, .inr rfl⟩
  | none h1 h2 h3 => exact ⟨rfl, .inr rfl⟩
  | some _ h1 h2 h3 => exact ⟨h3.is.len, .inl rfl⟩
theorem wsum_pos {ws x : List Nat} {i : Nat} (h : 0 < wsum ws x i) : 0 < x.sum := by
  rcases Nat.eq_zero_or_pos x.sum with h0 | h0
  · exfalso
    have hz : ∀ y ∈ x, y = 0 := List.sum_eq_zero_iff_forall_eq_nat.1 h0
    have : wsum ws x i = 0 := by
      unfold wsum
      have h1 : ∀ (a b : List Nat), (∀ y ∈ a, y = 0) → (List.zipWith (· * ·) a b).sum = 0 := by
        intro a
        induction a with
        | nil => intro b _; rfl
        | cons y a ih =>
          intro b hy
          cases b with
          | nil => rfl
          | cons z b => rw [List.zipWith_cons_cons, List.sum_cons, ih b fun w hw => hy w (by simp [hw]), hy y (by simp)]; simp
      exact h1 _ _ fun y hy => hz y (List.mem_of_mem_drop hy)
    omega
  · exact h0
/-- What was found, in the end. -/
theorem find_of {s : S4} {a : Int} {c : Nat} {f : List (List Nat)} {x : List Nat} (h1 : 1 ≤ a) (h2 : a ≤ 1000000) (h : SS (Feas s a.toNat) c f) (hc : c ≤ 40) (hx : LexMax f x) : FindR s a x 0 := by
  refine .some x h1 h2 ?_
  have hpos : ∀ y ∈ f, 0 < y.sum := fun y hy => wsum_pos (ws := wsL s) (i := 0) (by rw [((h.mem y).1 hy).1.worth]; omega)
  have hxf : x ∈ f := by
    rcases hx.is with e | e
    · exfalso
      obtain ⟨y, hy⟩ := List.exists_mem_of_ne_nil f (h.ex hc)
      have hp := hpos y hy
      have h4 := h.four y hy
      have hz := lex_zero y hp
      rw [h4] at hz
      rcases hx.max y hy with e2 | e2
      · rw [e2, e] at hp; simp at hp
      · rw [e] at e2
        have := lex_trans e2 hz
        rw [show List.replicate 4 0 = [0, 0, 0, 0] from rfl, lex_irr] at this
        cases this
    · exact e
  obtain ⟨hD, hs⟩ := (h.mem x).1 hxf
  exact ⟨hD, fun y hy => by rw [hs]; exact h.low y hy, fun y hy he => hx.max y ((h.mem y).2 ⟨hy, by omega⟩)⟩
theorem find_no {s : S4} {a : Int} {c : Nat} {f : List (List Nat)} (h1 : 1 ≤ a) (h2 : a ≤ 1000000) (h : SS (Feas s a.toNat) c f) (hc : 40 < c) : FindR s a [0, 0, 0, 0] 33 :=
  .none h1 h2 fun y hy => by
    have := h.low y hy
    have := hy.few
    omega
end Go.Proofs.Ytiaigpkaajnpoaa.GL
