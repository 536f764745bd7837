/- Layer 17: which notes make an amount: the fewest, of the first cassettes; the search, told plainly. -/
import Derived.Test.YtiaigpkaajnpoaaMxA
namespace Go.Proofs.Ytiaigpkaajnpoaa.GL
open Go Go.RowKit
set_option linter.unusedSimpArgs false
set_option linter.unusedVariables false

/-- What the notes from the i-th cassette on are worth. -/
def wsum (ws x : List Nat) (i : Nat) : Nat := (List.zipWith (· * ·) (x.drop i) (ws.drop i)).sum
theorem wsum_step {ws x : List Nat} {i : Nat} (hx : i < x.length) (hw : i < ws.length) : wsum ws x i = x.getD i 0 * ws.getD i 0 + wsum ws x (i + 1) := by
  unfold wsum
  rw [List.drop_eq_getElem_cons hx, List.drop_eq_getElem_cons hw, List.zipWith_cons_cons, List.sum_cons]
  simp [List.getD_eq_getElem?_getD, hx, hw]
theorem wsum_end {ws x : List Nat} {i : Nat} (hx : x.length ≤ i) : wsum ws x i = 0 := by
  unfold wsum; rw [List.drop_of_length_le hx]; rfl
theorem sum_split (x : List Nat) (i : Nat) : x.sum = (x.take i).sum + (x.drop i).sum := by
  rw [← List.sum_append, List.take_append_drop]
structure Comp (ms ws x0 : List Nat) (i amount : Nat) (x : List Nat) : Prop where
  len : x.length = 4
  pre : x.take i = x0.take i
  most : ∀ j, i ≤ j → j < 4 → x.getD j 0 ≤ ms.getD j 0
  worth : wsum ws x i = amount
  few : x.sum ≤ 40
theorem take_succ_getD {x : List Nat} {i : Nat} (h : i < x.length) : x.take (i + 1) = x.take i ++ [x.getD i 0] := by
  rw [List.take_add_one, List.getElem?_eq_getElem h]; simp [List.getD_eq_getElem?_getD, h]
theorem comp_step {ms ws x0 x : List Nat} {i amount : Nat} (hi : i < 4) (h0 : x0.length = 4) (hw : ws.length = 4) :
    Comp ms ws x0 i amount x ↔ ∃ k, k ≤ ms.getD i 0 ∧ k * ws.getD i 0 ≤ amount ∧ (x0.take i).sum + k ≤ 40 ∧ Comp ms ws (x0.set i k) (i + 1) (amount - k * ws.getD i 0) x := by
  constructor
  · rintro ⟨h1, h2, h3, h4, h5⟩
    have hs := wsum_step (ws := ws) (x := x) (i := i) (by omega) (by omega)
    have hsum := sum_split x (i + 1)
    rw [take_succ_getD (by omega), List.sum_append, h2, List.sum_singleton] at hsum
    refine ⟨x.getD i 0, h3 i (Nat.le_refl _) hi, by omega, by omega, h1, ?_, fun j hj hj4 => h3 j (by omega) hj4, by omega, h5⟩
    rw [take_succ_getD (by omega), take_succ_getD (by rw [List.length_set]; omega), h2, List.take_set_of_le (Nat.le_refl _)]
    simp [List.getD_eq_getElem?_getD, h0, hi]
  · rintro ⟨k, hk, hk2, hk3, h1, h2, h3, h4, h5⟩
    have hx : x.take i = x0.take i ∧ x.getD i 0 = k := by
      have e := h2
      rw [take_succ_getD (by omega), take_succ_getD (by rw [List.length_set]; omega), List.take_set_of_le (Nat.le_refl _)] at e
      have hl : (x.take i).length = (x0.take i).length := by simp [h1, h0]
      obtain ⟨e1, e2⟩ := List.append_inj e hl
      refine ⟨e1, ?_⟩
      have : x.getD i 0 = (x0.set i k).getD i 0 := by simpa using e2
      rw [this]
      simp [List.getD_eq_getElem?_getD, h0, hi]
    have hs := wsum_step (ws := ws) (x := x) (i := i) (by omega) (by omega)
    refine ⟨h1, hx.1, fun j hj hj4 => ?_, by rw [hs, hx.2, h4]; omega, h5⟩
    by_cases e : j = i
    · subst e; rw [hx.2]; exact hk
    · exact h3 j (by omega) hj4
theorem comp_end {ms ws x0 x : List Nat} {amount : Nat} (h0 : x0.length = 4) (hs : x0.sum ≤ 40) : Comp ms ws x0 4 amount x ↔ amount = 0 ∧ x = x0 := by
  constructor
  · rintro ⟨h1, h2, h3, h4, h5⟩
    rw [wsum_end (by omega)] at h4
    rw [List.take_of_length_le (by omega), List.take_of_length_le (by omega)] at h2
    exact ⟨h4.symm, h2⟩
  · rintro ⟨rfl, rfl⟩
    exact ⟨h0, rfl, fun j hj hj4 => by omega, wsum_end (by omega), hs⟩

/-! ### What was found so far -/
structure SS (D : List Nat → Prop) (c : Nat) (f : List (List Nat)) : Prop where
  mem : ∀ x, x ∈ f ↔ D x ∧ x.sum = c
  low : ∀ x, D x → c ≤ x.sum
  le : c ≤ 41
  ex : c ≤ 40 → f ≠ []
  four : ∀ x ∈ f, x.length = 4
theorem SS.congr {D D' : List Nat → Prop} {c : Nat} {f : List (List Nat)} (h : SS D c f) (e : ∀ x, D' x ↔ D x) : SS D' c f :=
  ⟨fun x => by rw [e]; exact h.mem x, fun x hx => h.low x ((e x).1 hx), h.le, h.ex, h.four⟩
theorem SS.worse {D S : List Nat → Prop} {c : Nat} {f : List (List Nat)} (h : SS D c f) (hs : ∀ x, S x → c < x.sum) : SS (fun x => D x ∨ S x) c f :=
  ⟨fun x => by
    rw [h.mem]
    constructor
    · rintro ⟨a, b⟩; exact ⟨.inl a, b⟩
    · rintro ⟨a | a, b⟩
      · exact ⟨a, b⟩
      · have := hs x a; omega, fun x hx => by
    rcases hx with hx | hx
    · exact h.low x hx
    · have := hs x hx; omega, h.le, h.ex, h.four⟩
def noteP (c : Nat) (f : List (List Nat)) (x : List Nat) : Nat × List (List Nat) :=
  if x.sum < c then (x.sum, [x]) else if x.sum = c then (c, if x ∈ f then f else f ++ [x]) else (c, f)
theorem SS.note {D : List Nat → Prop} {c : Nat} {f : List (List Nat)} (h : SS D c f) (x : List Nat) (hx : x.length = 4) : SS (fun y => D y ∨ y = x) (noteP c f x).1 (noteP c f x).2 := by
  unfold noteP
  by_cases h1 : x.sum < c
  · rw [if_pos h1]
    have hle := h.le
    refine ⟨fun y => ?_, fun y hy => ?_, by simp only; omega, fun _ => by simp, fun y hy => by simp at hy; rw [hy]; exact hx⟩
    · simp only [List.mem_singleton]
      constructor
      · rintro rfl; exact ⟨.inr rfl, rfl⟩
      · rintro ⟨hy | hy, e⟩
        · have := h.low y hy; omega
        · exact hy
    · rcases hy with hy | hy
      · have := h.low y hy; simp only; omega
      · rw [hy]; exact Nat.le_refl _
  · rw [if_neg h1]
    by_cases h2 : x.sum = c
    · rw [if_pos h2]
      simp only
      by_cases h3 : x ∈ f
      · rw [if_pos h3]
        refine h.congr fun y => ?_
        constructor
        · rintro (hy | hy)
          · exact hy
          · rw [hy]; exact ((h.mem x).1 h3).1
        · exact .inl
      · rw [if_neg h3]
        refine ⟨fun y => ?_, fun y hy => ?_, h.le, fun _ => by simp, fun y hy => ?_⟩
        · rw [List.mem_append, h.mem, List.mem_singleton]
          constructor
          · rintro (⟨a, b⟩ | rfl)
            · exact ⟨.inl a, b⟩
            · exact ⟨.inr rfl, h2⟩
          · rintro ⟨a | a, b⟩
            · exact .inl ⟨a, b⟩
            · exact .inr a
        · rcases hy with hy | hy
          · exact h.low y hy
          · rw [hy]; omega
        · rcases List.mem_append.1 hy with hy | hy
          · exact h.four y hy
          · simp at hy; rw [hy]; exact hx
    · rw [if_neg h2]
      exact h.worse fun y hy => by rw [hy]; omega

/-- The worth of notes is no more than their number by the dearest. -/
theorem wsum_le {ws x : List Nat} {i d : Nat} (hd : ∀ j, i ≤ j → j < 4 → ws.getD j 0 ≤ d) (hx : x.length = 4) (hw : ws.length = 4) : wsum ws x i ≤ (x.drop i).sum * d := by
  obtain ⟨r, hr⟩ : ∃ r, r = 4 - i := ⟨_, rfl⟩
  induction r generalizing i with
  | zero => rw [wsum_end (by omega)]; exact Nat.zero_le _
  | succ r ih =>
    have hi : i < 4 := by omega
    have h1 := ih (i := i + 1) (fun j hj hj4 => hd j (by omega) hj4) (by omega)
    have h2 := hd i (Nat.le_refl _) hi
    rw [wsum_step (by omega) (by omega), List.drop_eq_getElem_cons (by omega), List.sum_cons, Nat.add_mul]
    have e : x.getD i 0 = x[i]'(by omega) := by simp [List.getD_eq_getElem?_getD, hx, hi]
    rw [e]
    exact Nat.add_le_add (Nat.mul_le_mul_left _ h2) h1
/-- What is cut off would be no better. -/
theorem prune {ms ws x0 x : List Nat} {i amount c d : Nat} (hd : ∀ j, i ≤ j → j < 4 → ws.getD j 0 ≤ d) (hw : ws.length = 4) (h : Comp ms ws x0 i amount x) (hp : ((min c 40 : Nat) - (x0.take i).sum : Int) * d < amount) : c < x.sum := by
  have h1 := wsum_le hd h.len hw
  have h2 := sum_split x i
  rw [h.pre] at h2
  rw [h.worth] at h1
  have h3 := h.few
  rcases Nat.lt_or_ge c x.sum with h4 | h4
  · exact h4
  · exfalso
    have h5 : (x.drop i).sum + (x0.take i).sum ≤ min c 40 := by omega
    have h6 : ((x.drop i).sum : Int) * d ≤ ((min c 40 : Nat) - (x0.take i).sum : Int) * d := Int.mul_le_mul_of_nonneg_right (by omega) (by omega)
    have h7 : (amount : Int) ≤ ((x.drop i).sum : Int) * d := by exact_mod_cast h1
    omega

/-! ### The first cassettes first -/
def lexGt : List Nat → List Nat → Bool
  | a :: ys, b :: zs => if a = b then lexGt ys zs else decide (b < a)
  | _, _ => false
theorem lex_irr : ∀ x, lexGt x x = false
  | [] => rfl
  | a :: ys => by simp [lexGt, lex_irr ys]
theorem lex_tri : ∀ {x y : List Nat}, x.length = y.length → lexGt x y = true ∨ x = y ∨ lexGt y x = true
  | [], [], _ => .inr (.inl rfl)
  | [], _ :: _, h => by simp at h
  | _ :: _, [], h => by simp at h
  | a :: ys, b :: zs, h => by
    simp only [lexGt]
    by_cases e : a = b
    · subst e
      rcases lex_tri (x := ys) (y := zs) (by simpa using h) with h | h | h
      · left; simpa using h
      · right; left; rw [h]
      · right; right; simpa using h
    · rcases Nat.lt_or_ge b a with h1 | h1
      · left; simp [e, h1]
      · right; right
        have e2 : ¬ b = a := fun h => e h.symm
        simp [e2]; omega
theorem lex_trans : ∀ {x y z : List Nat}, lexGt x y = true → lexGt y z = true → lexGt x z = true
  | a :: ys, b :: zs, c :: us, h1, h2 => by
    simp only [lexGt] at h1 h2 ⊢
    split at h1
    · rename_i e; subst e
      split at h2
      · rename_i e2; subst e2; simp; exact lex_trans h1 h2
      · rename_i e2; rw [if_neg e2]; exact h2
    · rename_i e
      split at h2
      · rename_i e2; subst e2; rw [if_neg e]; exact h1
      · rename_i e2
        simp at h1 h2
        rw [if_neg (by omega)]
        simp; omega
  | [], _, _, h, _ => by simp [lexGt] at h
  | _ :: _, [], _, h, _ => by simp [lexGt] at h
  | _ :: _, _ :: _, [], _, h => by simp [lexGt] at h
theorem lex_zero : ∀ (x : List Nat), 0 < x.sum → lexGt x (List.replicate x.length 0) = true
  | [], h => by simp at h
  | a :: ys, h => by
    rw [List.length_cons, List.replicate_succ]
    simp only [lexGt]
    by_cases e : a = 0
    · subst e
      rw [if_pos rfl]
      exact lex_zero ys (by simpa using h)
    · rw [if_neg e]; simp; omega
/-- The fewest notes, of the first cassettes. -/
structure IsBest (S : List Nat → Prop) (x : List Nat) : Prop where
  is : S x
  few : ∀ y, S y → x.sum ≤ y.sum
  first : ∀ y, S y → y.sum = x.sum → y = x ∨ lexGt x y = true
theorem best_one {S : List Nat → Prop} {x y : List Nat} (hx : IsBest S x) (hy : IsBest S y) : x = y := by
  have h1 := hx.few y hy.is
  have h2 := hy.few x hx.is
  rcases hx.first y hy.is (by omega) with e | e
  · exact e.symm
  · rcases hy.first x hx.is (by omega) with e2 | e2
    · exact e2
    · have := lex_trans e e2
      rw [lex_irr] at this; cases this
theorem IsBest.congr {S S' : List Nat → Prop} {x : List Nat} (h : IsBest S x) (e : ∀ y, S' y ↔ S y) : IsBest S' x :=
  ⟨(e x).2 h.is, fun y hy => h.few y ((e y).1 hy), fun y hy => h.first y ((e y).1 hy)⟩
end Go.Proofs.Ytiaigpkaajnpoaa.GL
