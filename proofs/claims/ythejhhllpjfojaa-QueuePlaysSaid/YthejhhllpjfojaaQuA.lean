/- Layer 22: items, a queue's memory; a key's place. -/
import Derived.Test.YthejhhllpjfojaaGlT
import Derived.Test.YthejhhllpjfojaaGlS
namespace Go.Proofs.Ythejhhllpjfojaa.GL
open Go Go.RowKit
set_option maxRecDepth 10000
set_option pp.deepTerms.threshold 8
set_option pp.maxSteps 3000
set_option linter.unusedSimpArgs false
set_option linter.unusedVariables false

structure QZ where
  t : Int
  s : Int
  g : Int
  w : Bool
def QZ.cells (x : QZ) : List Value := [.int .u16 x.t, .int .u32 x.s, .int .i64 x.g, .bool x.w]
theorem q4 (x : QZ) : x.cells.length = 4 := rfl
theorem q1 (x : QZ) : x.cells.all (·.oneCell') = true := rfl
/-- The place of a key. -/
def idxQ (t s : Int) : List QZ → Option Nat
  | [] => none
  | x :: l => if x.t = t ∧ x.s = s then some 0 else (idxQ t s l).map (· + 1)
def idxI (t s : Int) (l : List QZ) : Int := match idxQ t s l with | some i => i | none => -1
theorem idxQ_some {t s : Int} : ∀ {l : List QZ} {i : Nat}, idxQ t s l = some i → ∃ x, l[i]? = some x ∧ x.t = t ∧ x.s = s ∧ ∀ (j : Nat) (y : QZ), j < i → l[j]? = some y → ¬ (y.t = t ∧ y.s = s)
  | [], i, h => by cases h
  | x :: l, i, h => by
    unfold idxQ at h
    by_cases hx : x.t = t ∧ x.s = s
    · rw [if_pos hx] at h; cases h
      exact ⟨x, rfl, hx.1, hx.2, fun j y hj => by omega⟩
    · rw [if_neg hx] at h
      cases hl : idxQ t s l with
      | none => rw [hl] at h; cases h
      | some k =>
        rw [hl] at h
        simp only [Option.map_some, Option.some.injEq] at h
        subst h
        obtain ⟨y, h1, h2, h3, h4⟩ := idxQ_some hl
        refine ⟨y, by simpa using h1, h2, h3, fun j z hj hz => ?_⟩
        cases j with
        | zero => simp at hz; subst hz; exact hx
        | succ j => exact h4 j z (by omega) (by simpa using hz)
theorem idxQ_none {t s : Int} : ∀ {l : List QZ}, idxQ t s l = none → ∀ (j : Nat) (y : QZ), l[j]? = some y → ¬ (y.t = t ∧ y.s = s)
  | [], _, j, y, hy => by simp at hy
  | x :: l, h, j, y, hy => by
    unfold idxQ at h
    by_cases hx : x.t = t ∧ x.s = s
    · rw [if_pos hx] at h; cases h
    · rw [if_neg hx] at h
      cases hl : idxQ t s l with
      | some k => rw [hl] at h; cases h
      | none =>
        cases j with
        | zero => simp at hy; subst hy; exact hx
        | succ j => exact idxQ_none hl j y (by simpa using hy)
/-- The first place with a key is its place. -/
theorem idxQ_first {t s : Int} {l : List QZ} {i : Nat} {x : QZ} (hx : l[i]? = some x) (h1 : x.t = t ∧ x.s = s) (h2 : ∀ (j : Nat) (y : QZ), j < i → l[j]? = some y → ¬ (y.t = t ∧ y.s = s)) : idxQ t s l = some i := by
  cases h : idxQ t s l with
  | none => exact absurd h1 (idxQ_none h i x hx)
  | some k =>
    obtain ⟨y, h3, h4, h5, h6⟩ := idxQ_some h
    rcases Nat.lt_trichotomy i k with hik | hik | hik
    · exact absurd h1 (h6 i x hik hx)
    · rw [hik]
    · exact absurd ⟨h4, h5⟩ (h2 k y hik h3)
theorem idxQ_all {t s : Int} {l : List QZ} (h : ∀ (j : Nat) (y : QZ), l[j]? = some y → ¬ (y.t = t ∧ y.s = s)) : idxQ t s l = none := by
  cases hi : idxQ t s l with
  | none => rfl
  | some k =>
    obtain ⟨y, h3, h4, h5, h6⟩ := idxQ_some hi
    exact absurd ⟨h4, h5⟩ (h k y h3)

theorem atF_c (x : QZ) (t s : Int) (kb : Nat) (H : Heap) (hk : H kb = some (.row true 0 [.int .u16 t, .int .u32 s] 0)) :
    ECalls Try.prog 21 #[.agg #[.int .u16 x.t, .int .u32 x.s, .int .i64 x.g, .bool x.w], .pointer (some ⟨kb, 0, none⟩)] H fun v H' => v = .bool (decide (x.t = t ∧ x.s = s)) ∧ Heap.le H H' := by
  refine ecalls_of_ewp (args := [_, _]) Try.func21 rfl rfl rfl (by simp [Try.ntmps21]) (by kernel_rfl) ?_
  simp (disch := first | omega | assumption | decide | (simp <;> omega) | fail) [facts, ]
  refine fresh_intro fun b hb => ?_
  have hk2 := upd_other (o := .row true 0 [.int .u16 x.t, .int .u32 x.s, .int .i64 x.g, .bool x.w] 0) hb hk
  simp (disch := first | omega | assumption | decide | (simp <;> omega) | fail) [facts, hk2]
  exact ⟨_, Heap.le_refl _, le_upd _ hb⟩
def ixInv (H : Heap) (a : Option Addr) (n c : Nat) (f : Value) (t s : Int) (l : List QZ) (st : St) : Prop :=
  ∃ i : Nat, i ≤ n ∧ st.env 0 = .slice a n c ∧ st.env 1 = f ∧ st.env 7 = .int .i64 n ∧ st.env 8 = .int .i64 i ∧ Heap.le H st.heap ∧ ∀ (j : Nat) (y : QZ), j < i → l[j]? = some y → ¬ (y.t = t ∧ y.s = s)
theorem indexFunc_c (a : Option Addr) (n c : Nat) (l : List QZ) (t s : Int) (kb : Nat) (H : Heap) (h : SlA H a n 4 (rowsC QZ.cells l)) (hk : H kb = some (.row true 0 [.int .u16 t, .int .u32 s] 0)) (hn : n ≤ 1000000) :
    ECalls Try.prog 20 #[.slice a n c, .func (.func 21) #[] #[.pointer (some ⟨kb, 0, none⟩)]] H fun v H' => v = .int .i64 (idxI t s l) ∧ Heap.le H H' := by
  refine ecalls_of_ewp (args := [_, _]) Try.func20 rfl rfl rfl (by simp [Try.ntmps20]) (by kernel_rfl) ?_
  have hlen := h.els q4 (by decide)
  simp (disch := first | omega | assumption | decide | (simp <;> omega) | fail) [facts, ]
  refine w_loop (ixInv H a n c (.func (.func 21) #[] #[.pointer (some ⟨kb, 0, none⟩)]) t s l) (fun st => n - (intOf (st.env 8)).toNat) ?_ ?_
  · exact ⟨0, Nat.zero_le _, by simp, by simp, by simp, by simp, Heap.le_refl _, fun j y hj => by omega⟩
  rintro ⟨env, G⟩ ⟨i, hi, e0, e1, e7, e8, hle, hno⟩
  simp only at e0 e1 e7 e8 hle
  by_cases hlt : i < n
  · have hltI : (i : Int) < (n : Int) := by omega
    obtain ⟨x, hx⟩ : ∃ x, l[i]? = some x := ⟨_, List.getElem?_eq_getElem (by omega)⟩
    have hG := h.le hle
    obtain ⟨b, o, rfl⟩ := hG.lit (by omega)
    have rx : rdNU (G b) (o + i * 4) 4 = some [.int .u16 x.t, .int .u32 x.s, .int .i64 x.g, .bool x.w] := hG.el q4 hx (j := 0) (r := 4) (by decide) (by decide)
    simp (disch := first | omega | assumption | decide | (simp <;> omega) | fail) [facts, e0, e1, e7, e8, hltI, rx]
    refine (atF_c x t s kb G (hle _ _ hk)).mono ?_
    rintro v G2 ⟨rfl, hle2⟩
    by_cases hx2 : x.t = t ∧ x.s = s
    · have hi : idxI t s l = i := by unfold idxI; rw [idxQ_first hx hx2 hno]
      simp only [hx2, and_self, decide_true]
      simp (disch := first | omega | assumption | decide | (simp <;> omega) | fail) [facts, e0, e1, e7, e8, hi]
      exact ⟨_, Heap.le_refl _, Heap.le_trans hle hle2⟩
    · simp only [hx2, decide_false]
      simp (disch := first | omega | assumption | decide | (simp <;> omega) | fail) [facts, e0, e1, e7, e8]
      refine ⟨_, Heap.le_refl _, ⟨i + 1, by omega, by simp [e0], by simp [e1], by simp [e7], by simp, Heap.le_trans hle hle2, fun j y hj hy => ?_⟩, by simp [intOf, e8]; omega⟩
      rcases Nat.lt_or_ge j i with h0 | h0
      · exact hno j y h0 hy
      · have : j = i := by omega
        subst this
        rw [hx] at hy; cases hy
        exact hx2
  · have hin : i = n := by omega
    subst hin
    have hI : idxI t s l = -1 := by
      unfold idxI
      rw [idxQ_all fun j y hy => hno j y (by have := (List.getElem?_eq_some_iff.1 hy).1; omega) hy]
    simp (disch := first | omega | assumption | decide | (simp <;> omega) | fail) [facts, e0, e1, e7, e8, hI]
    exact ⟨_, Heap.le_refl _, hle⟩

/-- A queue's memory (both programs' have the same shape). -/
structure QS where
  l : List QZ
  k : Int
structure QAt (R : Heap) (p : Nat) (q : QS) (v : Value) : Prop where
  row : R p = some (.row true 0 [v, .int .i64 q.k] 0)
  list : LstR R v 4 q.l.length (rowsC QZ.cells q.l)
  off : blkV v ≠ some p
def Que (R : Heap) (p : Nat) (q : QS) : Prop := ∃ v, QAt R p q v
section
variable {H R : Heap} {p : Nat} {q : QS}
theorem queAt_c (hR : Heap.le R H) (h : Que R p q) (t s : Int) (hn : q.l.length ≤ 1000000) : ECalls Try.prog 18 #[.pointer (some ⟨p, 0, none⟩), .agg #[.int .u16 t, .int .u32 s]] H fun v H' => v = .int .i64 (idxI t s q.l) ∧ Heap.le H H' := by
  refine ecalls_of_ewp (args := [_, _]) Try.func18 rfl rfl rfl (by simp [Try.ntmps18]) (by kernel_rfl) ?_
  obtain ⟨v, hq⟩ := h
  have hp := hR _ _ hq.row
  obtain ⟨a, c, rfl, hsl, _⟩ := hq.list.sl hR
  simp (disch := first | omega | assumption | decide | (simp <;> omega) | fail) [facts, ]
  refine fresh_intro fun kb hkb => ?_
  have hp2 := upd_other (o := .row true 0 [.int .u16 t, .int .u32 s] 0) hkb hp
  simp (disch := first | omega | assumption | decide | (simp <;> omega) | fail) [facts, hp2]
  refine (indexFunc_c a _ c q.l t s kb _ (hsl.le (le_upd _ hkb)) (upd_same _ _ _) hn).mono ?_
  rintro v H2 ⟨rfl, hle⟩
  simp (disch := first | omega | assumption | decide | (simp <;> omega) | fail) [facts, ]
  exact ⟨_, Heap.le_refl _, Heap.le_trans (le_upd _ hkb) hle⟩
end
end Go.Proofs.Ythejhhllpjfojaa.GL
