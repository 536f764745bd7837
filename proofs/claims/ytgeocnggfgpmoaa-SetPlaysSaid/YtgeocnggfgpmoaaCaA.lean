/- Layer 18: the small functions on numbers of notes. -/
import Derived.Test.YtgeocnggfgpmoaaCaSA
namespace Go.Proofs.Ytgeocnggfgpmoaa.GL
open Go Go.RowKit
set_option maxRecDepth 10000
set_option pp.deepTerms.threshold 8
set_option pp.maxSteps 3000
set_option linter.unusedSimpArgs false
set_option linter.unusedVariables false

def fewIn (z : Int) : Prop := 0 ≤ z ∧ z ≤ 10000
instance (z : Int) : Decidable (fewIn z) := inferInstanceAs (Decidable (_ ∧ _))
theorem few_or (z : Int) : fewIn z ∨ z < 0 ∨ (¬ z < 0 ∧ 10000 < z) := by unfold fewIn; omega
def placeZ (k : Int) : Int := if k.tmod 4 < 0 then k.tmod 4 + 4 else k.tmod 4
theorem placeZ_in (k : Int) : 0 ≤ placeZ k ∧ placeZ k ≤ 3 := by
  have h1 := Int.tmod_lt_of_pos k (show (0 : Int) < 4 by decide)
  have h3 : (-k).tmod 4 = -(k.tmod 4) := Int.neg_tmod k 4
  have h4 := Int.tmod_lt_of_pos (-k) (show (0 : Int) < 4 by decide)
  unfold placeZ; split <;> omega
theorem place_c (k : Int) (H : Heap) : ECalls Try.prog 22 #[.int .i64 k, .int .i64 4] H fun v H' => v = .int .i64 (placeZ k) ∧ H' = H := by
  refine ecalls_of_ewp (args := [_, _]) Try.func22 rfl rfl rfl (by simp [Try.ntmps22]) (by kernel_rfl) ?_
  have hz := placeZ_in k
  unfold placeZ at *
  generalize hm : k.tmod 4 = m at *
  by_cases h : m < 0
  · rw [if_pos h] at *
    simp (disch := first | omega | assumption | decide | (simp <;> omega) | fail) [facts, hm, h]
  · rw [if_neg h] at *
    simp (disch := first | omega | assumption | decide | (simp <;> omega) | fail) [facts, hm, h]

def notesV (a b c d : Int) : Value := .agg #[.int .i64 a, .int .i64 b, .int .i64 c, .int .i64 d]
theorem small_c (a b c d : Int) (k : Nat) (H : Heap) (hk : k < 256) :
    ECalls Try.prog 9 #[notesV a b c d, .int .u8 k] H fun v H' => v = (if k % 8 = 7 then notesV a b c d else notesV (placeZ a) (placeZ b) (placeZ c) (placeZ d)) ∧ Heap.le H H' := by
  refine ecalls_of_ewp (args := [_, _]) Try.func9 rfl rfl rfl (by simp [Try.ntmps9]) (by kernel_rfl) ?_
  have e8 : (k : Int) % 8 = ((k % 8 : Nat) : Int) := by omega
  generalize k % 8 = m at e8
  unfold notesV
  simp (disch := first | omega | assumption | decide | (simp <;> omega) | fail) [facts, e8]
  refine fresh_intro fun b2 hb2 => ?_
  simp (disch := first | omega | assumption | decide | (simp <;> omega) | fail) [facts, e8]
  refine fresh_intro fun b4 hb4 => ?_
  have q : b2 ≠ b4 := ne_of_fresh hb4 (upd_same _ _ _)
  have hb4' : H b4 = none := le_of_none (le_upd _ hb2) hb4
  by_cases h7 : m = 7
  · subst h7
    simp (disch := first | omega | assumption | decide | (simp <;> omega) | fail) [facts, e8, upd_ne, upd_upd]
    refine ⟨_, Heap.le_refl _, ?_⟩
    repeat' (first | exact Heap.le_refl _ | exact hb2 | exact hb4' | apply le_updN)
  · have h7' : ¬ (m : Int) = 7 := by omega
    simp (disch := first | omega | assumption | decide | (simp <;> omega) | fail) [facts, e8, h7, h7', upd_ne]
    refine w_unroll 5 ?_
    simp (disch := first | omega | assumption | decide | (simp <;> omega) | fail) [facts, upd_ne]
    refine (place_c a _).mono ?_
    rintro v H2 ⟨rfl, rfl⟩
    simp (disch := first | omega | assumption | decide | (simp <;> omega) | fail) [facts, upd_ne]
    refine (place_c b _).mono ?_
    rintro v H2 ⟨rfl, rfl⟩
    simp (disch := first | omega | assumption | decide | (simp <;> omega) | fail) [facts, upd_ne]
    refine (place_c c _).mono ?_
    rintro v H2 ⟨rfl, rfl⟩
    simp (disch := first | omega | assumption | decide | (simp <;> omega) | fail) [facts, upd_ne]
    refine (place_c d _).mono ?_
    rintro v H2 ⟨rfl, rfl⟩
    simp (disch := first | omega | assumption | decide | (simp <;> omega) | fail) [facts, upd_ne, upd_upd]
    refine ⟨_, Heap.le_refl _, ?_⟩
    repeat' (first | exact Heap.le_refl _ | exact hb2 | exact hb4' | apply le_updN)

def fourIn (a b c d : Int) : Prop := fewIn a ∧ fewIn b ∧ fewIn c ∧ fewIn d
instance (a b c d : Int) : Decidable (fourIn a b c d) := inferInstanceAs (Decidable (_ ∧ _))
theorem right_c (a b c d : Int) (H : Heap) : ECalls Try.prog 23 #[notesV a b c d] H fun v H' => v = .bool (decide (fourIn a b c d)) ∧ Heap.le H H' := by
  refine ecalls_of_ewp (args := [_]) Try.func23 rfl rfl rfl (by simp [Try.ntmps23]) (by kernel_rfl) ?_
  unfold notesV
  simp (disch := first | omega | assumption | decide | (simp <;> omega) | fail) [facts, ]
  refine fresh_intro fun bx hbx => ?_
  simp (disch := first | omega | assumption | decide | (simp <;> omega) | fail) [facts, ]
  refine w_unroll 5 ?_
  unfold fourIn
  rcases few_or a with ha | ha | ⟨ha1, ha2⟩
  rotate_left
  · simp (disch := first | omega | assumption | decide | (simp <;> omega) | fail) [facts, ha, show ¬ fewIn a by unfold fewIn; omega]
    exact ⟨_, Heap.le_refl _, le_upd _ hbx⟩
  · simp (disch := first | omega | assumption | decide | (simp <;> omega) | fail) [facts, ha1, ha2, show ¬ fewIn a by unfold fewIn; omega]
    exact ⟨_, Heap.le_refl _, le_upd _ hbx⟩
  have a1 : ¬ a < 0 := by unfold fewIn at ha; omega
  have a2 : ¬ 10000 < a := by unfold fewIn at ha; omega
  rcases few_or b with hb | hb | ⟨hb1, hb2⟩
  rotate_left
  · simp (disch := first | omega | assumption | decide | (simp <;> omega) | fail) [facts, a1, a2, ha, hb, show ¬ fewIn b by unfold fewIn; omega]
    exact ⟨_, Heap.le_refl _, le_upd _ hbx⟩
  · simp (disch := first | omega | assumption | decide | (simp <;> omega) | fail) [facts, a1, a2, ha, hb1, hb2, show ¬ fewIn b by unfold fewIn; omega]
    exact ⟨_, Heap.le_refl _, le_upd _ hbx⟩
  have b1 : ¬ b < 0 := by unfold fewIn at hb; omega
  have b2 : ¬ 10000 < b := by unfold fewIn at hb; omega
  rcases few_or c with hc | hc | ⟨hc1, hc2⟩
  rotate_left
  · simp (disch := first | omega | assumption | decide | (simp <;> omega) | fail) [facts, a1, a2, ha, b1, b2, hb, hc, show ¬ fewIn c by unfold fewIn; omega]
    exact ⟨_, Heap.le_refl _, le_upd _ hbx⟩
  · simp (disch := first | omega | assumption | decide | (simp <;> omega) | fail) [facts, a1, a2, ha, b1, b2, hb, hc1, hc2, show ¬ fewIn c by unfold fewIn; omega]
    exact ⟨_, Heap.le_refl _, le_upd _ hbx⟩
  have c1 : ¬ c < 0 := by unfold fewIn at hc; omega
  have c2 : ¬ 10000 < c := by unfold fewIn at hc; omega
  rcases few_or d with hd | hd | ⟨hd1, hd2⟩
  rotate_left
  · simp (disch := first | omega | assumption | decide | (simp <;> omega) | fail) [facts, a1, a2, ha, b1, b2, hb, c1, c2, hc, hd, show ¬ fewIn d by unfold fewIn; omega]
    exact ⟨_, Heap.le_refl _, le_upd _ hbx⟩
  · simp (disch := first | omega | assumption | decide | (simp <;> omega) | fail) [facts, a1, a2, ha, b1, b2, hb, c1, c2, hc, hd1, hd2, show ¬ fewIn d by unfold fewIn; omega]
    exact ⟨_, Heap.le_refl _, le_upd _ hbx⟩
  have d1 : ¬ d < 0 := by unfold fewIn at hd; omega
  have d2 : ¬ 10000 < d := by unfold fewIn at hd; omega
  simp (disch := first | omega | assumption | decide | (simp <;> omega) | fail) [facts, a1, a2, ha, b1, b2, hb, c1, c2, hc, d1, d2, hd]
  exact ⟨_, Heap.le_refl _, le_upd _ hbx⟩
theorem few_c (a b c d : Int) (H : Heap) : ECalls Try.prog 25 #[notesV a b c d] H fun v H' => v = .bool (decide (fourIn a b c d)) ∧ Heap.le H H' := by
  refine ecalls_of_ewp (args := [_]) Try.func25 rfl rfl rfl (by simp [Try.ntmps25]) (by kernel_rfl) ?_
  unfold notesV
  simp (disch := first | omega | assumption | decide | (simp <;> omega) | fail) [facts, ]
  refine fresh_intro fun bx hbx => ?_
  simp (disch := first | omega | assumption | decide | (simp <;> omega) | fail) [facts, ]
  refine w_unroll 5 ?_
  unfold fourIn
  rcases few_or a with ha | ha | ⟨ha1, ha2⟩
  rotate_left
  · simp (disch := first | omega | assumption | decide | (simp <;> omega) | fail) [facts, ha, show ¬ fewIn a by unfold fewIn; omega]
    exact ⟨_, Heap.le_refl _, le_upd _ hbx⟩
  · simp (disch := first | omega | assumption | decide | (simp <;> omega) | fail) [facts, ha1, ha2, show ¬ fewIn a by unfold fewIn; omega]
    exact ⟨_, Heap.le_refl _, le_upd _ hbx⟩
  have a1 : ¬ a < 0 := by unfold fewIn at ha; omega
  have a2 : ¬ 10000 < a := by unfold fewIn at ha; omega
  rcases few_or b with hb | hb | ⟨hb1, hb2⟩
  rotate_left
  · simp (disch := first | omega | assumption | decide | (simp <;> omega) | fail) [facts, a1, a2, ha, hb, show ¬ fewIn b by unfold fewIn; omega]
    exact ⟨_, Heap.le_refl _, le_upd _ hbx⟩
  · simp (disch := first | omega | assumption | decide | (simp <;> omega) | fail) [facts, a1, a2, ha, hb1, hb2, show ¬ fewIn b by unfold fewIn; omega]
    exact ⟨_, Heap.le_refl _, le_upd _ hbx⟩
  have b1 : ¬ b < 0 := by unfold fewIn at hb; omega
  have b2 : ¬ 10000 < b := by unfold fewIn at hb; omega
  rcases few_or c with hc | hc | ⟨hc1, hc2⟩
  rotate_left
  · simp (disch := first | omega | assumption | decide | (simp <;> omega) | fail) [facts, a1, a2, ha, b1, b2, hb, hc, show ¬ fewIn c by unfold fewIn; omega]
    exact ⟨_, Heap.le_refl _, le_upd _ hbx⟩
  · simp (disch := first | omega | assumption | decide | (simp <;> omega) | fail) [facts, a1, a2, ha, b1, b2, hb, hc1, hc2, show ¬ fewIn c by unfold fewIn; omega]
    exact ⟨_, Heap.le_refl _, le_upd _ hbx⟩
  have c1 : ¬ c < 0 := by unfold fewIn at hc; omega
  have c2 : ¬ 10000 < c := by unfold fewIn at hc; omega
  rcases few_or d with hd | hd | ⟨hd1, hd2⟩
  rotate_left
  · simp (disch := first | omega | assumption | decide | (simp <;> omega) | fail) [facts, a1, a2, ha, b1, b2, hb, c1, c2, hc, hd, show ¬ fewIn d by unfold fewIn; omega]
    exact ⟨_, Heap.le_refl _, le_upd _ hbx⟩
  · simp (disch := first | omega | assumption | decide | (simp <;> omega) | fail) [facts, a1, a2, ha, b1, b2, hb, c1, c2, hc, hd1, hd2, show ¬ fewIn d by unfold fewIn; omega]
    exact ⟨_, Heap.le_refl _, le_upd _ hbx⟩
  have d1 : ¬ d < 0 := by unfold fewIn at hd; omega
  have d2 : ¬ 10000 < d := by unfold fewIn at hd; omega
  simp (disch := first | omega | assumption | decide | (simp <;> omega) | fail) [facts, a1, a2, ha, b1, b2, hb, c1, c2, hc, d1, d2, hd]
  exact ⟨_, Heap.le_refl _, le_upd _ hbx⟩

def leftZ (l g r : Int) : Int := if fewIn l ∧ fewIn g ∧ fewIn r then max (l - g - r) 0 else 0
def cassV (d l g r : Int) : Value := .agg #[.int .i64 d, .int .i64 l, .int .i64 g, .int .i64 r]
theorem left_c (d l g r : Int) (H : Heap) : ECalls Try.prog 24 #[cassV d l g r] H fun v H' => v = .int .i64 (leftZ l g r) ∧ Heap.le H H' := by
  refine ecalls_of_ewp (args := [_]) Try.func24 rfl rfl rfl (by simp [Try.ntmps24]) (by kernel_rfl) ?_
  unfold cassV leftZ
  simp (disch := first | omega | assumption | decide | (simp <;> omega) | fail) [facts, ]
  refine fresh_intro fun b1 hb1 => ?_
  simp (disch := first | omega | assumption | decide | (simp <;> omega) | fail) [facts, ]
  refine fresh_intro fun b2 hb2 => ?_
  have q : b1 ≠ b2 := ne_of_fresh hb2 (upd_same _ _ _)
  have hle := Heap.le_trans (le_upd (.row true 0 [.int .i64 d, .int .i64 l, .int .i64 g, .int .i64 r] 0) hb1) (le_upd (.row true 0 [.int .i64 l, .int .i64 g, .int .i64 r] 0) hb2)
  simp (disch := first | omega | assumption | decide | (simp <;> omega) | fail) [facts, upd_ne]
  refine w_unroll 4 ?_
  rcases few_or l with hl | hl | ⟨hl1, hl2⟩
  rotate_left
  · simp (disch := first | omega | assumption | decide | (simp <;> omega) | fail) [facts, hl, show ¬ fewIn l by unfold fewIn; omega, upd_ne]
    exact ⟨_, Heap.le_refl _, hle⟩
  · simp (disch := first | omega | assumption | decide | (simp <;> omega) | fail) [facts, hl1, hl2, show ¬ fewIn l by unfold fewIn; omega, upd_ne]
    exact ⟨_, Heap.le_refl _, hle⟩
  have l1 : ¬ l < 0 := by unfold fewIn at hl; omega
  have l2 : ¬ 10000 < l := by unfold fewIn at hl; omega
  rcases few_or g with hg | hg | ⟨hg1, hg2⟩
  rotate_left
  · simp (disch := first | omega | assumption | decide | (simp <;> omega) | fail) [facts, l1, l2, hl, hg, show ¬ fewIn g by unfold fewIn; omega, upd_ne]
    exact ⟨_, Heap.le_refl _, hle⟩
  · simp (disch := first | omega | assumption | decide | (simp <;> omega) | fail) [facts, l1, l2, hl, hg1, hg2, show ¬ fewIn g by unfold fewIn; omega, upd_ne]
    exact ⟨_, Heap.le_refl _, hle⟩
  have g1 : ¬ g < 0 := by unfold fewIn at hg; omega
  have g2 : ¬ 10000 < g := by unfold fewIn at hg; omega
  rcases few_or r with hr | hr | ⟨hr1, hr2⟩
  rotate_left
  · simp (disch := first | omega | assumption | decide | (simp <;> omega) | fail) [facts, l1, l2, hl, g1, g2, hg, hr, show ¬ fewIn r by unfold fewIn; omega, upd_ne]
    exact ⟨_, Heap.le_refl _, hle⟩
  · simp (disch := first | omega | assumption | decide | (simp <;> omega) | fail) [facts, l1, l2, hl, g1, g2, hg, hr1, hr2, show ¬ fewIn r by unfold fewIn; omega, upd_ne]
    exact ⟨_, Heap.le_refl _, hle⟩
  have r1 : ¬ r < 0 := by unfold fewIn at hr; omega
  have r2 : ¬ 10000 < r := by unfold fewIn at hr; omega
  have hl' := hl
  have hg' := hg
  have hr' := hr
  unfold fewIn at hl' hg' hr'
  simp (disch := first | omega | assumption | decide | (simp <;> omega) | fail) [facts, l1, l2, hl, g1, g2, hg, r1, r2, hr, upd_ne]
  exact ⟨_, Heap.le_refl _, hle⟩
end Go.Proofs.Ytgeocnggfgpmoaa.GL
