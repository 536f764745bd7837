/- Layer 18: the small functions on numbers of notes.; Layer 18: a set of cassettes: what its functions do with it.; Layer 18: notes given; what was given is worth.; Layer 18: the reference's set of cassettes.; Layer 18: the walk of SetPlays. -/
import Derived.Test.YthaggpicjpkjiaaGreatBkR
namespace Go.Proofs.YthaggpicjpkjiaaGreat.GL.Ca
open Go Go.RowKit Go.Proofs.YthaggpicjpkjiaaGreat.GL
set_option maxRecDepth 10000
set_option pp.deepTerms.threshold 8
set_option pp.maxSteps 3000
set_option linter.unusedSimpArgs false
set_option linter.unusedVariables false

def fewIn (z : Int) : Prop := 0 ≤ z ∧ z ≤ 10000
instance (z : Int) : Decidable (fewIn z) := inferInstanceAs (Decidable (_ ∧ _))
theorem few_or (z : Int) : fewIn z ∨ z < 0 ∨ (¬ z < 0 ∧ 10000 < z) := by unfold fewIn; omega
def placeZ (k : Int) : Int := if k.tmod 4 < 0 then k.tmod 4 + 4 else k.tmod 4
theorem placeZ_in (k : Int) : 0 ≤ placeZ k ∧ placeZ k ≤ 3 := by
  have h1 := Int.tmod_lt_of_pos k (show (0 : Int) < 4 by decide)
  have h3 : (-k).tmod 4 = -(k.tmod 4) := Int.neg_tmod k 4
  have h4 := Int.tmod_lt_of_pos (-k) (show (0 : Int) < 4 by decide)
  unfold placeZ; split <;> omega
def notesV (a b c d : Int) : Value := .agg #[.int .i64 a, .int .i64 b, .int .i64 c, .int .i64 d]
def fourIn (a b c d : Int) : Prop := fewIn a ∧ fewIn b ∧ fewIn c ∧ fewIn d
instance (a b c d : Int) : Decidable (fourIn a b c d) := inferInstanceAs (Decidable (_ ∧ _))
theorem right_c (a b c d : Int) (H : Heap) : ECalls Tryz.prog 59 #[notesV a b c d] H fun v H' => v = .bool (decide (fourIn a b c d)) ∧ Heap.le H H' := by
  refine ecalls_of_ewp (args := [_]) Tryz.func59 rfl rfl rfl (by simp [Tryz.ntmps59]) (by kernel_rfl) ?_
  unfold notesV
  simp (disch := first | omega | assumption | decide | (simp <;> omega) | fail) [facts, ]
  refine fresh_intro fun bx hbx => ?_
  simp (disch := first | omega | assumption | decide | (simp <;> omega) | fail) [facts, ]
  refine w_unroll 5 ?_
  unfold fourIn
  rcases few_or a with ha | ha | ⟨ha1, ha2⟩
  rotate_left
  · simp (disch := first | omega | assumption | decide | (simp <;> omega) | fail) [facts, ha, show ¬ fewIn a by unfold fewIn; omega]
    exact ⟨_, Heap.le_refl _, le_upd _ hbx⟩
  · simp (disch := first | omega | assumption | decide | (simp <;> omega) | fail) [facts, ha1, ha2, show ¬ fewIn a by unfold fewIn; omega]
    exact ⟨_, Heap.le_refl _, le_upd _ hbx⟩
  have a1 : ¬ a < 0 := by unfold fewIn at ha; omega
  have a2 : ¬ 10000 < a := by unfold fewIn at ha; omega
  rcases few_or b with hb | hb | ⟨hb1, hb2⟩
  rotate_left
  · simp (disch := first | omega | assumption | decide | (simp <;> omega) | fail) [facts, a1, a2, ha, hb, show ¬ fewIn b by unfold fewIn; omega]
    exact ⟨_, Heap.le_refl _, le_upd _ hbx⟩
  · simp (disch := first | omega | assumption | decide | (simp <;> omega) | fail) [facts, a1, a2, ha, hb1, hb2, show ¬ fewIn b by unfold fewIn; omega]
    exact ⟨_, Heap.le_refl _, le_upd _ hbx⟩
  have b1 : ¬ b < 0 := by unfold fewIn at hb; omega
  have b2 : ¬ 10000 < b := by unfold fewIn at hb; omega
  rcases few_or c with hc | hc | ⟨hc1, hc2⟩
  rotate_left
  · simp (disch := first | omega | assumption | decide | (simp <;> omega) | fail) [facts, a1, a2, ha, b1, b2, hb, hc, show ¬ fewIn c by unfold fewIn; omega]
    exact ⟨_, Heap.le_refl _, le_upd _ hbx⟩
  · simp (disch := first | omega | assumption | decide | (simp <;> omega) | fail) [facts, a1, a2, ha, b1, b2, hb, hc1, hc2, show ¬ fewIn c by unfold fewIn; omega]
    exact ⟨_, Heap.le_refl _, le_upd _ hbx⟩
  have c1 : ¬ c < 0 := by unfold fewIn at hc; omega
  have c2 : ¬ 10000 < c := by unfold fewIn at hc; omega
  rcases few_or d with hd | hd | ⟨hd1, hd2⟩
  rotate_left
  · simp (disch := first | omega | assumption | decide | (simp <;> omega) | fail) [facts, a1, a2, ha, b1, b2, hb, c1, c2, hc, hd, show ¬ fewIn d by unfold fewIn; omega]
    exact ⟨_, Heap.le_refl _, le_upd _ hbx⟩
  · simp (disch := first | omega | assumption | decide | (simp <;> omega) | fail) [facts, a1, a2, ha, b1, b2, hb, c1, c2, hc, hd1, hd2, show ¬ fewIn d by unfold fewIn; omega]
    exact ⟨_, Heap.le_refl _, le_upd _ hbx⟩
  have d1 : ¬ d < 0 := by unfold fewIn at hd; omega
  have d2 : ¬ 10000 < d := by unfold fewIn at hd; omega
  simp (disch := first | omega | assumption | decide | (simp <;> omega) | fail) [facts, a1, a2, ha, b1, b2, hb, c1, c2, hc, d1, d2, hd]
  exact ⟨_, Heap.le_refl _, le_upd _ hbx⟩
theorem few_c (a b c d : Int) (H : Heap) : ECalls Tryz.prog 63 #[notesV a b c d] H fun v H' => v = .bool (decide (fourIn a b c d)) ∧ Heap.le H H' := by
  refine ecalls_of_ewp (args := [_]) Tryz.func63 rfl rfl rfl (by simp [Tryz.ntmps63]) (by kernel_rfl) ?_
  unfold notesV
  simp (disch := first | omega | assumption | decide | (simp <;> omega) | fail) [facts, ]
  refine fresh_intro fun bx hbx => ?_
  simp (disch := first | omega | assumption | decide | (simp <;> omega) | fail) [facts, ]
  refine w_unroll 5 ?_
  unfold fourIn
  rcases few_or a with ha | ha | ⟨ha1, ha2⟩
  rotate_left
  · simp (disch := first | omega | assumption | decide | (simp <;> omega) | fail) [facts, ha, show ¬ fewIn a by unfold fewIn; omega]
    exact ⟨_, Heap.le_refl _, le_upd _ hbx⟩
  · simp (disch := first | omega | assumption | decide | (simp <;> omega) | fail) [facts, ha1, ha2, show ¬ fewIn a by unfold fewIn; omega]
    exact ⟨_, Heap.le_refl _, le_upd _ hbx⟩
  have a1 : ¬ a < 0 := by unfold fewIn at ha; omega
  have a2 : ¬ 10000 < a := by unfold fewIn at ha; omega
  rcases few_or b with hb | hb | ⟨hb1, hb2⟩
  rotate_left
  · simp (disch := first | omega | assumption | decide | (simp <;> omega) | fail) [facts, a1, a2, ha, hb, show ¬ fewIn b by unfold fewIn; omega]
    exact ⟨_, Heap.le_refl _, le_upd _ hbx⟩
  · simp (disch := first | omega | assumption | decide | (simp <;> omega) | fail) [facts, a1, a2, ha, hb1, hb2, show ¬ fewIn b by unfold fewIn; omega]
    exact ⟨_, Heap.le_refl _, le_upd _ hbx⟩
  have b1 : ¬ b < 0 := by unfold fewIn at hb; omega
  have b2 : ¬ 10000 < b := by unfold fewIn at hb; omega
  rcases few_or c with hc | hc | ⟨hc1, hc2⟩
  rotate_left
  · simp (disch := first | omega | assumption | decide | (simp <;> omega) | fail) [facts, a1, a2, ha, b1, b2, hb, hc, show ¬ fewIn c by unfold fewIn; omega]
    exact ⟨_, Heap.le_refl _, le_upd _ hbx⟩
  · simp (disch := first | omega | assumption | decide | (simp <;> omega) | fail) [facts, a1, a2, ha, b1, b2, hb, hc1, hc2, show ¬ fewIn c by unfold fewIn; omega]
    exact ⟨_, Heap.le_refl _, le_upd _ hbx⟩
  have c1 : ¬ c < 0 := by unfold fewIn at hc; omega
  have c2 : ¬ 10000 < c := by unfold fewIn at hc; omega
  rcases few_or d with hd | hd | ⟨hd1, hd2⟩
  rotate_left
  · simp (disch := first | omega | assumption | decide | (simp <;> omega) | fail) [facts, a1, a2, ha, b1, b2, hb, c1, c2, hc, hd, show ¬ fewIn d by unfold fewIn; omega]
    exact ⟨_, Heap.le_refl _, le_upd _ hbx⟩
  · simp (disch := first | omega | assumption | decide | (simp <;> omega) | fail) [facts, a1, a2, ha, b1, b2, hb, c1, c2, hc, hd1, hd2, show ¬ fewIn d by unfold fewIn; omega]
    exact ⟨_, Heap.le_refl _, le_upd _ hbx⟩
  have d1 : ¬ d < 0 := by unfold fewIn at hd; omega
  have d2 : ¬ 10000 < d := by unfold fewIn at hd; omega
  simp (disch := first | omega | assumption | decide | (simp <;> omega) | fail) [facts, a1, a2, ha, b1, b2, hb, c1, c2, hc, d1, d2, hd]
  exact ⟨_, Heap.le_refl _, le_upd _ hbx⟩

def leftZ (l g r : Int) : Int := if fewIn l ∧ fewIn g ∧ fewIn r then max (l - g - r) 0 else 0
def cassV (d l g r : Int) : Value := .agg #[.int .i64 d, .int .i64 l, .int .i64 g, .int .i64 r]
theorem left_c (d l g r : Int) (H : Heap) : ECalls Tryz.prog 60 #[cassV d l g r] H fun v H' => v = .int .i64 (leftZ l g r) ∧ Heap.le H H' := by
  refine ecalls_of_ewp (args := [_]) Tryz.func60 rfl rfl rfl (by simp [Tryz.ntmps60]) (by kernel_rfl) ?_
  unfold cassV leftZ
  simp (disch := first | omega | assumption | decide | (simp <;> omega) | fail) [facts, ]
  refine fresh_intro fun b1 hb1 => ?_
  simp (disch := first | omega | assumption | decide | (simp <;> omega) | fail) [facts, ]
  refine fresh_intro fun b2 hb2 => ?_
  have q : b1 ≠ b2 := ne_of_fresh hb2 (upd_same _ _ _)
  have hle := Heap.le_trans (le_upd (.row true 0 [.int .i64 d, .int .i64 l, .int .i64 g, .int .i64 r] 0) hb1) (le_upd (.row true 0 [.int .i64 l, .int .i64 g, .int .i64 r] 0) hb2)
  simp (disch := first | omega | assumption | decide | (simp <;> omega) | fail) [facts, upd_ne]
  refine w_unroll 4 ?_
  rcases few_or l with hl | hl | ⟨hl1, hl2⟩
  rotate_left
  · simp (disch := first | omega | assumption | decide | (simp <;> omega) | fail) [facts, hl, show ¬ fewIn l by unfold fewIn; omega, upd_ne]
    exact ⟨_, Heap.le_refl _, hle⟩
  · simp (disch := first | omega | assumption | decide | (simp <;> omega) | fail) [facts, hl1, hl2, show ¬ fewIn l by unfold fewIn; omega, upd_ne]
    exact ⟨_, Heap.le_refl _, hle⟩
  have l1 : ¬ l < 0 := by unfold fewIn at hl; omega
  have l2 : ¬ 10000 < l := by unfold fewIn at hl; omega
  rcases few_or g with hg | hg | ⟨hg1, hg2⟩
  rotate_left
  · simp (disch := first | omega | assumption | decide | (simp <;> omega) | fail) [facts, l1, l2, hl, hg, show ¬ fewIn g by unfold fewIn; omega, upd_ne]
    exact ⟨_, Heap.le_refl _, hle⟩
  · simp (disch := first | omega | assumption | decide | (simp <;> omega) | fail) [facts, l1, l2, hl, hg1, hg2, show ¬ fewIn g by unfold fewIn; omega, upd_ne]
    exact ⟨_, Heap.le_refl _, hle⟩
  have g1 : ¬ g < 0 := by unfold fewIn at hg; omega
  have g2 : ¬ 10000 < g := by unfold fewIn at hg; omega
  rcases few_or r with hr | hr | ⟨hr1, hr2⟩
  rotate_left
  · simp (disch := first | omega | assumption | decide | (simp <;> omega) | fail) [facts, l1, l2, hl, g1, g2, hg, hr, show ¬ fewIn r by unfold fewIn; omega, upd_ne]
    exact ⟨_, Heap.le_refl _, hle⟩
  · simp (disch := first | omega | assumption | decide | (simp <;> omega) | fail) [facts, l1, l2, hl, g1, g2, hg, hr1, hr2, show ¬ fewIn r by unfold fewIn; omega, upd_ne]
    exact ⟨_, Heap.le_refl _, hle⟩
  have r1 : ¬ r < 0 := by unfold fewIn at hr; omega
  have r2 : ¬ 10000 < r := by unfold fewIn at hr; omega
  have hl' := hl
  have hg' := hg
  have hr' := hr
  unfold fewIn at hl' hg' hr'
  simp (disch := first | omega | assumption | decide | (simp <;> omega) | fail) [facts, l1, l2, hl, g1, g2, hg, r1, r2, hr, upd_ne]
  exact ⟨_, Heap.le_refl _, hle⟩
end Go.Proofs.YthaggpicjpkjiaaGreat.GL.Ca

namespace Go.Proofs.YthaggpicjpkjiaaGreat.GL.Ca
open Go Go.RowKit Go.Proofs.YthaggpicjpkjiaaGreat.GL
set_option maxRecDepth 10000
set_option pp.deepTerms.threshold 8
set_option pp.maxSteps 3000
set_option linter.unusedSimpArgs false
set_option linter.unusedVariables false

theorem fresh_abs {f : Nat → Value} {g : GObj} {H : Heap} {K : Kont} (P : Heap → Prop) (hP : P H) (h : ∀ H' b, P H' → H' b = none → K (f b) (upd H' b g)) : eFresh f g H K := fun b hb => h H b hP hb
theorem dele_get {H : Heap} {b p : Nat} {o : GObj} (hne : b ≠ p) (h : H b = some o) : (dele H p) b = some o := by rw [dele_ne _ hne]; exact h
theorem le_dele {H H1 : Heap} (p : Nat) (hl : Heap.le H H1) : Heap.le (dele H p) H1 := Heap.le_trans (dele_le _ _) hl
theorem dele_none {H : Heap} (p : Nat) : dele H p p = none := dele_same H p
structure Cs where
  d : Int
  l : Int
  g : Int
  r : Int
structure S4 where
  a : Cs
  b : Cs
  c : Cs
  e : Cs
def flat (s : S4) : List Value := [.int .i64 s.a.d, .int .i64 s.a.l, .int .i64 s.a.g, .int .i64 s.a.r, .int .i64 s.b.d, .int .i64 s.b.l, .int .i64 s.b.g, .int .i64 s.b.r, .int .i64 s.c.d, .int .i64 s.c.l, .int .i64 s.c.g, .int .i64 s.c.r, .int .i64 s.e.d, .int .i64 s.e.l, .int .i64 s.e.g, .int .i64 s.e.r]
def setV (s : S4) : Value := .agg (flat s).toArray
def newC (c : Cs) : Cs := ⟨c.d, min (max c.l 0) 10000, 0, 0⟩
def newS (s : S4) : S4 := ⟨newC s.a, newC s.b, newC s.c, newC s.e⟩
def loadS (s : S4) (n0 n1 n2 n3 : Int) : S4 := ⟨⟨s.a.d, n0, 0, 0⟩, ⟨s.b.d, n1, 0, 0⟩, ⟨s.c.d, n2, 0, 0⟩, ⟨s.e.d, n3, 0, 0⟩⟩
def addC (c : Cs) (n r : Int) : Cs := ⟨c.d, c.l, c.g + n, c.r + r⟩
def OkC (c : Cs) : Prop := fewIn c.l ∧ fewIn c.g ∧ fewIn c.r ∧ c.g + c.r ≤ c.l ∧ i64In c.d
def OkS (s : S4) : Prop := OkC s.a ∧ OkC s.b ∧ OkC s.c ∧ OkC s.e
def fitC (c : Cs) (n r : Int) : Prop := n + r ≤ leftZ c.l c.g c.r

set_option maxHeartbeats 400000 in
theorem new_c (s : S4) (H : Heap) : ECalls Tryz.prog 23 #[setV s] H fun v H' => ∃ p, v = .pointer (some ⟨p, 0, none⟩) ∧ H p = none ∧ H' p = some (.row true 0 (flat (newS s)) 0) ∧ Heap.le H H' := by
  refine ecalls_of_ewp (args := [_]) Tryz.func23 rfl rfl rfl (by simp [Tryz.ntmps23]) (by kernel_rfl) ?_
  obtain ⟨⟨d0, l0, g0, r0⟩, ⟨d1, l1, g1, r1⟩, ⟨d2, l2, g2, r2⟩, ⟨d3, l3, g3, r3⟩⟩ := s
  simp only [setV, flat, newS, newC]
  simp (disch := first | omega | assumption | decide | (simp <;> omega) | fail) [facts, ]
  refine fresh_intro fun b1 hb1 => ?_
  simp (disch := first | omega | assumption | decide | (simp <;> omega) | fail) [facts, ]
  refine fresh_intro fun p hp => ?_
  have q1 : b1 ≠ p := ne_of_fresh hp (upd_same _ _ _)
  have hpn : H p = none := le_of_none (le_upd _ hb1) hp
  simp (disch := first | omega | assumption | decide | (simp <;> omega) | fail) [facts, upd_ne]
  refine w_unroll 5 ?_
  simp (disch := first | omega | assumption | decide | (simp <;> omega) | fail) [facts, upd_ne]
  refine fresh_abs (fun H' => Heap.le H H' ∧ H' p = some (.row true 0 [.int .i64 0, .int .i64 0, .int .i64 0, .int .i64 0, .int .i64 0, .int .i64 0, .int .i64 0, .int .i64 0, .int .i64 0, .int .i64 0, .int .i64 0, .int .i64 0, .int .i64 0, .int .i64 0, .int .i64 0, .int .i64 0] 0)) ⟨?_, by simp⟩ ?_
  · repeat' (first | exact hle | exact Heap.le_refl _ | assumption | (refine le_of_none hle ?_; assumption) | apply le_updN)
  rintro H0 x0 ⟨hle, lp⟩ hx0
  have y0 : p ≠ x0 := ne_of_fresh hx0 lp
  have z0 : H x0 = none := le_of_none hle hx0
  simp (disch := first | omega | assumption | decide | (simp <;> omega) | fail) [facts, lp, upd_ne, upd_upd]
  refine w_plan (P := Tryz.prog) (by simp [facts]) (opsP [0,1,2,3,4,5,6,7,8,9,10,11,12] .done) ?_ ?_
  · decide +kernel
  simp (disch := first | omega | assumption | decide | (simp <;> omega) | fail) [facts, lp, upd_ne, upd_upd]
  refine fresh_abs (fun H' => Heap.le H H' ∧ H' p = some (.row true 0 [.int .i64 d0, .int .i64 (min (max l0 0) 10000), .int .i64 0, .int .i64 0, .int .i64 0, .int .i64 0, .int .i64 0, .int .i64 0, .int .i64 0, .int .i64 0, .int .i64 0, .int .i64 0, .int .i64 0, .int .i64 0, .int .i64 0, .int .i64 0] 0)) ⟨?_, by simp⟩ ?_
  · repeat' (first | exact hle | exact Heap.le_refl _ | assumption | (refine le_of_none hle ?_; assumption) | apply le_updN)
  rintro H1 x1 ⟨hle, lp⟩ hx1
  have y1 : p ≠ x1 := ne_of_fresh hx1 lp
  have z1 : H x1 = none := le_of_none hle hx1
  simp (disch := first | omega | assumption | decide | (simp <;> omega) | fail) [facts, lp, upd_ne, upd_upd]
  refine w_plan (P := Tryz.prog) (by simp [facts]) (opsP [0,1,2,3,4,5,6,7,8,9,10,11,12] .done) ?_ ?_
  · decide +kernel
  simp (disch := first | omega | assumption | decide | (simp <;> omega) | fail) [facts, lp, upd_ne, upd_upd]
  refine fresh_abs (fun H' => Heap.le H H' ∧ H' p = some (.row true 0 [.int .i64 d0, .int .i64 (min (max l0 0) 10000), .int .i64 0, .int .i64 0, .int .i64 d1, .int .i64 (min (max l1 0) 10000), .int .i64 0, .int .i64 0, .int .i64 0, .int .i64 0, .int .i64 0, .int .i64 0, .int .i64 0, .int .i64 0, .int .i64 0, .int .i64 0] 0)) ⟨?_, by simp⟩ ?_
  · repeat' (first | exact hle | exact Heap.le_refl _ | assumption | (refine le_of_none hle ?_; assumption) | apply le_updN)
  rintro H2 x2 ⟨hle, lp⟩ hx2
  have y2 : p ≠ x2 := ne_of_fresh hx2 lp
  have z2 : H x2 = none := le_of_none hle hx2
  simp (disch := first | omega | assumption | decide | (simp <;> omega) | fail) [facts, lp, upd_ne, upd_upd]
  refine w_plan (P := Tryz.prog) (by simp [facts]) (opsP [0,1,2,3,4,5,6,7,8,9,10,11,12] .done) ?_ ?_
  · decide +kernel
  simp (disch := first | omega | assumption | decide | (simp <;> omega) | fail) [facts, lp, upd_ne, upd_upd]
  refine fresh_abs (fun H' => Heap.le H H' ∧ H' p = some (.row true 0 [.int .i64 d0, .int .i64 (min (max l0 0) 10000), .int .i64 0, .int .i64 0, .int .i64 d1, .int .i64 (min (max l1 0) 10000), .int .i64 0, .int .i64 0, .int .i64 d2, .int .i64 (min (max l2 0) 10000), .int .i64 0, .int .i64 0, .int .i64 0, .int .i64 0, .int .i64 0, .int .i64 0] 0)) ⟨?_, by simp⟩ ?_
  · repeat' (first | exact hle | exact Heap.le_refl _ | assumption | (refine le_of_none hle ?_; assumption) | apply le_updN)
  rintro H3 x3 ⟨hle, lp⟩ hx3
  have y3 : p ≠ x3 := ne_of_fresh hx3 lp
  have z3 : H x3 = none := le_of_none hle hx3
  simp (disch := first | omega | assumption | decide | (simp <;> omega) | fail) [facts, lp, upd_ne, upd_upd]
  refine w_plan (P := Tryz.prog) (by simp [facts]) (opsP [0,1,2,3,4,5,6,7,8,9,10,11,12] .done) ?_ ?_
  · decide +kernel
  simp (disch := first | omega | assumption | decide | (simp <;> omega) | fail) [facts, lp, upd_ne, upd_upd]
  refine ⟨_, Heap.le_refl _, hpn, by simp, ?_⟩
  repeat' (first | exact hle | exact Heap.le_refl _ | assumption | (refine le_of_none hle ?_; assumption) | apply le_updN)

set_option maxHeartbeats 400000 in
theorem all_c (s : S4) (p : Nat) (ob : Bool) (lo : Int) (H : Heap) (lp : H p = some (.row true 0 (flat s ++ [.bool ob, .int .i64 lo]) 0)) : ECalls Tryz.prog 48 #[.pointer (some ⟨p, 0, none⟩)] H fun v H' => v = setV s ∧ Heap.le H H' := by
  refine ecalls_of_ewp (args := [_]) Tryz.func48 rfl rfl rfl (by simp [Tryz.ntmps48]) (by kernel_rfl) ?_
  obtain ⟨⟨d0, l0, g0, r0⟩, ⟨d1, l1, g1, r1⟩, ⟨d2, l2, g2, r2⟩, ⟨d3, l3, g3, r3⟩⟩ := s
  simp only [setV, flat, List.cons_append, List.nil_append] at lp ⊢
  simp (disch := first | omega | assumption | decide | (simp <;> omega) | fail) [facts, ]
  refine fresh_intro fun b2 hb2 => ?_
  have q : p ≠ b2 := ne_of_fresh hb2 lp
  simp (disch := first | omega | assumption | decide | (simp <;> omega) | fail) [facts, lp, upd_ne, upd_upd]
  exact ⟨_, Heap.le_refl _, le_upd _ hb2⟩

set_option maxHeartbeats 400000 in
theorem load_c (s : S4) (p : Nat) (n0 n1 n2 n3 : Int) (ob : Bool) (lo : Int) (H : Heap) (lp : H p = some (.row true 0 (flat s ++ [.bool ob, .int .i64 lo]) 0)) : ECalls Tryz.prog 28 #[.pointer (some ⟨p, 0, none⟩), notesV n0 n1 n2 n3] H fun v H' => v = .int .i64 (if fourIn n0 n1 n2 n3 then 0 else 20) ∧ Heap.le (dele H p) H' ∧ H' p = some (.row true 0 (flat (if fourIn n0 n1 n2 n3 then loadS s n0 n1 n2 n3 else s) ++ [.bool ob, .int .i64 lo]) 0) := by
  refine ecalls_of_ewp (args := [_, _]) Tryz.func28 rfl rfl rfl (by simp [Tryz.ntmps28]) (by kernel_rfl) ?_
  have cr := fun H => right_c n0 n1 n2 n3 H
  by_cases hf : fourIn n0 n1 n2 n3
  · rw [if_pos hf, if_pos hf]
    simp only [hf, decide_true] at cr
    obtain ⟨⟨d0, l0, g0, r0⟩, ⟨d1, l1, g1, r1⟩, ⟨d2, l2, g2, r2⟩, ⟨d3, l3, g3, r3⟩⟩ := s
    simp only [notesV, flat, loadS, List.cons_append, List.nil_append] at lp cr ⊢
    simp (disch := first | omega | assumption | decide | (simp <;> omega) | fail) [facts, ]
    refine fresh_intro fun b3 hb3 => ?_
    have q : p ≠ b3 := ne_of_fresh hb3 lp
    have q' := q.symm
    simp (disch := first | omega | assumption | decide | (simp <;> omega) | fail) [facts, upd_ne]
    refine (cr _).mono ?_
    rintro v H2 ⟨rfl, hle2⟩
    have l3 := hle2 _ _ (upd_same _ _ _)
    have hle : Heap.le (dele H p) H2 := le_dele p (Heap.le_trans (le_upd _ hb3) hle2)
    replace lp := hle2 _ _ (upd_other hb3 lp)
    have hpn := dele_none (H := H) p
    simp (disch := first | omega | assumption | decide | (simp <;> omega) | fail) [facts, l3, lp, upd_ne]
    refine w_unroll 5 ?_
    simp (disch := first | omega | assumption | decide | (simp <;> omega) | fail) [facts, l3, lp, upd_ne]
    refine w_plan (P := Tryz.prog) (by simp [facts]) (opsP [0,1,2,3,4,5,6,7,8,9,10,11,12,14,15,19,20,13,16,17,18,21,22,23] .done) ?_ ?_
    · decide +kernel
    simp (disch := first | omega | assumption | decide | (simp <;> omega) | fail) [facts, l3, lp, upd_ne, upd_upd]
    refine w_plan (P := Tryz.prog) (by simp [facts]) (opsP [0,1,2,3,4,5,6,7,8,9,10,11,12,14,15,19,20,13,16,17,18,21,22,23] .done) ?_ ?_
    · decide +kernel
    simp (disch := first | omega | assumption | decide | (simp <;> omega) | fail) [facts, l3, lp, upd_ne, upd_upd]
    refine w_plan (P := Tryz.prog) (by simp [facts]) (opsP [0,1,2,3,4,5,6,7,8,9,10,11,12,14,15,19,20,13,16,17,18,21,22,23] .done) ?_ ?_
    · decide +kernel
    simp (disch := first | omega | assumption | decide | (simp <;> omega) | fail) [facts, l3, lp, upd_ne, upd_upd]
    refine w_plan (P := Tryz.prog) (by simp [facts]) (opsP [0,1,2,3,4,5,6,7,8,9,10,11,12,14,15,19,20,13,16,17,18,21,22,23] .done) ?_ ?_
    · decide +kernel
    simp (disch := first | omega | assumption | decide | (simp <;> omega) | fail) [facts, l3, lp, upd_ne, upd_upd]
    refine ⟨_, Heap.le_refl _, ?_, by simp⟩
    repeat' (first | exact hle | exact Heap.le_refl _ | assumption | (refine le_of_none hle ?_; assumption) | apply le_updN)
  · rw [if_neg hf, if_neg hf]
    simp only [hf, decide_false] at cr
    simp only [notesV] at cr ⊢
    simp (disch := first | omega | assumption | decide | (simp <;> omega) | fail) [facts, ]
    refine fresh_intro fun b3 hb3 => ?_
    simp (disch := first | omega | assumption | decide | (simp <;> omega) | fail) [facts, ]
    refine (cr _).mono ?_
    rintro v H2 ⟨rfl, hle2⟩
    simp (disch := first | omega | assumption | decide | (simp <;> omega) | fail) [facts, ]
    exact ⟨_, Heap.le_refl _, le_dele p (Heap.le_trans (le_upd _ hb3) hle2), hle2 _ _ (upd_other hb3 lp)⟩

end Go.Proofs.YthaggpicjpkjiaaGreat.GL.Ca

namespace Go.Proofs.YthaggpicjpkjiaaGreat.GL.Ca
open Go Go.RowKit Go.Proofs.YthaggpicjpkjiaaGreat.GL
set_option maxRecDepth 10000
set_option pp.deepTerms.threshold 8
set_option pp.maxSteps 3000
set_option linter.unusedSimpArgs false
set_option linter.unusedVariables false

def fitS (s : S4) (n0 n1 n2 n3 r0 r1 r2 r3 : Int) : Prop := fitC s.a n0 r0 ∧ fitC s.b n1 r1 ∧ fitC s.c n2 r2 ∧ fitC s.e n3 r3
instance (c : Cs) (n r : Int) : Decidable (fitC c n r) := inferInstanceAs (Decidable (_ ≤ _))
instance (s : S4) (n0 n1 n2 n3 r0 r1 r2 r3 : Int) : Decidable (fitS s n0 n1 n2 n3 r0 r1 r2 r3) := inferInstanceAs (Decidable (_ ∧ _))
def addS (s : S4) (n0 n1 n2 n3 r0 r1 r2 r3 : Int) : S4 := ⟨addC s.a n0 r0, addC s.b n1 r1, addC s.c n2 r2, addC s.e n3 r3⟩

theorem give_c_bad (s : S4) (p : Nat) (n0 n1 n2 n3 r0 r1 r2 r3 : Int) (ob : Bool) (lo : Int) (H : Heap) (lp : H p = some (.row true 0 (flat s ++ [.bool ob, .int .i64 lo]) 0)) (hb : ¬ (fourIn n0 n1 n2 n3 ∧ fourIn r0 r1 r2 r3)) :
    ECalls Tryz.prog 29 #[.pointer (some ⟨p, 0, none⟩), notesV n0 n1 n2 n3, notesV r0 r1 r2 r3] H fun v H' => v = .int .i64 20 ∧ Heap.le H H' := by
  refine ecalls_of_ewp (args := [_, _, _]) Tryz.func29 rfl rfl rfl (by simp [Tryz.ntmps29]) (by kernel_rfl) ?_
  have cn := fun H => right_c n0 n1 n2 n3 H
  have cr := fun H => right_c r0 r1 r2 r3 H
  simp only [notesV] at cn cr ⊢
  simp (disch := first | omega | assumption | decide | (simp <;> omega) | fail) [facts, ]
  refine fresh_intro fun b4 hb4 => ?_
  simp (disch := first | omega | assumption | decide | (simp <;> omega) | fail) [facts, ]
  refine fresh_intro fun b5 hb5 => ?_
  have q45 : b4 ≠ b5 := ne_of_fresh hb5 (upd_same _ _ _)
  simp (disch := first | omega | assumption | decide | (simp <;> omega) | fail) [facts, upd_ne]
  refine (cn _).mono ?_
  rintro v H2 ⟨rfl, hle2⟩
  have hle := Heap.le_trans (le_upd _ hb4) (Heap.le_trans (le_upd _ hb5) hle2)
  have l5 := hle2 _ _ (upd_same _ _ _)
  by_cases hn : fourIn n0 n1 n2 n3
  · have hr : ¬ fourIn r0 r1 r2 r3 := fun h => hb ⟨hn, h⟩
    simp only [hr, decide_false] at cr
    simp (disch := first | omega | assumption | decide | (simp <;> omega) | fail) [facts, hn, l5]
    refine (cr _).mono ?_
    rintro v H3 ⟨rfl, hle3⟩
    simp (disch := first | omega | assumption | decide | (simp <;> omega) | fail) [facts, ]
    exact ⟨_, Heap.le_refl _, Heap.le_trans hle hle3⟩
  · simp (disch := first | omega | assumption | decide | (simp <;> omega) | fail) [facts, hn]
    exact ⟨_, Heap.le_refl _, hle⟩
set_option maxHeartbeats 1600000 in
theorem give_c (s : S4) (p : Nat) (n0 n1 n2 n3 r0 r1 r2 r3 : Int) (ob : Bool) (lo : Int) (H : Heap) (lp : H p = some (.row true 0 (flat s ++ [.bool ob, .int .i64 lo]) 0)) (hs : OkS s) (hn : fourIn n0 n1 n2 n3) (hr : fourIn r0 r1 r2 r3) :
    ECalls Tryz.prog 29 #[.pointer (some ⟨p, 0, none⟩), notesV n0 n1 n2 n3, notesV r0 r1 r2 r3] H fun v H' => v = .int .i64 (if fitS s n0 n1 n2 n3 r0 r1 r2 r3 then 0 else 25) ∧ Heap.le (dele H p) H' ∧ H' p = some (.row true 0 (flat (if fitS s n0 n1 n2 n3 r0 r1 r2 r3 then addS s n0 n1 n2 n3 r0 r1 r2 r3 else s) ++ [.bool ob, .int .i64 lo]) 0) := by
  refine ecalls_of_ewp (args := [_, _, _]) Tryz.func29 rfl rfl rfl (by simp [Tryz.ntmps29]) (by kernel_rfl) ?_
  have cn := fun H => right_c n0 n1 n2 n3 H
  have cr := fun H => right_c r0 r1 r2 r3 H
  have cl := fun d l g r H => left_c d l g r H
  simp only [hn, decide_true] at cn
  simp only [hr, decide_true] at cr
  obtain ⟨⟨d0, l0, g0, rr0⟩, ⟨d1, l1, g1, rr1⟩, ⟨d2, l2, g2, rr2⟩, ⟨d3, l3, g3, rr3⟩⟩ := s
  obtain ⟨⟨ol0, og0, or0, oe0, _⟩, ⟨ol1, og1, or1, oe1, _⟩, ⟨ol2, og2, or2, oe2, _⟩, ⟨ol3, og3, or3, oe3, _⟩⟩ := hs
  obtain ⟨fn0, fn1, fn2, fn3⟩ := hn
  obtain ⟨fr0, fr1, fr2, fr3⟩ := hr
  unfold fewIn at fn0 fn1 fn2 fn3 fr0 fr1 fr2 fr3 ol0 og0 or0 ol1 og1 or1 ol2 og2 or2 ol3 og3 or3
  simp only at ol0 og0 or0 oe0 ol1 og1 or1 oe1 ol2 og2 or2 oe2 ol3 og3 or3 oe3
  simp only [notesV, cassV, flat, List.cons_append, List.nil_append] at lp cn cr cl ⊢
  obtain ⟨E, hE⟩ : ∃ E : Int, E = if fitS ⟨⟨d0, l0, g0, rr0⟩, ⟨d1, l1, g1, rr1⟩, ⟨d2, l2, g2, rr2⟩, ⟨d3, l3, g3, rr3⟩⟩ n0 n1 n2 n3 r0 r1 r2 r3 then 0 else 25 := ⟨_, rfl⟩
  simp (disch := first | omega | assumption | decide | (simp <;> omega) | fail) [facts, ]
  refine fresh_intro fun b4 hb4 => ?_
  simp (disch := first | omega | assumption | decide | (simp <;> omega) | fail) [facts, ]
  refine fresh_intro fun b5 hb5 => ?_
  have q4 : p ≠ b4 := ne_of_fresh hb4 lp
  have q45 : b4 ≠ b5 := ne_of_fresh hb5 (upd_same _ _ _)
  have q5 : p ≠ b5 := ne_of_fresh hb5 (by rw [upd_ne _ _ q4]; exact lp)
  have q4' := q4.symm
  have q5' := q5.symm
  simp (disch := first | omega | assumption | decide | (simp <;> omega) | fail) [facts, upd_ne]
  refine (cn _).mono ?_
  rintro v H2 ⟨rfl, hle2⟩
  have hle : Heap.le (dele H p) H2 := le_dele p (Heap.le_trans (le_upd _ hb4) (Heap.le_trans (le_upd _ hb5) hle2))
  have l5 := hle2 _ _ (upd_same _ _ _)
  have l4 := hle2 _ _ (upd_other hb5 (upd_same _ _ _))
  replace lp := hle2 _ _ (upd_other hb5 (upd_other hb4 lp))
  simp (disch := first | omega | assumption | decide | (simp <;> omega) | fail) [facts, l4, l5, lp]
  refine (cr _).mono ?_
  rintro v H3 ⟨rfl, hle3⟩
  replace hle := Heap.le_trans hle hle3
  replace l4 := hle3 _ _ l4
  replace l5 := hle3 _ _ l5
  replace lp := hle3 _ _ lp
  have hpn := dele_none (H := H) p
  have h4n : dele H p b4 = none := by rw [dele_ne _ q4']; exact hb4
  simp (disch := first | omega | assumption | decide | (simp <;> omega) | fail) [facts, l4, l5, lp]
  refine w_unroll 5 ?_
  simp (disch := first | omega | assumption | decide | (simp <;> omega) | fail) [facts, l4, l5, lp]
  refine fresh_abs (fun H' => Heap.le (dele H p) H' ∧ H' p = some (.row true 0 [.int .i64 d0, .int .i64 l0, .int .i64 g0, .int .i64 rr0, .int .i64 d1, .int .i64 l1, .int .i64 g1, .int .i64 rr1, .int .i64 d2, .int .i64 l2, .int .i64 g2, .int .i64 rr2, .int .i64 d3, .int .i64 l3, .int .i64 g3, .int .i64 rr3, .bool ob, .int .i64 lo] 0) ∧ H' b4 = some (.row true 0 [.int .i64 n0, .int .i64 n1, .int .i64 n2, .int .i64 n3] 0) ∧ H' b5 = some (.row true 0 [.int .i64 r0, .int .i64 r1, .int .i64 r2, .int .i64 r3] 0)) ⟨hle, lp, l4, l5⟩ ?_
  clear hle lp l4 l5
  rintro G0 x0 ⟨hle, lp, l4, l5⟩ hx0
  have y0p : p ≠ x0 := ne_of_fresh hx0 lp
  have y04 : b4 ≠ x0 := ne_of_fresh hx0 l4
  have y05 : b5 ≠ x0 := ne_of_fresh hx0 l5
  simp (disch := first | omega | assumption | decide | (simp <;> omega) | fail) [facts, lp, l4, l5, upd_ne, upd_upd]
  refine w_cut (fun s => s.env 0 = .pointer (some ⟨p, 0, none⟩) ∧ s.env 4 = .pointer (some ⟨b4, 0, none⟩) ∧ s.env 5 = .pointer (some ⟨b5, 0, none⟩) ∧ s.env 21 = .agg [.int .i64 d0, .int .i64 l0, .int .i64 g0, .int .i64 rr0, .int .i64 d1, .int .i64 l1, .int .i64 g1, .int .i64 rr1, .int .i64 d2, .int .i64 l2, .int .i64 g2, .int .i64 rr2, .int .i64 d3, .int .i64 l3, .int .i64 g3, .int .i64 rr3].toArray ∧ s.env 22 = .int .i64 0 ∧ s.env 35 = .bool (decide (leftZ l0 g0 rr0 < n0 + r0)) ∧ Heap.le (dele H p) s.heap ∧ s.heap p = some (.row true 0 [.int .i64 d0, .int .i64 l0, .int .i64 g0, .int .i64 rr0, .int .i64 d1, .int .i64 l1, .int .i64 g1, .int .i64 rr1, .int .i64 d2, .int .i64 l2, .int .i64 g2, .int .i64 rr2, .int .i64 d3, .int .i64 l3, .int .i64 g3, .int .i64 rr3, .bool ob, .int .i64 lo] 0) ∧ s.heap b4 = some (.row true 0 [.int .i64 n0, .int .i64 n1, .int .i64 n2, .int .i64 n3] 0) ∧ s.heap b5 = some (.row true 0 [.int .i64 r0, .int .i64 r1, .int .i64 r2, .int .i64 r3] 0)) ?_ ?_
  · refine w_plan (P := Tryz.prog) (by simp [facts]) (opsP [0,1,3,4,7] (.both (opsP [2] (.both (opsP [5,6,8,9] .done) (opsP [8,5,6,9] .done))) (.both (opsP [5] (.both (opsP [2,6,8,9] .done) (opsP [8,2,6,9] .done))) (opsP [8] (.both (opsP [2,5,6,9] .done) (opsP [5,2,6,9] .done)))))) ?_ ?_
    · decide +kernel
    simp (disch := first | omega | assumption | decide | (simp <;> omega) | fail) [facts, lp, l4, l5, upd_ne, upd_upd]
    try (repeat' apply And.intro)
    all_goals
      refine (cl d0 l0 g0 rr0 _).mono ?_
      rintro v G ⟨rfl, hleG⟩
      have hleG' := Heap.le_trans (le_upd _ hx0) hleG
      have m4 := hleG' _ _ l4
      have m5 := hleG' _ _ l5
      have mp := hleG' _ _ lp
      simp (disch := first | omega | assumption | decide | (simp <;> omega) | fail) [facts, m4, m5, mp]
      exact Heap.le_trans hle hleG'
  clear hle lp l4 l5
  rintro ⟨e, J0⟩ ⟨e0, e4, e5, e21, e22, e35, hle, lp, l4, l5⟩
  simp only at e0 e4 e5 e21 e22 e35 hle lp l4 l5
  by_cases f0 : leftZ l0 g0 rr0 < n0 + r0
  · have hno : ¬ fitS ⟨⟨d0, l0, g0, rr0⟩, ⟨d1, l1, g1, rr1⟩, ⟨d2, l2, g2, rr2⟩, ⟨d3, l3, g3, rr3⟩⟩ n0 n1 n2 n3 r0 r1 r2 r3 := fun h => by
      have := h.1; unfold fitC at this; simp only at this; omega
    simp (disch := first | omega | assumption | decide | (simp <;> omega) | fail) [facts, e0, e4, e5, e21, e22, e35, f0, hno, lp]
    exact ⟨_, Heap.le_refl _, hle, lp⟩
  simp (disch := first | omega | assumption | decide | (simp <;> omega) | fail) [facts, e0, e4, e5, e21, e22, e35, f0]
  refine fresh_abs (fun H' => Heap.le (dele H p) H' ∧ H' p = some (.row true 0 [.int .i64 d0, .int .i64 l0, .int .i64 g0, .int .i64 rr0, .int .i64 d1, .int .i64 l1, .int .i64 g1, .int .i64 rr1, .int .i64 d2, .int .i64 l2, .int .i64 g2, .int .i64 rr2, .int .i64 d3, .int .i64 l3, .int .i64 g3, .int .i64 rr3, .bool ob, .int .i64 lo] 0) ∧ H' b4 = some (.row true 0 [.int .i64 n0, .int .i64 n1, .int .i64 n2, .int .i64 n3] 0) ∧ H' b5 = some (.row true 0 [.int .i64 r0, .int .i64 r1, .int .i64 r2, .int .i64 r3] 0)) ⟨hle, lp, l4, l5⟩ ?_
  clear hle lp l4 l5
  rintro G1 x1 ⟨hle, lp, l4, l5⟩ hx1
  have y1p : p ≠ x1 := ne_of_fresh hx1 lp
  have y14 : b4 ≠ x1 := ne_of_fresh hx1 l4
  have y15 : b5 ≠ x1 := ne_of_fresh hx1 l5
  simp (disch := first | omega | assumption | decide | (simp <;> omega) | fail) [facts, e0, e4, e5, e21, e22, lp, l4, l5, upd_ne, upd_upd]
  refine w_cut (fun s => s.env 0 = .pointer (some ⟨p, 0, none⟩) ∧ s.env 4 = .pointer (some ⟨b4, 0, none⟩) ∧ s.env 5 = .pointer (some ⟨b5, 0, none⟩) ∧ s.env 21 = .agg [.int .i64 d0, .int .i64 l0, .int .i64 g0, .int .i64 rr0, .int .i64 d1, .int .i64 l1, .int .i64 g1, .int .i64 rr1, .int .i64 d2, .int .i64 l2, .int .i64 g2, .int .i64 rr2, .int .i64 d3, .int .i64 l3, .int .i64 g3, .int .i64 rr3].toArray ∧ s.env 22 = .int .i64 1 ∧ s.env 35 = .bool (decide (leftZ l1 g1 rr1 < n1 + r1)) ∧ Heap.le (dele H p) s.heap ∧ s.heap p = some (.row true 0 [.int .i64 d0, .int .i64 l0, .int .i64 g0, .int .i64 rr0, .int .i64 d1, .int .i64 l1, .int .i64 g1, .int .i64 rr1, .int .i64 d2, .int .i64 l2, .int .i64 g2, .int .i64 rr2, .int .i64 d3, .int .i64 l3, .int .i64 g3, .int .i64 rr3, .bool ob, .int .i64 lo] 0) ∧ s.heap b4 = some (.row true 0 [.int .i64 n0, .int .i64 n1, .int .i64 n2, .int .i64 n3] 0) ∧ s.heap b5 = some (.row true 0 [.int .i64 r0, .int .i64 r1, .int .i64 r2, .int .i64 r3] 0)) ?_ ?_
  · refine w_plan (P := Tryz.prog) (by simp [facts]) (opsP [0,1,3,4,7] (.both (opsP [2] (.both (opsP [5,6,8,9] .done) (opsP [8,5,6,9] .done))) (.both (opsP [5] (.both (opsP [2,6,8,9] .done) (opsP [8,2,6,9] .done))) (opsP [8] (.both (opsP [2,5,6,9] .done) (opsP [5,2,6,9] .done)))))) ?_ ?_
    · decide +kernel
    simp (disch := first | omega | assumption | decide | (simp <;> omega) | fail) [facts, e0, e4, e5, e21, e22, lp, l4, l5, upd_ne, upd_upd]
    try (repeat' apply And.intro)
    all_goals
      refine (cl d1 l1 g1 rr1 _).mono ?_
      rintro v G ⟨rfl, hleG⟩
      have hleG' := Heap.le_trans (le_upd _ hx1) hleG
      have m4 := hleG' _ _ l4
      have m5 := hleG' _ _ l5
      have mp := hleG' _ _ lp
      simp (disch := first | omega | assumption | decide | (simp <;> omega) | fail) [facts, e0, e4, e5, e21, e22, m4, m5, mp]
      exact Heap.le_trans hle hleG'
  clear hle lp l4 l5
  rintro ⟨e, J1⟩ ⟨e0, e4, e5, e21, e22, e35, hle, lp, l4, l5⟩
  simp only at e0 e4 e5 e21 e22 e35 hle lp l4 l5
  by_cases f1 : leftZ l1 g1 rr1 < n1 + r1
  · have hno : ¬ fitS ⟨⟨d0, l0, g0, rr0⟩, ⟨d1, l1, g1, rr1⟩, ⟨d2, l2, g2, rr2⟩, ⟨d3, l3, g3, rr3⟩⟩ n0 n1 n2 n3 r0 r1 r2 r3 := fun h => by
      have := h.2.1; unfold fitC at this; simp only at this; omega
    simp (disch := first | omega | assumption | decide | (simp <;> omega) | fail) [facts, e0, e4, e5, e21, e22, e35, f1, hno, lp]
    exact ⟨_, Heap.le_refl _, hle, lp⟩
  simp (disch := first | omega | assumption | decide | (simp <;> omega) | fail) [facts, e0, e4, e5, e21, e22, e35, f1]
  refine fresh_abs (fun H' => Heap.le (dele H p) H' ∧ H' p = some (.row true 0 [.int .i64 d0, .int .i64 l0, .int .i64 g0, .int .i64 rr0, .int .i64 d1, .int .i64 l1, .int .i64 g1, .int .i64 rr1, .int .i64 d2, .int .i64 l2, .int .i64 g2, .int .i64 rr2, .int .i64 d3, .int .i64 l3, .int .i64 g3, .int .i64 rr3, .bool ob, .int .i64 lo] 0) ∧ H' b4 = some (.row true 0 [.int .i64 n0, .int .i64 n1, .int .i64 n2, .int .i64 n3] 0) ∧ H' b5 = some (.row true 0 [.int .i64 r0, .int .i64 r1, .int .i64 r2, .int .i64 r3] 0)) ⟨hle, lp, l4, l5⟩ ?_
  clear hle lp l4 l5
  rintro G2 x2 ⟨hle, lp, l4, l5⟩ hx2
  have y2p : p ≠ x2 := ne_of_fresh hx2 lp
  have y24 : b4 ≠ x2 := ne_of_fresh hx2 l4
  have y25 : b5 ≠ x2 := ne_of_fresh hx2 l5
  simp (disch := first | omega | assumption | decide | (simp <;> omega) | fail) [facts, e0, e4, e5, e21, e22, lp, l4, l5, upd_ne, upd_upd]
  refine w_cut (fun s => s.env 0 = .pointer (some ⟨p, 0, none⟩) ∧ s.env 4 = .pointer (some ⟨b4, 0, none⟩) ∧ s.env 5 = .pointer (some ⟨b5, 0, none⟩) ∧ s.env 21 = .agg [.int .i64 d0, .int .i64 l0, .int .i64 g0, .int .i64 rr0, .int .i64 d1, .int .i64 l1, .int .i64 g1, .int .i64 rr1, .int .i64 d2, .int .i64 l2, .int .i64 g2, .int .i64 rr2, .int .i64 d3, .int .i64 l3, .int .i64 g3, .int .i64 rr3].toArray ∧ s.env 22 = .int .i64 2 ∧ s.env 35 = .bool (decide (leftZ l2 g2 rr2 < n2 + r2)) ∧ Heap.le (dele H p) s.heap ∧ s.heap p = some (.row true 0 [.int .i64 d0, .int .i64 l0, .int .i64 g0, .int .i64 rr0, .int .i64 d1, .int .i64 l1, .int .i64 g1, .int .i64 rr1, .int .i64 d2, .int .i64 l2, .int .i64 g2, .int .i64 rr2, .int .i64 d3, .int .i64 l3, .int .i64 g3, .int .i64 rr3, .bool ob, .int .i64 lo] 0) ∧ s.heap b4 = some (.row true 0 [.int .i64 n0, .int .i64 n1, .int .i64 n2, .int .i64 n3] 0) ∧ s.heap b5 = some (.row true 0 [.int .i64 r0, .int .i64 r1, .int .i64 r2, .int .i64 r3] 0)) ?_ ?_
  · refine w_plan (P := Tryz.prog) (by simp [facts]) (opsP [0,1,3,4,7] (.both (opsP [2] (.both (opsP [5,6,8,9] .done) (opsP [8,5,6,9] .done))) (.both (opsP [5] (.both (opsP [2,6,8,9] .done) (opsP [8,2,6,9] .done))) (opsP [8] (.both (opsP [2,5,6,9] .done) (opsP [5,2,6,9] .done)))))) ?_ ?_
    · decide +kernel
    simp (disch := first | omega | assumption | decide | (simp <;> omega) | fail) [facts, e0, e4, e5, e21, e22, lp, l4, l5, upd_ne, upd_upd]
    try (repeat' apply And.intro)
    all_goals
      refine (cl d2 l2 g2 rr2 _).mono ?_
      rintro v G ⟨rfl, hleG⟩
      have hleG' := Heap.le_trans (le_upd _ hx2) hleG
      have m4 := hleG' _ _ l4
      have m5 := hleG' _ _ l5
      have mp := hleG' _ _ lp
      simp (disch := first | omega | assumption | decide | (simp <;> omega) | fail) [facts, e0, e4, e5, e21, e22, m4, m5, mp]
      exact Heap.le_trans hle hleG'
  clear hle lp l4 l5
  rintro ⟨e, J2⟩ ⟨e0, e4, e5, e21, e22, e35, hle, lp, l4, l5⟩
  simp only at e0 e4 e5 e21 e22 e35 hle lp l4 l5
  by_cases f2 : leftZ l2 g2 rr2 < n2 + r2
  · have hno : ¬ fitS ⟨⟨d0, l0, g0, rr0⟩, ⟨d1, l1, g1, rr1⟩, ⟨d2, l2, g2, rr2⟩, ⟨d3, l3, g3, rr3⟩⟩ n0 n1 n2 n3 r0 r1 r2 r3 := fun h => by
      have := h.2.2.1; unfold fitC at this; simp only at this; omega
    simp (disch := first | omega | assumption | decide | (simp <;> omega) | fail) [facts, e0, e4, e5, e21, e22, e35, f2, hno, lp]
    exact ⟨_, Heap.le_refl _, hle, lp⟩
  simp (disch := first | omega | assumption | decide | (simp <;> omega) | fail) [facts, e0, e4, e5, e21, e22, e35, f2]
  refine fresh_abs (fun H' => Heap.le (dele H p) H' ∧ H' p = some (.row true 0 [.int .i64 d0, .int .i64 l0, .int .i64 g0, .int .i64 rr0, .int .i64 d1, .int .i64 l1, .int .i64 g1, .int .i64 rr1, .int .i64 d2, .int .i64 l2, .int .i64 g2, .int .i64 rr2, .int .i64 d3, .int .i64 l3, .int .i64 g3, .int .i64 rr3, .bool ob, .int .i64 lo] 0) ∧ H' b4 = some (.row true 0 [.int .i64 n0, .int .i64 n1, .int .i64 n2, .int .i64 n3] 0) ∧ H' b5 = some (.row true 0 [.int .i64 r0, .int .i64 r1, .int .i64 r2, .int .i64 r3] 0)) ⟨hle, lp, l4, l5⟩ ?_
  clear hle lp l4 l5
  rintro G3 x3 ⟨hle, lp, l4, l5⟩ hx3
  have y3p : p ≠ x3 := ne_of_fresh hx3 lp
  have y34 : b4 ≠ x3 := ne_of_fresh hx3 l4
  have y35 : b5 ≠ x3 := ne_of_fresh hx3 l5
  simp (disch := first | omega | assumption | decide | (simp <;> omega) | fail) [facts, e0, e4, e5, e21, e22, lp, l4, l5, upd_ne, upd_upd]
  refine w_cut (fun s => s.env 0 = .pointer (some ⟨p, 0, none⟩) ∧ s.env 4 = .pointer (some ⟨b4, 0, none⟩) ∧ s.env 5 = .pointer (some ⟨b5, 0, none⟩) ∧ s.env 21 = .agg [.int .i64 d0, .int .i64 l0, .int .i64 g0, .int .i64 rr0, .int .i64 d1, .int .i64 l1, .int .i64 g1, .int .i64 rr1, .int .i64 d2, .int .i64 l2, .int .i64 g2, .int .i64 rr2, .int .i64 d3, .int .i64 l3, .int .i64 g3, .int .i64 rr3].toArray ∧ s.env 22 = .int .i64 3 ∧ s.env 35 = .bool (decide (leftZ l3 g3 rr3 < n3 + r3)) ∧ Heap.le (dele H p) s.heap ∧ s.heap p = some (.row true 0 [.int .i64 d0, .int .i64 l0, .int .i64 g0, .int .i64 rr0, .int .i64 d1, .int .i64 l1, .int .i64 g1, .int .i64 rr1, .int .i64 d2, .int .i64 l2, .int .i64 g2, .int .i64 rr2, .int .i64 d3, .int .i64 l3, .int .i64 g3, .int .i64 rr3, .bool ob, .int .i64 lo] 0) ∧ s.heap b4 = some (.row true 0 [.int .i64 n0, .int .i64 n1, .int .i64 n2, .int .i64 n3] 0) ∧ s.heap b5 = some (.row true 0 [.int .i64 r0, .int .i64 r1, .int .i64 r2, .int .i64 r3] 0)) ?_ ?_
  · refine w_plan (P := Tryz.prog) (by simp [facts]) (opsP [0,1,3,4,7] (.both (opsP [2] (.both (opsP [5,6,8,9] .done) (opsP [8,5,6,9] .done))) (.both (opsP [5] (.both (opsP [2,6,8,9] .done) (opsP [8,2,6,9] .done))) (opsP [8] (.both (opsP [2,5,6,9] .done) (opsP [5,2,6,9] .done)))))) ?_ ?_
    · decide +kernel
    simp (disch := first | omega | assumption | decide | (simp <;> omega) | fail) [facts, e0, e4, e5, e21, e22, lp, l4, l5, upd_ne, upd_upd]
    try (repeat' apply And.intro)
    all_goals
      refine (cl d3 l3 g3 rr3 _).mono ?_
      rintro v G ⟨rfl, hleG⟩
      have hleG' := Heap.le_trans (le_upd _ hx3) hleG
      have m4 := hleG' _ _ l4
      have m5 := hleG' _ _ l5
      have mp := hleG' _ _ lp
      simp (disch := first | omega | assumption | decide | (simp <;> omega) | fail) [facts, e0, e4, e5, e21, e22, m4, m5, mp]
      exact Heap.le_trans hle hleG'
  clear hle lp l4 l5
  rintro ⟨e, J3⟩ ⟨e0, e4, e5, e21, e22, e35, hle, lp, l4, l5⟩
  simp only at e0 e4 e5 e21 e22 e35 hle lp l4 l5
  by_cases f3 : leftZ l3 g3 rr3 < n3 + r3
  · have hno : ¬ fitS ⟨⟨d0, l0, g0, rr0⟩, ⟨d1, l1, g1, rr1⟩, ⟨d2, l2, g2, rr2⟩, ⟨d3, l3, g3, rr3⟩⟩ n0 n1 n2 n3 r0 r1 r2 r3 := fun h => by
      have := h.2.2.2; unfold fitC at this; simp only at this; omega
    simp (disch := first | omega | assumption | decide | (simp <;> omega) | fail) [facts, e0, e4, e5, e21, e22, e35, f3, hno, lp]
    exact ⟨_, Heap.le_refl _, hle, lp⟩
  simp (disch := first | omega | assumption | decide | (simp <;> omega) | fail) [facts, e0, e4, e5, e21, e22, e35, f3]
  have hyes : fitS ⟨⟨d0, l0, g0, rr0⟩, ⟨d1, l1, g1, rr1⟩, ⟨d2, l2, g2, rr2⟩, ⟨d3, l3, g3, rr3⟩⟩ n0 n1 n2 n3 r0 r1 r2 r3 := ⟨Int.not_lt.1 f0, Int.not_lt.1 f1, Int.not_lt.1 f2, Int.not_lt.1 f3⟩
  have k0 : leftZ l0 g0 rr0 ≤ 10000 ∧ leftZ l1 g1 rr1 ≤ 10000 ∧ leftZ l2 g2 rr2 ≤ 10000 ∧ leftZ l3 g3 rr3 ≤ 10000 := by unfold leftZ fewIn; refine ⟨?_, ?_, ?_, ?_⟩ <;> split <;> omega
  refine w_unroll 5 ?_
  simp (disch := first | omega | assumption | decide | (simp <;> omega) | fail) [facts, e0, e4, e5, lp, l4, l5, upd_ne]
  refine w_plan (P := Tryz.prog) (by simp [facts]) (opsP [0,1,2,3,4,5,6,7,8,9,10,11,12,13,14,15] .done) ?_ ?_
  · decide +kernel
  simp (disch := first | omega | assumption | decide | (simp <;> omega) | fail) [facts, e0, e4, e5, lp, l4, l5, upd_ne, upd_upd]
  refine w_plan (P := Tryz.prog) (by simp [facts]) (opsP [0,1,2,3,4,5,6,7,8,9,10,11,12,13,14,15] .done) ?_ ?_
  · decide +kernel
  simp (disch := first | omega | assumption | decide | (simp <;> omega) | fail) [facts, e0, e4, e5, lp, l4, l5, upd_ne, upd_upd]
  refine w_plan (P := Tryz.prog) (by simp [facts]) (opsP [0,1,2,3,4,5,6,7,8,9,10,11,12,13,14,15] .done) ?_ ?_
  · decide +kernel
  simp (disch := first | omega | assumption | decide | (simp <;> omega) | fail) [facts, e0, e4, e5, lp, l4, l5, upd_ne, upd_upd]
  refine w_plan (P := Tryz.prog) (by simp [facts]) (opsP [0,1,2,3,4,5,6,7,8,9,10,11,12,13,14,15] .done) ?_ ?_
  · decide +kernel
  simp (disch := first | omega | assumption | decide | (simp <;> omega) | fail) [facts, e0, e4, e5, lp, l4, l5, upd_ne, upd_upd]
  refine w_plan (P := Tryz.prog) (by simp [facts]) (opsP [0,1,2,3,4,5,6,7,8,9,10,11,12,13,14,15] .done) ?_ ?_
  · decide +kernel
  simp (disch := first | omega | assumption | decide | (simp <;> omega) | fail) [facts, e0, e4, e5, lp, l4, l5, upd_ne, upd_upd]
  refine w_plan (P := Tryz.prog) (by simp [facts]) (opsP [0,1,2,3,4,5,6,7,8,9,10,11,12,13,14,15] .done) ?_ ?_
  · decide +kernel
  simp (disch := first | omega | assumption | decide | (simp <;> omega) | fail) [facts, e0, e4, e5, lp, l4, l5, upd_ne, upd_upd]
  refine w_plan (P := Tryz.prog) (by simp [facts]) (opsP [0,1,2,3,4,5,6,7,8,9,10,11,12,13,14,15] .done) ?_ ?_
  · decide +kernel
  simp (disch := first | omega | assumption | decide | (simp <;> omega) | fail) [facts, e0, e4, e5, lp, l4, l5, upd_ne, upd_upd]
  refine w_plan (P := Tryz.prog) (by simp [facts]) (opsP [0,1,2,3,4,5,6,7,8,9,10,11,12,13,14,15] .done) ?_ ?_
  · decide +kernel
  simp (disch := first | omega | assumption | decide | (simp <;> omega) | fail) [facts, e0, e4, e5, lp, l4, l5, upd_ne, upd_upd, hyes, addS, addC]
  refine ⟨_, Heap.le_refl _, ?_, by simp⟩
  repeat' (first | exact hle | exact Heap.le_refl _ | assumption | (refine le_of_none hle ?_; assumption) | apply le_updN)

end Go.Proofs.YthaggpicjpkjiaaGreat.GL.Ca

namespace Go.Proofs.YthaggpicjpkjiaaGreat.GL.Ca
open Go Go.RowKit Go.Proofs.YthaggpicjpkjiaaGreat.GL
set_option maxRecDepth 10000
set_option pp.deepTerms.threshold 8
set_option pp.maxSteps 3000
set_option linter.unusedSimpArgs false
set_option linter.unusedVariables false

theorem count_c (z : Int) (H : Heap) : ECalls Tryz.prog 81 #[.int .i64 z] H fun v H' => v = .bool (decide (fewIn z)) ∧ H' = H := by
  refine ecalls_of_ewp (args := [_]) Tryz.func81 rfl rfl rfl (by simp [Tryz.ntmps81]) (by kernel_rfl) ?_
  by_cases h1 : 0 ≤ z
  · by_cases h2 : z ≤ 10000
    · simp (disch := first | omega | assumption | decide | (simp <;> omega) | fail) [facts, h1, h2, show fewIn z from ⟨h1, h2⟩]
    · simp (disch := first | omega | assumption | decide | (simp <;> omega) | fail) [facts, h1, h2, show ¬ fewIn z from fun h => h2 h.2]
  · simp (disch := first | omega | assumption | decide | (simp <;> omega) | fail) [facts, h1, show ¬ fewIn z from fun h => h1 h.1]
theorem leftR_c (d l g r : Int) (H : Heap) : ECalls Tryz.prog 64 #[cassV d l g r] H fun v H' => v = .int .i64 (leftZ l g r) ∧ Heap.le H H' := by
  refine ecalls_of_ewp (args := [_]) Tryz.func64 rfl rfl rfl (by simp [Tryz.ntmps64]) (by kernel_rfl) ?_
  unfold cassV leftZ
  simp (disch := first | omega | assumption | decide | (simp <;> omega) | fail) [facts, ]
  refine fresh_intro fun b1 hb1 => ?_
  have hle := le_upd (.row true 0 [.int .i64 d, .int .i64 l, .int .i64 g, .int .i64 r] 0) hb1
  have l1 := upd_same H b1 (.row true 0 [.int .i64 d, .int .i64 l, .int .i64 g, .int .i64 r] 0)
  generalize upd H b1 (.row true 0 [.int .i64 d, .int .i64 l, .int .i64 g, .int .i64 r] 0) = H1 at *
  simp (disch := first | omega | assumption | decide | (simp <;> omega) | fail) [facts, l1]
  refine (count_c l _).mono ?_
  rintro v H2 ⟨rfl, rfl⟩
  by_cases hl : fewIn l
  · simp (disch := first | omega | assumption | decide | (simp <;> omega) | fail) [facts, l1, hl]
    refine (count_c g _).mono ?_
    rintro v H2 ⟨rfl, rfl⟩
    by_cases hg : fewIn g
    · simp (disch := first | omega | assumption | decide | (simp <;> omega) | fail) [facts, l1, hg]
      refine (count_c r _).mono ?_
      rintro v H2 ⟨rfl, rfl⟩
      by_cases hr : fewIn r
      · have hl' := hl
        have hg' := hg
        have hr' := hr
        unfold fewIn at hl' hg' hr'
        simp (disch := first | omega | assumption | decide | (simp <;> omega) | fail) [facts, l1, hr]
        exact ⟨_, Heap.le_refl _, hle⟩
      · simp (disch := first | omega | assumption | decide | (simp <;> omega) | fail) [facts, l1, hr]
        exact ⟨_, Heap.le_refl _, hle⟩
    · simp (disch := first | omega | assumption | decide | (simp <;> omega) | fail) [facts, l1, hg]
      exact ⟨_, Heap.le_refl _, hle⟩
  · simp (disch := first | omega | assumption | decide | (simp <;> omega) | fail) [facts, l1, hl]
    exact ⟨_, Heap.le_refl _, hle⟩

set_option maxHeartbeats 400000 in
theorem newR_c (s : S4) (H : Heap) : ECalls Tryz.prog 26 #[setV s] H fun v H' => ∃ p, v = .pointer (some ⟨p, 0, none⟩) ∧ H p = none ∧ H' p = some (.row true 0 (flat (newS s)) 0) ∧ Heap.le H H' := by
  refine ecalls_of_ewp (args := [_]) Tryz.func26 rfl rfl rfl (by simp [Tryz.ntmps26]) (by kernel_rfl) ?_
  obtain ⟨⟨d0, l0, g0, r0⟩, ⟨d1, l1, g1, r1⟩, ⟨d2, l2, g2, r2⟩, ⟨d3, l3, g3, r3⟩⟩ := s
  simp only [setV, flat, newS, newC]
  simp (disch := first | omega | assumption | decide | (simp <;> omega) | fail) [facts, ]
  refine fresh_intro fun b1 hb1 => ?_
  simp (disch := first | omega | assumption | decide | (simp <;> omega) | fail) [facts, ]
  refine fresh_intro fun p hp => ?_
  have q1 : b1 ≠ p := ne_of_fresh hp (upd_same _ _ _)
  have hpn : H p = none := le_of_none (le_upd _ hb1) hp
  simp (disch := first | omega | assumption | decide | (simp <;> omega) | fail) [facts, upd_ne]
  refine w_unroll 5 ?_
  simp (disch := first | omega | assumption | decide | (simp <;> omega) | fail) [facts, upd_ne]
  have hle := Heap.le_refl H
  refine w_plan (P := Tryz.prog) (by simp [facts]) (opsP [0,1,2,3,4,5,6,7,8,9,10,11,12,13,14,15,16] .done) ?_ ?_
  · decide +kernel
  simp (disch := first | omega | assumption | decide | (simp <;> omega) | fail) [facts, upd_ne, upd_upd]
  refine w_plan (P := Tryz.prog) (by simp [facts]) (opsP [0,1,2,3,4,5,6,7,8,9,10,11,12,13,14,15,16] .done) ?_ ?_
  · decide +kernel
  simp (disch := first | omega | assumption | decide | (simp <;> omega) | fail) [facts, upd_ne, upd_upd]
  refine w_plan (P := Tryz.prog) (by simp [facts]) (opsP [0,1,2,3,4,5,6,7,8,9,10,11,12,13,14,15,16] .done) ?_ ?_
  · decide +kernel
  simp (disch := first | omega | assumption | decide | (simp <;> omega) | fail) [facts, upd_ne, upd_upd]
  refine w_plan (P := Tryz.prog) (by simp [facts]) (opsP [0,1,2,3,4,5,6,7,8,9,10,11,12,13,14,15,16] .done) ?_ ?_
  · decide +kernel
  simp (disch := first | omega | assumption | decide | (simp <;> omega) | fail) [facts, upd_ne, upd_upd]
  refine ⟨_, Heap.le_refl _, hpn, by simp, ?_⟩
  repeat' (first | exact hle | exact Heap.le_refl _ | assumption | (refine le_of_none hle ?_; assumption) | apply le_updN)

set_option maxHeartbeats 400000 in
theorem loadR_c (s : S4) (p : Nat) (n0 n1 n2 n3 : Int) (H : Heap) (lp : H p = some (.row true 0 (flat s) 0)) : ECalls Tryz.prog 33 #[.pointer (some ⟨p, 0, none⟩), notesV n0 n1 n2 n3] H fun v H' => v = .int .i64 (if fourIn n0 n1 n2 n3 then 0 else 20) ∧ Heap.le (dele H p) H' ∧ H' p = some (.row true 0 (flat (if fourIn n0 n1 n2 n3 then loadS s n0 n1 n2 n3 else s)) 0) := by
  refine ecalls_of_ewp (args := [_, _]) Tryz.func33 rfl rfl rfl (by simp [Tryz.ntmps33]) (by kernel_rfl) ?_
  have cr := fun H => few_c n0 n1 n2 n3 H
  by_cases hf : fourIn n0 n1 n2 n3
  · rw [if_pos hf, if_pos hf]
    simp only [hf, decide_true] at cr
    obtain ⟨⟨d0, l0, g0, r0⟩, ⟨d1, l1, g1, r1⟩, ⟨d2, l2, g2, r2⟩, ⟨d3, l3, g3, r3⟩⟩ := s
    simp only [notesV, flat, loadS] at lp cr ⊢
    simp (disch := first | omega | assumption | decide | (simp <;> omega) | fail) [facts, ]
    refine fresh_intro fun b3 hb3 => ?_
    have q : p ≠ b3 := ne_of_fresh hb3 lp
    have q' := q.symm
    simp (disch := first | omega | assumption | decide | (simp <;> omega) | fail) [facts, upd_ne]
    refine (cr _).mono ?_
    rintro v H2 ⟨rfl, hle2⟩
    have l3 := hle2 _ _ (upd_same _ _ _)
    have hle : Heap.le (dele H p) H2 := le_dele p (Heap.le_trans (le_upd _ hb3) hle2)
    replace lp := hle2 _ _ (upd_other hb3 lp)
    have hpn := dele_none (H := H) p
    simp (disch := first | omega | assumption | decide | (simp <;> omega) | fail) [facts, l3, lp, upd_ne]
    refine w_unroll 5 ?_
    simp (disch := first | omega | assumption | decide | (simp <;> omega) | fail) [facts, l3, lp, upd_ne]
    refine w_plan (P := Tryz.prog) (by simp [facts]) (opsP [0,1,2,3,4,5,6,7,8,9,10,11,12,14,15,19,20,13,16,17,18,21,22,23] .done) ?_ ?_
    · decide +kernel
    simp (disch := first | omega | assumption | decide | (simp <;> omega) | fail) [facts, l3, lp, upd_ne, upd_upd]
    refine w_plan (P := Tryz.prog) (by simp [facts]) (opsP [0,1,2,3,4,5,6,7,8,9,10,11,12,14,15,19,20,13,16,17,18,21,22,23] .done) ?_ ?_
    · decide +kernel
    simp (disch := first | omega | assumption | decide | (simp <;> omega) | fail) [facts, l3, lp, upd_ne, upd_upd]
    refine w_plan (P := Tryz.prog) (by simp [facts]) (opsP [0,1,2,3,4,5,6,7,8,9,10,11,12,14,15,19,20,13,16,17,18,21,22,23] .done) ?_ ?_
    · decide +kernel
    simp (disch := first | omega | assumption | decide | (simp <;> omega) | fail) [facts, l3, lp, upd_ne, upd_upd]
    refine w_plan (P := Tryz.prog) (by simp [facts]) (opsP [0,1,2,3,4,5,6,7,8,9,10,11,12,14,15,19,20,13,16,17,18,21,22,23] .done) ?_ ?_
    · decide +kernel
    simp (disch := first | omega | assumption | decide | (simp <;> omega) | fail) [facts, l3, lp, upd_ne, upd_upd]
    refine ⟨_, Heap.le_refl _, ?_, by simp⟩
    repeat' (first | exact hle | exact Heap.le_refl _ | assumption | (refine le_of_none hle ?_; assumption) | apply le_updN)
  · rw [if_neg hf, if_neg hf]
    simp only [hf, decide_false] at cr
    simp only [notesV] at cr ⊢
    simp (disch := first | omega | assumption | decide | (simp <;> omega) | fail) [facts, ]
    refine fresh_intro fun b3 hb3 => ?_
    simp (disch := first | omega | assumption | decide | (simp <;> omega) | fail) [facts, ]
    refine (cr _).mono ?_
    rintro v H2 ⟨rfl, hle2⟩
    simp (disch := first | omega | assumption | decide | (simp <;> omega) | fail) [facts, ]
    exact ⟨_, Heap.le_refl _, le_dele p (Heap.le_trans (le_upd _ hb3) hle2), hle2 _ _ (upd_other hb3 lp)⟩

theorem giveR_c_bad (s : S4) (p : Nat) (n0 n1 n2 n3 r0 r1 r2 r3 : Int) (H : Heap) (lp : H p = some (.row true 0 (flat s) 0)) (hb : ¬ (fourIn n0 n1 n2 n3 ∧ fourIn r0 r1 r2 r3)) :
    ECalls Tryz.prog 34 #[.pointer (some ⟨p, 0, none⟩), notesV n0 n1 n2 n3, notesV r0 r1 r2 r3] H fun v H' => v = .int .i64 20 ∧ Heap.le H H' := by
  refine ecalls_of_ewp (args := [_, _, _]) Tryz.func34 rfl rfl rfl (by simp [Tryz.ntmps34]) (by kernel_rfl) ?_
  have cn := fun H => few_c n0 n1 n2 n3 H
  have cr := fun H => few_c r0 r1 r2 r3 H
  simp only [notesV] at cn cr ⊢
  simp (disch := first | omega | assumption | decide | (simp <;> omega) | fail) [facts, ]
  refine fresh_intro fun b4 hb4 => ?_
  simp (disch := first | omega | assumption | decide | (simp <;> omega) | fail) [facts, ]
  refine fresh_intro fun b5 hb5 => ?_
  have q45 : b4 ≠ b5 := ne_of_fresh hb5 (upd_same _ _ _)
  simp (disch := first | omega | assumption | decide | (simp <;> omega) | fail) [facts, upd_ne]
  refine (cn _).mono ?_
  rintro v H2 ⟨rfl, hle2⟩
  have hle := Heap.le_trans (le_upd _ hb4) (Heap.le_trans (le_upd _ hb5) hle2)
  have l5 := hle2 _ _ (upd_same _ _ _)
  by_cases hn : fourIn n0 n1 n2 n3
  · have hr : ¬ fourIn r0 r1 r2 r3 := fun h => hb ⟨hn, h⟩
    simp only [hr, decide_false] at cr
    simp (disch := first | omega | assumption | decide | (simp <;> omega) | fail) [facts, hn, l5]
    refine (cr _).mono ?_
    rintro v H3 ⟨rfl, hle3⟩
    simp (disch := first | omega | assumption | decide | (simp <;> omega) | fail) [facts, ]
    exact ⟨_, Heap.le_refl _, Heap.le_trans hle hle3⟩
  · simp (disch := first | omega | assumption | decide | (simp <;> omega) | fail) [facts, hn]
    exact ⟨_, Heap.le_refl _, hle⟩
set_option maxHeartbeats 1600000 in
theorem giveR_c (s : S4) (p : Nat) (n0 n1 n2 n3 r0 r1 r2 r3 : Int) (H : Heap) (lp : H p = some (.row true 0 (flat s) 0)) (hs : OkS s) (hn : fourIn n0 n1 n2 n3) (hr : fourIn r0 r1 r2 r3) :
    ECalls Tryz.prog 34 #[.pointer (some ⟨p, 0, none⟩), notesV n0 n1 n2 n3, notesV r0 r1 r2 r3] H fun v H' => v = .int .i64 (if fitS s n0 n1 n2 n3 r0 r1 r2 r3 then 0 else 25) ∧ Heap.le (dele H p) H' ∧ H' p = some (.row true 0 (flat (if fitS s n0 n1 n2 n3 r0 r1 r2 r3 then addS s n0 n1 n2 n3 r0 r1 r2 r3 else s)) 0) := by
  refine ecalls_of_ewp (args := [_, _, _]) Tryz.func34 rfl rfl rfl (by simp [Tryz.ntmps34]) (by kernel_rfl) ?_
  have cn := fun H => few_c n0 n1 n2 n3 H
  have cr := fun H => few_c r0 r1 r2 r3 H
  have cl := fun d l g r H => leftR_c d l g r H
  simp only [hn, decide_true] at cn
  simp only [hr, decide_true] at cr
  obtain ⟨⟨d0, l0, g0, rr0⟩, ⟨d1, l1, g1, rr1⟩, ⟨d2, l2, g2, rr2⟩, ⟨d3, l3, g3, rr3⟩⟩ := s
  obtain ⟨⟨ol0, og0, or0, oe0, _⟩, ⟨ol1, og1, or1, oe1, _⟩, ⟨ol2, og2, or2, oe2, _⟩, ⟨ol3, og3, or3, oe3, _⟩⟩ := hs
  obtain ⟨fn0, fn1, fn2, fn3⟩ := hn
  obtain ⟨fr0, fr1, fr2, fr3⟩ := hr
  unfold fewIn at fn0 fn1 fn2 fn3 fr0 fr1 fr2 fr3 ol0 og0 or0 ol1 og1 or1 ol2 og2 or2 ol3 og3 or3
  simp only at ol0 og0 or0 oe0 ol1 og1 or1 oe1 ol2 og2 or2 oe2 ol3 og3 or3 oe3
  simp only [notesV, cassV, flat] at lp cn cr cl ⊢
  obtain ⟨E, hE⟩ : ∃ E : Int, E = if fitS ⟨⟨d0, l0, g0, rr0⟩, ⟨d1, l1, g1, rr1⟩, ⟨d2, l2, g2, rr2⟩, ⟨d3, l3, g3, rr3⟩⟩ n0 n1 n2 n3 r0 r1 r2 r3 then 0 else 25 := ⟨_, rfl⟩
  simp (disch := first | omega | assumption | decide | (simp <;> omega) | fail) [facts, ]
  refine fresh_intro fun b4 hb4 => ?_
  simp (disch := first | omega | assumption | decide | (simp <;> omega) | fail) [facts, ]
  refine fresh_intro fun b5 hb5 => ?_
  have q4 : p ≠ b4 := ne_of_fresh hb4 lp
  have q45 : b4 ≠ b5 := ne_of_fresh hb5 (upd_same _ _ _)
  have q5 : p ≠ b5 := ne_of_fresh hb5 (by rw [upd_ne _ _ q4]; exact lp)
  have q4' := q4.symm
  have q5' := q5.symm
  simp (disch := first | omega | assumption | decide | (simp <;> omega) | fail) [facts, upd_ne]
  refine (cn _).mono ?_
  rintro v H2 ⟨rfl, hle2⟩
  have hle : Heap.le (dele H p) H2 := le_dele p (Heap.le_trans (le_upd _ hb4) (Heap.le_trans (le_upd _ hb5) hle2))
  have l5 := hle2 _ _ (upd_same _ _ _)
  have l4 := hle2 _ _ (upd_other hb5 (upd_same _ _ _))
  replace lp := hle2 _ _ (upd_other hb5 (upd_other hb4 lp))
  simp (disch := first | omega | assumption | decide | (simp <;> omega) | fail) [facts, l4, l5, lp]
  refine (cr _).mono ?_
  rintro v H3 ⟨rfl, hle3⟩
  replace hle := Heap.le_trans hle hle3
  replace l4 := hle3 _ _ l4
  replace l5 := hle3 _ _ l5
  replace lp := hle3 _ _ lp
  have hpn := dele_none (H := H) p
  have h4n : dele H p b4 = none := by rw [dele_ne _ q4']; exact hb4
  simp (disch := first | omega | assumption | decide | (simp <;> omega) | fail) [facts, l4, l5, lp]
  refine w_unroll 5 ?_
  simp (disch := first | omega | assumption | decide | (simp <;> omega) | fail) [facts, l4, l5, lp]
  refine w_cut (fun s => s.env 0 = .pointer (some ⟨p, 0, none⟩) ∧ s.env 4 = .pointer (some ⟨b4, 0, none⟩) ∧ s.env 5 = .pointer (some ⟨b5, 0, none⟩) ∧ s.env 7 = .int .i64 0 ∧ s.env 35 = .bool (decide (leftZ l0 g0 rr0 < n0 + r0)) ∧ Heap.le (dele H p) s.heap ∧ s.heap p = some (.row true 0 [.int .i64 d0, .int .i64 l0, .int .i64 g0, .int .i64 rr0, .int .i64 d1, .int .i64 l1, .int .i64 g1, .int .i64 rr1, .int .i64 d2, .int .i64 l2, .int .i64 g2, .int .i64 rr2, .int .i64 d3, .int .i64 l3, .int .i64 g3, .int .i64 rr3] 0) ∧ s.heap b4 = some (.row true 0 [.int .i64 n0, .int .i64 n1, .int .i64 n2, .int .i64 n3] 0) ∧ s.heap b5 = some (.row true 0 [.int .i64 r0, .int .i64 r1, .int .i64 r2, .int .i64 r3] 0)) ?_ ?_
  · refine w_plan (P := Tryz.prog) (by simp [facts]) (opsP [0,1,3,4,7,8,9,10,11,12] (.both (opsP [2] (.both (opsP [5,6,13,14] .done) (opsP [13,5,6,14] .done))) (.both (opsP [5] (.both (opsP [2,6,13,14] .done) (opsP [13,2,6,14] .done))) (opsP [13] (.both (opsP [2,5,6,14] .done) (opsP [5,2,6,14] .done)))))) ?_ ?_
    · decide +kernel
    simp (disch := first | omega | assumption | decide | (simp <;> omega) | fail) [facts, lp, l4, l5, upd_ne, upd_upd]
    try (repeat' apply And.intro)
    all_goals
      refine (cl d0 l0 g0 rr0 _).mono ?_
      rintro v G ⟨rfl, hleG⟩
      
      have m4 := hleG _ _ l4
      have m5 := hleG _ _ l5
      have mp := hleG _ _ lp
      simp (disch := first | omega | assumption | decide | (simp <;> omega) | fail) [facts, m4, m5, mp]
      exact Heap.le_trans hle hleG
  clear hle lp l4 l5
  rintro ⟨e, J0⟩ ⟨e0, e4, e5, e7, e35, hle, lp, l4, l5⟩
  simp only at e0 e4 e5 e7 e35 hle lp l4 l5
  by_cases f0 : leftZ l0 g0 rr0 < n0 + r0
  · have hno : ¬ fitS ⟨⟨d0, l0, g0, rr0⟩, ⟨d1, l1, g1, rr1⟩, ⟨d2, l2, g2, rr2⟩, ⟨d3, l3, g3, rr3⟩⟩ n0 n1 n2 n3 r0 r1 r2 r3 := fun h => by
      have := h.1; unfold fitC at this; simp only at this; omega
    simp (disch := first | omega | assumption | decide | (simp <;> omega) | fail) [facts, e0, e4, e5, e7, e35, f0, hno, lp]
    exact ⟨_, Heap.le_refl _, hle, lp⟩
  simp (disch := first | omega | assumption | decide | (simp <;> omega) | fail) [facts, e0, e4, e5, e7, e35, f0]
  refine w_cut (fun s => s.env 0 = .pointer (some ⟨p, 0, none⟩) ∧ s.env 4 = .pointer (some ⟨b4, 0, none⟩) ∧ s.env 5 = .pointer (some ⟨b5, 0, none⟩) ∧ s.env 7 = .int .i64 1 ∧ s.env 35 = .bool (decide (leftZ l1 g1 rr1 < n1 + r1)) ∧ Heap.le (dele H p) s.heap ∧ s.heap p = some (.row true 0 [.int .i64 d0, .int .i64 l0, .int .i64 g0, .int .i64 rr0, .int .i64 d1, .int .i64 l1, .int .i64 g1, .int .i64 rr1, .int .i64 d2, .int .i64 l2, .int .i64 g2, .int .i64 rr2, .int .i64 d3, .int .i64 l3, .int .i64 g3, .int .i64 rr3] 0) ∧ s.heap b4 = some (.row true 0 [.int .i64 n0, .int .i64 n1, .int .i64 n2, .int .i64 n3] 0) ∧ s.heap b5 = some (.row true 0 [.int .i64 r0, .int .i64 r1, .int .i64 r2, .int .i64 r3] 0)) ?_ ?_
  · refine w_plan (P := Tryz.prog) (by simp [facts]) (opsP [0,1,3,4,7,8,9,10,11,12] (.both (opsP [2] (.both (opsP [5,6,13,14] .done) (opsP [13,5,6,14] .done))) (.both (opsP [5] (.both (opsP [2,6,13,14] .done) (opsP [13,2,6,14] .done))) (opsP [13] (.both (opsP [2,5,6,14] .done) (opsP [5,2,6,14] .done)))))) ?_ ?_
    · decide +kernel
    simp (disch := first | omega | assumption | decide | (simp <;> omega) | fail) [facts, e0, e4, e5, e7, lp, l4, l5, upd_ne, upd_upd]
    try (repeat' apply And.intro)
    all_goals
      refine (cl d1 l1 g1 rr1 _).mono ?_
      rintro v G ⟨rfl, hleG⟩
      
      have m4 := hleG _ _ l4
      have m5 := hleG _ _ l5
      have mp := hleG _ _ lp
      simp (disch := first | omega | assumption | decide | (simp <;> omega) | fail) [facts, e0, e4, e5, e7, m4, m5, mp]
      exact Heap.le_trans hle hleG
  clear hle lp l4 l5
  rintro ⟨e, J1⟩ ⟨e0, e4, e5, e7, e35, hle, lp, l4, l5⟩
  simp only at e0 e4 e5 e7 e35 hle lp l4 l5
  by_cases f1 : leftZ l1 g1 rr1 < n1 + r1
  · have hno : ¬ fitS ⟨⟨d0, l0, g0, rr0⟩, ⟨d1, l1, g1, rr1⟩, ⟨d2, l2, g2, rr2⟩, ⟨d3, l3, g3, rr3⟩⟩ n0 n1 n2 n3 r0 r1 r2 r3 := fun h => by
      have := h.2.1; unfold fitC at this; simp only at this; omega
    simp (disch := first | omega | assumption | decide | (simp <;> omega) | fail) [facts, e0, e4, e5, e7, e35, f1, hno, lp]
    exact ⟨_, Heap.le_refl _, hle, lp⟩
  simp (disch := first | omega | assumption | decide | (simp <;> omega) | fail) [facts, e0, e4, e5, e7, e35, f1]
  refine w_cut (fun s => s.env 0 = .pointer (some ⟨p, 0, none⟩) ∧ s.env 4 = .pointer (some ⟨b4, 0, none⟩) ∧ s.env 5 = .pointer (some ⟨b5, 0, none⟩) ∧ s.env 7 = .int .i64 2 ∧ s.env 35 = .bool (decide (leftZ l2 g2 rr2 < n2 + r2)) ∧ Heap.le (dele H p) s.heap ∧ s.heap p = some (.row true 0 [.int .i64 d0, .int .i64 l0, .int .i64 g0, .int .i64 rr0, .int .i64 d1, .int .i64 l1, .int .i64 g1, .int .i64 rr1, .int .i64 d2, .int .i64 l2, .int .i64 g2, .int .i64 rr2, .int .i64 d3, .int .i64 l3, .int .i64 g3, .int .i64 rr3] 0) ∧ s.heap b4 = some (.row true 0 [.int .i64 n0, .int .i64 n1, .int .i64 n2, .int .i64 n3] 0) ∧ s.heap b5 = some (.row true 0 [.int .i64 r0, .int .i64 r1, .int .i64 r2, .int .i64 r3] 0)) ?_ ?_
  · refine w_plan (P := Tryz.prog) (by simp [facts]) (opsP [0,1,3,4,7,8,9,10,11,12] (.both (opsP [2] (.both (opsP [5,6,13,14] .done) (opsP [13,5,6,14] .done))) (.both (opsP [5] (.both (opsP [2,6,13,14] .done) (opsP [13,2,6,14] .done))) (opsP [13] (.both (opsP [2,5,6,14] .done) (opsP [5,2,6,14] .done)))))) ?_ ?_
    · decide +kernel
    simp (disch := first | omega | assumption | decide | (simp <;> omega) | fail) [facts, e0, e4, e5, e7, lp, l4, l5, upd_ne, upd_upd]
    try (repeat' apply And.intro)
    all_goals
      refine (cl d2 l2 g2 rr2 _).mono ?_
      rintro v G ⟨rfl, hleG⟩
      
      have m4 := hleG _ _ l4
      have m5 := hleG _ _ l5
      have mp := hleG _ _ lp
      simp (disch := first | omega | assumption | decide | (simp <;> omega) | fail) [facts, e0, e4, e5, e7, m4, m5, mp]
      exact Heap.le_trans hle hleG
  clear hle lp l4 l5
  rintro ⟨e, J2⟩ ⟨e0, e4, e5, e7, e35, hle, lp, l4, l5⟩
  simp only at e0 e4 e5 e7 e35 hle lp l4 l5
  by_cases f2 : leftZ l2 g2 rr2 < n2 + r2
  · have hno : ¬ fitS ⟨⟨d0, l0, g0, rr0⟩, ⟨d1, l1, g1, rr1⟩, ⟨d2, l2, g2, rr2⟩, ⟨d3, l3, g3, rr3⟩⟩ n0 n1 n2 n3 r0 r1 r2 r3 := fun h => by
      have := h.2.2.1; unfold fitC at this; simp only at this; omega
    simp (disch := first | omega | assumption | decide | (simp <;> omega) | fail) [facts, e0, e4, e5, e7, e35, f2, hno, lp]
    exact ⟨_, Heap.le_refl _, hle, lp⟩
  simp (disch := first | omega | assumption | decide | (simp <;> omega) | fail) [facts, e0, e4, e5, e7, e35, f2]
  refine w_cut (fun s => s.env 0 = .pointer (some ⟨p, 0, none⟩) ∧ s.env 4 = .pointer (some ⟨b4, 0, none⟩) ∧ s.env 5 = .pointer (some ⟨b5, 0, none⟩) ∧ s.env 7 = .int .i64 3 ∧ s.env 35 = .bool (decide (leftZ l3 g3 rr3 < n3 + r3)) ∧ Heap.le (dele H p) s.heap ∧ s.heap p = some (.row true 0 [.int .i64 d0, .int .i64 l0, .int .i64 g0, .int .i64 rr0, .int .i64 d1, .int .i64 l1, .int .i64 g1, .int .i64 rr1, .int .i64 d2, .int .i64 l2, .int .i64 g2, .int .i64 rr2, .int .i64 d3, .int .i64 l3, .int .i64 g3, .int .i64 rr3] 0) ∧ s.heap b4 = some (.row true 0 [.int .i64 n0, .int .i64 n1, .int .i64 n2, .int .i64 n3] 0) ∧ s.heap b5 = some (.row true 0 [.int .i64 r0, .int .i64 r1, .int .i64 r2, .int .i64 r3] 0)) ?_ ?_
  · refine w_plan (P := Tryz.prog) (by simp [facts]) (opsP [0,1,3,4,7,8,9,10,11,12] (.both (opsP [2] (.both (opsP [5,6,13,14] .done) (opsP [13,5,6,14] .done))) (.both (opsP [5] (.both (opsP [2,6,13,14] .done) (opsP [13,2,6,14] .done))) (opsP [13] (.both (opsP [2,5,6,14] .done) (opsP [5,2,6,14] .done)))))) ?_ ?_
    · decide +kernel
    simp (disch := first | omega | assumption | decide | (simp <;> omega) | fail) [facts, e0, e4, e5, e7, lp, l4, l5, upd_ne, upd_upd]
    try (repeat' apply And.intro)
    all_goals
      refine (cl d3 l3 g3 rr3 _).mono ?_
      rintro v G ⟨rfl, hleG⟩
      
      have m4 := hleG _ _ l4
      have m5 := hleG _ _ l5
      have mp := hleG _ _ lp
      simp (disch := first | omega | assumption | decide | (simp <;> omega) | fail) [facts, e0, e4, e5, e7, m4, m5, mp]
      exact Heap.le_trans hle hleG
  clear hle lp l4 l5
  rintro ⟨e, J3⟩ ⟨e0, e4, e5, e7, e35, hle, lp, l4, l5⟩
  simp only at e0 e4 e5 e7 e35 hle lp l4 l5
  by_cases f3 : leftZ l3 g3 rr3 < n3 + r3
  · have hno : ¬ fitS ⟨⟨d0, l0, g0, rr0⟩, ⟨d1, l1, g1, rr1⟩, ⟨d2, l2, g2, rr2⟩, ⟨d3, l3, g3, rr3⟩⟩ n0 n1 n2 n3 r0 r1 r2 r3 := fun h => by
      have := h.2.2.2; unfold fitC at this; simp only at this; omega
    simp (disch := first | omega | assumption | decide | (simp <;> omega) | fail) [facts, e0, e4, e5, e7, e35, f3, hno, lp]
    exact ⟨_, Heap.le_refl _, hle, lp⟩
  simp (disch := first | omega | assumption | decide | (simp <;> omega) | fail) [facts, e0, e4, e5, e7, e35, f3]
  have hyes : fitS ⟨⟨d0, l0, g0, rr0⟩, ⟨d1, l1, g1, rr1⟩, ⟨d2, l2, g2, rr2⟩, ⟨d3, l3, g3, rr3⟩⟩ n0 n1 n2 n3 r0 r1 r2 r3 := ⟨Int.not_lt.1 f0, Int.not_lt.1 f1, Int.not_lt.1 f2, Int.not_lt.1 f3⟩
  have k0 : leftZ l0 g0 rr0 ≤ 10000 ∧ leftZ l1 g1 rr1 ≤ 10000 ∧ leftZ l2 g2 rr2 ≤ 10000 ∧ leftZ l3 g3 rr3 ≤ 10000 := by unfold leftZ fewIn; refine ⟨?_, ?_, ?_, ?_⟩ <;> split <;> omega
  refine w_unroll 5 ?_
  simp (disch := first | omega | assumption | decide | (simp <;> omega) | fail) [facts, e0, e4, e5, lp, l4, l5, upd_ne]
  refine w_plan (P := Tryz.prog) (by simp [facts]) (opsP [0,1,2,3,4,5,6,7,8,9,10,11,12,13,14,15] .done) ?_ ?_
  · decide +kernel
  simp (disch := first | omega | assumption | decide | (simp <;> omega) | fail) [facts, e0, e4, e5, lp, l4, l5, upd_ne, upd_upd]
  refine w_plan (P := Tryz.prog) (by simp [facts]) (opsP [0,1,2,3,4,5,6,7,8,9,10,11,12,13,14,15] .done) ?_ ?_
  · decide +kernel
  simp (disch := first | omega | assumption | decide | (simp <;> omega) | fail) [facts, e0, e4, e5, lp, l4, l5, upd_ne, upd_upd]
  refine w_plan (P := Tryz.prog) (by simp [facts]) (opsP [0,1,2,3,4,5,6,7,8,9,10,11,12,13,14,15] .done) ?_ ?_
  · decide +kernel
  simp (disch := first | omega | assumption | decide | (simp <;> omega) | fail) [facts, e0, e4, e5, lp, l4, l5, upd_ne, upd_upd]
  refine w_plan (P := Tryz.prog) (by simp [facts]) (opsP [0,1,2,3,4,5,6,7,8,9,10,11,12,13,14,15] .done) ?_ ?_
  · decide +kernel
  simp (disch := first | omega | assumption | decide | (simp <;> omega) | fail) [facts, e0, e4, e5, lp, l4, l5, upd_ne, upd_upd]
  refine w_plan (P := Tryz.prog) (by simp [facts]) (opsP [0,1,2,3,4,5,6,7,8,9,10,11,12,13,14,15] .done) ?_ ?_
  · decide +kernel
  simp (disch := first | omega | assumption | decide | (simp <;> omega) | fail) [facts, e0, e4, e5, lp, l4, l5, upd_ne, upd_upd]
  refine w_plan (P := Tryz.prog) (by simp [facts]) (opsP [0,1,2,3,4,5,6,7,8,9,10,11,12,13,14,15] .done) ?_ ?_
  · decide +kernel
  simp (disch := first | omega | assumption | decide | (simp <;> omega) | fail) [facts, e0, e4, e5, lp, l4, l5, upd_ne, upd_upd]
  refine w_plan (P := Tryz.prog) (by simp [facts]) (opsP [0,1,2,3,4,5,6,7,8,9,10,11,12,13,14,15] .done) ?_ ?_
  · decide +kernel
  simp (disch := first | omega | assumption | decide | (simp <;> omega) | fail) [facts, e0, e4, e5, lp, l4, l5, upd_ne, upd_upd]
  refine w_plan (P := Tryz.prog) (by simp [facts]) (opsP [0,1,2,3,4,5,6,7,8,9,10,11,12,13,14,15] .done) ?_ ?_
  · decide +kernel
  simp (disch := first | omega | assumption | decide | (simp <;> omega) | fail) [facts, e0, e4, e5, lp, l4, l5, upd_ne, upd_upd, hyes, addS, addC]
  refine ⟨_, Heap.le_refl _, ?_, by simp⟩
  repeat' (first | exact hle | exact Heap.le_refl _ | assumption | (refine le_of_none hle ?_; assumption) | apply le_updN)

end Go.Proofs.YthaggpicjpkjiaaGreat.GL.Ca

namespace Go.Proofs.YthaggpicjpkjiaaGreat.GL.Ca
open Go Go.RowKit Go.Proofs.YthaggpicjpkjiaaGreat.GL
set_option maxRecDepth 10000
set_option pp.deepTerms.threshold 8
set_option pp.maxSteps 3000
set_option linter.unusedSimpArgs false
set_option linter.unusedVariables false

def smZ (w : Nat) (z : Int) : Int := if w % 8 = 7 then z else placeZ z
theorem leftZ_few {l g r : Int} (hl : fewIn l) (hg : fewIn g) (hr : fewIn r) : leftZ l g r = max (l - g - r) 0 := if_pos ⟨hl, hg, hr⟩
theorem fitC_iff {c : Cs} {n r : Int} (h : OkC c) : fitC c n r ↔ n + r ≤ c.l - c.g - c.r := by
  obtain ⟨h1, h2, h3, h4, _⟩ := h
  unfold fitC; rw [leftZ_few h1 h2 h3]; unfold fewIn at h1 h2 h3; omega
theorem ok_addC {c : Cs} {n r : Int} (h : OkC c) (hn : fewIn n) (hr : fewIn r) (hf : fitC c n r) : OkC (addC c n r) := by
  have hf := (fitC_iff h).1 hf
  obtain ⟨h1, h2, h3, h4, h5⟩ := h
  unfold OkC addC fewIn at *; simp only
  exact ⟨by omega, by omega, by omega, by omega, h5⟩
theorem ok_add {s : S4} {n0 n1 n2 n3 r0 r1 r2 r3 : Int} (hs : OkS s) (hn : fourIn n0 n1 n2 n3) (hr : fourIn r0 r1 r2 r3) (hf : fitS s n0 n1 n2 n3 r0 r1 r2 r3) : OkS (addS s n0 n1 n2 n3 r0 r1 r2 r3) :=
  ⟨ok_addC hs.1 hn.1 hr.1 hf.1, ok_addC hs.2.1 hn.2.1 hr.2.1 hf.2.1, ok_addC hs.2.2.1 hn.2.2.1 hr.2.2.1 hf.2.2.1, ok_addC hs.2.2.2 hn.2.2.2 hr.2.2.2 hf.2.2.2⟩
theorem ok_load {s : S4} {n0 n1 n2 n3 : Int} (hs : OkS s) (hf : fourIn n0 n1 n2 n3) : OkS (loadS s n0 n1 n2 n3) := by
  obtain ⟨⟨_, _, _, _, h0⟩, ⟨_, _, _, _, h1⟩, ⟨_, _, _, _, h2⟩, ⟨_, _, _, _, h3⟩⟩ := hs
  obtain ⟨f0, f1, f2, f3⟩ := hf
  unfold fewIn at f0 f1 f2 f3
  unfold OkS OkC loadS fewIn; simp only
  refine ⟨⟨?_, ?_, ?_, ?_, h0⟩, ⟨?_, ?_, ?_, ?_, h1⟩, ⟨?_, ?_, ?_, ?_, h2⟩, ⟨?_, ?_, ?_, ?_, h3⟩⟩ <;> omega
theorem ok_new {s : S4} (h0 : i64In s.a.d) (h1 : i64In s.b.d) (h2 : i64In s.c.d) (h3 : i64In s.e.d) : OkS (newS s) := by
  unfold OkS OkC newS newC fewIn; simp only
  refine ⟨⟨?_, ?_, ?_, ?_, h0⟩, ⟨?_, ?_, ?_, ?_, h1⟩, ⟨?_, ?_, ?_, ?_, h2⟩, ⟨?_, ?_, ?_, ?_, h3⟩⟩ <;> omega
def giveE (s : S4) (n0 n1 n2 n3 r0 r1 r2 r3 : Int) : Int := if fourIn n0 n1 n2 n3 ∧ fourIn r0 r1 r2 r3 then (if fitS s n0 n1 n2 n3 r0 r1 r2 r3 then 0 else 25) else 20
def giveT (s : S4) (n0 n1 n2 n3 r0 r1 r2 r3 : Int) : S4 := if fourIn n0 n1 n2 n3 ∧ fourIn r0 r1 r2 r3 then (if fitS s n0 n1 n2 n3 r0 r1 r2 r3 then addS s n0 n1 n2 n3 r0 r1 r2 r3 else s) else s
theorem ok_give {s : S4} (hs : OkS s) (n0 n1 n2 n3 r0 r1 r2 r3 : Int) : OkS (giveT s n0 n1 n2 n3 r0 r1 r2 r3) := by
  unfold giveT
  split
  · rename_i h
    split
    · rename_i hf; exact ok_add hs h.1 h.2 hf
    · exact hs
  · exact hs
def loadE (n0 n1 n2 n3 : Int) : Int := if fourIn n0 n1 n2 n3 then 0 else 20
def loadT (s : S4) (n0 n1 n2 n3 : Int) : S4 := if fourIn n0 n1 n2 n3 then loadS s n0 n1 n2 n3 else s
theorem ok_loadT {s : S4} (hs : OkS s) (n0 n1 n2 n3 : Int) : OkS (loadT s n0 n1 n2 n3) := by
  unfold loadT
  split
  · rename_i h; exact ok_load hs h
  · exact hs

theorem giveA_c (s : S4) (p : Nat) (n0 n1 n2 n3 r0 r1 r2 r3 : Int) (ob : Bool) (lo : Int) (H : Heap) (lp : H p = some (.row true 0 (flat s ++ [.bool ob, .int .i64 lo]) 0)) (hs : OkS s) :
    ECalls Tryz.prog 29 #[.pointer (some ⟨p, 0, none⟩), notesV n0 n1 n2 n3, notesV r0 r1 r2 r3] H fun v H' => v = .int .i64 (giveE s n0 n1 n2 n3 r0 r1 r2 r3) ∧ Heap.le (dele H p) H' ∧ H' p = some (.row true 0 (flat (giveT s n0 n1 n2 n3 r0 r1 r2 r3) ++ [.bool ob, .int .i64 lo]) 0) := by
  unfold giveE giveT
  by_cases h : fourIn n0 n1 n2 n3 ∧ fourIn r0 r1 r2 r3
  · rw [if_pos h, if_pos h]
    exact give_c s p n0 n1 n2 n3 r0 r1 r2 r3 ob lo H lp hs h.1 h.2
  · rw [if_neg h, if_neg h]
    refine (give_c_bad s p n0 n1 n2 n3 r0 r1 r2 r3 ob lo H lp h).mono ?_
    rintro v H' ⟨rfl, hle⟩
    exact ⟨rfl, le_dele p hle, hle _ _ lp⟩

theorem giveB_c (s : S4) (p : Nat) (n0 n1 n2 n3 r0 r1 r2 r3 : Int) (H : Heap) (lp : H p = some (.row true 0 (flat s) 0)) (hs : OkS s) :
    ECalls Tryz.prog 34 #[.pointer (some ⟨p, 0, none⟩), notesV n0 n1 n2 n3, notesV r0 r1 r2 r3] H fun v H' => v = .int .i64 (giveE s n0 n1 n2 n3 r0 r1 r2 r3) ∧ Heap.le (dele H p) H' ∧ H' p = some (.row true 0 (flat (giveT s n0 n1 n2 n3 r0 r1 r2 r3)) 0) := by
  unfold giveE giveT
  by_cases h : fourIn n0 n1 n2 n3 ∧ fourIn r0 r1 r2 r3
  · rw [if_pos h, if_pos h]
    exact giveR_c s p n0 n1 n2 n3 r0 r1 r2 r3 H lp hs h.1 h.2
  · rw [if_neg h, if_neg h]
    refine (giveR_c_bad s p n0 n1 n2 n3 r0 r1 r2 r3 H lp h).mono ?_
    rintro v H' ⟨rfl, hle⟩
    exact ⟨rfl, le_dele p hle, hle _ _ lp⟩

theorem loadA_c (s : S4) (p : Nat) (n0 n1 n2 n3 : Int) (ob : Bool) (lo : Int) (H : Heap) (lp : H p = some (.row true 0 (flat s ++ [.bool ob, .int .i64 lo]) 0)) :
    ECalls Tryz.prog 28 #[.pointer (some ⟨p, 0, none⟩), notesV n0 n1 n2 n3] H fun v H' => v = .int .i64 (loadE n0 n1 n2 n3) ∧ Heap.le (dele H p) H' ∧ H' p = some (.row true 0 (flat (loadT s n0 n1 n2 n3) ++ [.bool ob, .int .i64 lo]) 0) :=
  load_c s p n0 n1 n2 n3 ob lo H lp

theorem loadB_c (s : S4) (p : Nat) (n0 n1 n2 n3 : Int) (H : Heap) (lp : H p = some (.row true 0 (flat s) 0)) :
    ECalls Tryz.prog 33 #[.pointer (some ⟨p, 0, none⟩), notesV n0 n1 n2 n3] H fun v H' => v = .int .i64 (loadE n0 n1 n2 n3) ∧ Heap.le (dele H p) H' ∧ H' p = some (.row true 0 (flat (loadT s n0 n1 n2 n3)) 0) :=
  loadR_c s p n0 n1 n2 n3 H lp
end Go.Proofs.YthaggpicjpkjiaaGreat.GL.Ca
