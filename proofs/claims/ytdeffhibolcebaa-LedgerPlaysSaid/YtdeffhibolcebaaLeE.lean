/- Layer 21: Reverse. -/
import Derived.Test.YtdeffhibolcebaaLeD
namespace Go.Proofs.Ytdeffhibolcebaa.GL
open Go Go.RowKit Go.MapKept
set_option maxRecDepth 10000
set_option pp.deepTerms.threshold 8
set_option pp.maxSteps 3000
set_option linter.unusedSimpArgs false
set_option linter.unusedVariables false

def revA (g : Int) : ByteArray := if g < 0 then ⟨#[49, 51]⟩ else okS
def revL (L : List LE) (t s g : Int) : List LE := if g < 0 then L else match gE t s L with | none => setL ⟨t, s, ⟨#[49, 50]⟩, ByteArray.empty, 0⟩ L | some e => if g < e.net then setL ⟨t, s, e.ans, e.pan, g⟩ L else L
def revF (F : List Acc) (L : List LE) (t s g : Int) : List Acc := if g < 0 then F else match gE t s L with | none => F | some e => if g < e.net then setM e.pan ((gF e.pan F).getD 0 + (e.net - g)) F else F
section
variable {H R : Heap} {p : Nat} {F : List Acc} {L : List LE} {fm lm : Nat}
theorem reverse_c (hR : Heap.le R H) (h : Led R p F L fm lm) (t s g : Int) (hv : ∀ e, gE t s L = some e → e.net ≤ 1000000 ∧ -100000000000000 ≤ (gF e.pan F).getD 0 ∧ (gF e.pan F).getD 0 ≤ 100000000000000) : ECalls Try.prog 10 #[.pointer (some ⟨p, 0, none⟩), .agg #[.int .u16 t, .int .u32 s], .int .i64 g] H
    fun v H' => v = .string (revA g) ∧ ∃ R', Own H R H' R' ∧ Led R' p (revF F L t s g) (revL L t s g) fm lm := by
  refine ecalls_of_ewp (args := [_, _, _]) Try.func10 rfl rfl rfl (by simp [Try.ntmps10]) (by kernel_rfl) ?_
  have hp := hR _ _ h.row
  have hl := hR _ _ h.es
  simp (disch := first | omega | assumption | decide | (simp <;> omega) | fail) [facts, ]
  refine fresh_intro fun kb hkb => ?_
  obtain ⟨H1, hH1⟩ : ∃ H1, H1 = upd H kb (.row true 0 [.int .u16 t, .int .u32 s] 0) := ⟨_, rfl⟩
  have own1 : Own H R H1 R := by rw [hH1]; exact (Own.refl hR).grow (le_upd _ hkb)
  have hk1 : H1 kb = some (.row true 0 [.int .u16 t, .int .u32 s] 0) := by rw [hH1, upd_same]
  have hp1 := own1.le _ _ h.row
  have hl1 := own1.le _ _ h.es
  have hlk := lookE2 t s hl1
  obtain ⟨e, he⟩ : ∃ e, e = (gE t s L).getD (zE t s) := ⟨_, rfl⟩
  rw [← he] at hlk
  by_cases hg0 : g < 0
  · have hA : revA g = ⟨#[49, 51]⟩ := by unfold revA; rw [if_pos hg0]
    have hF : revF F L t s g = F := by unfold revF; rw [if_pos hg0]
    have hL : revL L t s g = L := by unfold revL; rw [if_pos hg0]
    rw [hA, hF, hL]
    simp (disch := first | omega | assumption | decide | (simp <;> omega) | fail) [facts, hg0]
    rw [← hH1]
    exact ⟨_, Heap.le_refl _, R, own1, h⟩
  have hA : revA g = okS := by unfold revA; rw [if_neg hg0]
  rw [hA]
  simp (disch := first | omega | assumption | decide | (simp <;> omega) | fail) [facts, hg0]
  rw [← hH1]
  obtain ⟨I, hI⟩ : ∃ I : St → Prop, I = (fun st => ∃ b, st.env 0 = .pointer (some ⟨p, 0, none⟩) ∧ st.env 2 = .int .i64 g ∧ st.env 4 = .pointer (some ⟨kb, 0, none⟩) ∧ st.env 7 = .pointer (some ⟨b, 0, none⟩) ∧ st.env 8 = .bool (gE t s L).isSome ∧ H1 b = none ∧ st.heap = upd H1 b (.row true 0 [.string e.ans, .string e.pan, .int .i64 e.net] 0)) := ⟨_, rfl⟩
  refine w_cut I ?_ ?_
  · refine w_plan (by simp [facts]) (opsP [0,1,2] (.both (opsP [3] (.both (opsP [4] (.both (opsP [5,6,7,8,9,10,11] .done) (opsP [9,5,6,7,8,10,11] .done))) (opsP [9,4,5,6,7,8,10,11] .done))) (.both (opsP [4] (.both (opsP [3] (.both (opsP [5,6,7,8,9,10,11] .done) (opsP [9,5,6,7,8,10,11] .done))) (opsP [9,3,5,6,7,8,10,11] .done))) (opsP [9] (.both (opsP [3,4,5,6,7,8,10,11] .done) (opsP [4,3,5,6,7,8,10,11] .done)))))) (by decide +kernel) ?_
    simp (disch := first | omega | assumption | decide | (simp <;> omega) | fail) [facts, hp1, hk1, hlk]
    repeat' apply And.intro
    all_goals refine fresh_intro fun b hb => ?_
    all_goals
      have hk2 := upd_other (o := .row true 0 [.string ByteArray.empty, .string ByteArray.empty, .int .i64 0] 0) hb hk1
      have hp2 := upd_other (o := .row true 0 [.string ByteArray.empty, .string ByteArray.empty, .int .i64 0] 0) hb hp1
      have hlk2 := lookE2 t s (upd_other (o := .row true 0 [.string ByteArray.empty, .string ByteArray.empty, .int .i64 0] 0) hb hl1)
      rw [← he] at hlk2
      simp (disch := first | omega | assumption | decide | (simp <;> omega) | fail) [facts, hk2, hp2, hlk2]
      repeat' apply And.intro
      all_goals
        subst hI
        exact ⟨b, by simp, by simp, by simp, by simp, by simp, hb, by simp [upd_upd]⟩
  rintro ⟨env, G⟩ hS
  subst hI
  obtain ⟨b, e0, e2, e4, e7, e8, hb, hG⟩ := hS
  simp only at e0 e2 e4 e7 e8 hG
  have own2 : Own H R G R := by rw [hG]; exact own1.grow (le_upd _ hb)
  have hk2 : G kb = some (.row true 0 [.int .u16 t, .int .u32 s] 0) := by rw [hG]; exact upd_other hb hk1
  have hp2 := own2.le _ _ h.row
  have hb2 : G b = some (.row true 0 [.string e.ans, .string e.pan, .int .i64 e.net] 0) := by rw [hG, upd_same]
  cases hg : gE t s L with
  | none =>
    have hF : revF F L t s g = F := by unfold revF; rw [if_neg hg0, hg]
    have hL : revL L t s g = setL ⟨t, s, ⟨#[49, 50]⟩, ByteArray.empty, 0⟩ L := by unfold revL; rw [if_neg hg0, hg]
    rw [hF, hL]
    rw [hg] at e8
    simp (disch := first | omega | assumption | decide | (simp <;> omega) | fail) [facts, e8, e0, e2]
    refine w_plan (by simp [facts]) (opsP [0,1,2,3,4,5,6] .done) (by decide +kernel) ?_
    simp (disch := first | omega | assumption | decide | (simp <;> omega) | fail) [facts, e0, e4, hp2, hk2]
    refine mapsetE ⟨t, s, ⟨#[49, 50]⟩, ByteArray.empty, 0⟩ (own2.le _ _ h.es) ?_
    obtain ⟨own7, h7⟩ := h.setL own2 (setL ⟨t, s, ⟨#[49, 50]⟩, ByteArray.empty, 0⟩ L)
    simp (disch := first | omega | assumption | decide | (simp <;> omega) | fail) [facts, e0, e4]
    exact ⟨_, Heap.le_refl _, _, own7, h7⟩
  | some x =>
    have hex : e = x := by rw [he, hg]; rfl
    subst hex
    rw [hg] at e8
    obtain ⟨hn1, hn2, hn3⟩ := hv e hg
    by_cases hlt : g < e.net
    · have hF : revF F L t s g = setM e.pan ((gF e.pan F).getD 0 + (e.net - g)) F := by unfold revF; rw [if_neg hg0, hg]; simp only [hlt, if_true]
      have hL : revL L t s g = setL ⟨t, s, e.ans, e.pan, g⟩ L := by unfold revL; rw [if_neg hg0, hg]; simp only [hlt, if_true]
      rw [hF, hL]
      obtain ⟨v, hvv⟩ : ∃ v, v = (gF e.pan F).getD 0 := ⟨_, rfl⟩
      rw [← hvv] at hn2 hn3 ⊢
      have hlkF := lookF e.pan (own2.le _ _ h.fs)
      rw [← hvv] at hlkF
      simp (disch := first | omega | assumption | decide | (simp <;> omega) | fail) [facts, e8, e0, e2, e7, hb2, hlt]
      obtain ⟨own6, h6⟩ := h.setF own2 (setM e.pan (v + (e.net - g)) F)
      obtain ⟨G6, hG6⟩ : ∃ G6, G6 = upd G fm (.map ((setM e.pan (v + (e.net - g)) F).map fE)) := ⟨_, rfl⟩
      rw [← hG6] at own6
      obtain ⟨I, hI⟩ : ∃ I : St → Prop, I = (fun st => st.env 0 = .pointer (some ⟨p, 0, none⟩) ∧ st.env 2 = .int .i64 g ∧ st.env 4 = .pointer (some ⟨kb, 0, none⟩) ∧ st.env 7 = .pointer (some ⟨b, 0, none⟩) ∧ st.heap = G6) := ⟨_, rfl⟩
      refine w_cut I ?_ ?_
      · refine w_plan (by simp [facts]) (opsP [0,1,2,3,4,5,7,9] (.both (opsP [6,8,10,11,12] .done) (opsP [8,10,6,11,12] .done))) (by decide +kernel) ?_
        simp (disch := first | omega | assumption | decide | (simp <;> omega) | fail) [facts, e0, e2, e7, hb2, hp2, hlkF]
        refine ⟨mapsetF e.pan _ (own2.le _ _ h.fs) ?_, mapsetF e.pan _ (own2.le _ _ h.fs) ?_⟩
        all_goals
          simp (disch := first | omega | assumption | decide | (simp <;> omega) | fail) [facts, ]
          subst hI
          exact ⟨by simp [e0], by simp [e2], by simp [e4], by simp [e7], hG6.symm⟩
      rintro ⟨env2, G6'⟩ hS2
      subst hI
      obtain ⟨e0, e2, e4, e7, e8'⟩ := hS2
      simp only at e0 e2 e4 e7 e8'
      subst e8'
      obtain ⟨G6, hGG⟩ : ∃ G6, G6 = G6' := ⟨_, rfl⟩
      subst hGG
      have hbf : b ≠ fm := fun e' => by subst e'; rw [own1.le _ _ h.fs] at hb; cases hb
      have hbl : b ≠ lm := fun e' => by subst e'; rw [own1.le _ _ h.es] at hb; cases hb
      have hbk : b ≠ kb := fun e' => by subst e'; rw [hk1] at hb; cases hb
      have hbp : b ≠ p := fun e' => by subst e'; rw [hp1] at hb; cases hb
      have hkf : kb ≠ fm := fun e' => by subst e'; have := own2.le _ _ h.fs; rw [hk2] at this; cases this
      have hb6 : G6 b = some (.row true 0 [.string e.ans, .string e.pan, .int .i64 e.net] 0) := by rw [hG6, upd_ne _ _ hbf, hb2]
      simp (disch := first | omega | assumption | decide | (simp <;> omega) | fail) [facts, e0, e2, e7, hb6]
      obtain ⟨G7, hG7⟩ : ∃ G7, G7 = upd G6 b (.row true 0 [.string e.ans, .string e.pan, .int .i64 g] 0) := ⟨_, rfl⟩
      rw [← hG7]
      have own7 : Own H R G7 (upd R fm (.map ((setM e.pan (v + (e.net - g)) F).map fE))) := by
        have : G7 = upd (upd H1 b (.row true 0 [.string e.ans, .string e.pan, .int .i64 g] 0)) fm (.map ((setM e.pan (v + (e.net - g)) F).map fE)) := by
          rw [hG7, hG6, hG]
          funext i
          by_cases h1 : i = b
          · subst h1; rw [upd_same, upd_ne _ _ hbf, upd_same]
          · by_cases h2 : i = fm
            · subst h2; rw [upd_ne _ _ h1, upd_same, upd_same]
            · rw [upd_ne _ _ h1, upd_ne _ _ h2, upd_ne _ _ h1, upd_ne _ _ h2, upd_ne _ _ h1]
        rw [this]
        exact (h.setF (own1.grow (le_upd _ hb)) _).1
      have hp7 := own7.le _ _ h6.row
      have hk7 : G7 kb = some (.row true 0 [.int .u16 t, .int .u32 s] 0) := by rw [hG7, upd_ne _ _ hbk.symm, hG6, upd_ne _ _ hkf]; exact hk2
      have hb7 : G7 b = some (.row true 0 [.string e.ans, .string e.pan, .int .i64 g] 0) := by rw [hG7, upd_same]
      refine w_plan (by simp [facts]) (opsP [0,1,2,3,4,5,6] .done) (by decide +kernel) ?_
      simp (disch := first | omega | assumption | decide | (simp <;> omega) | fail) [facts, e0, e4, e7, hp7, hk7, hb7]
      refine mapsetE ⟨t, s, e.ans, e.pan, g⟩ (own7.le _ _ h6.es) ?_
      obtain ⟨own8, h8⟩ := h6.setL own7 (setL ⟨t, s, e.ans, e.pan, g⟩ L)
      simp (disch := first | omega | assumption | decide | (simp <;> omega) | fail) [facts, e0]
      exact ⟨_, Heap.le_refl _, _, own8, h8⟩
    · have hF : revF F L t s g = F := by unfold revF; rw [if_neg hg0, hg]; simp only [hlt, if_false]
      have hL : revL L t s g = L := by unfold revL; rw [if_neg hg0, hg]; simp only [hlt, if_false]
      rw [hF, hL]
      simp (disch := first | omega | assumption | decide | (simp <;> omega) | fail) [facts, e8, e0, e2, e7, hb2, hlt]
      exact ⟨_, Heap.le_refl _, R, own2, h⟩
end
end Go.Proofs.Ytdeffhibolcebaa.GL
