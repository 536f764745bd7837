/- Layer 21: Debit and Reverse. -/
import Derived.Test.YtdeffhibolcebaaLeC
namespace Go.Proofs.Ytdeffhibolcebaa.GL
open Go Go.RowKit Go.MapKept
set_option maxRecDepth 10000
set_option pp.deepTerms.threshold 8
set_option pp.maxSteps 3000
set_option linter.unusedSimpArgs false
set_option linter.unusedVariables false

abbrev okS : ByteArray := ⟨#[48, 48]⟩
/-- What a new debit's entry is. -/
def newE (F : List Acc) (t s : Int) (pan : ByteArray) (a : Int) : LE := if ansF F pan a = okS then ⟨t, s, okS, pan, a⟩ else ⟨t, s, ansF F pan a, ByteArray.empty, 0⟩
def debA (F : List Acc) (L : List LE) (t s : Int) (pan : ByteArray) (a : Int) : ByteArray := match gE t s L with | some e => e.ans | none => ansF F pan a
def debF (F : List Acc) (L : List LE) (t s : Int) (pan : ByteArray) (a : Int) : List Acc := match gE t s L with | some e => F | none => if ansF F pan a = okS then setM pan ((gF pan F).getD 0 - a) F else F
def debL (F : List Acc) (L : List LE) (t s : Int) (pan : ByteArray) (a : Int) : List LE := match gE t s L with | some e => L | none => setL (newE F t s pan a) L
theorem ansF_ok {F : List Acc} {pan : ByteArray} {a : Int} (h : ansF F pan a = okS) : 1 ≤ a ∧ a ≤ 1000000 ∧ ∃ v, gF pan F = some v ∧ a ≤ v := by
  unfold ansF at h
  split at h
  · exact absurd h (by decide)
  split at h
  · exact absurd h (by decide)
  split at h
  · exact absurd h (by decide)
  · rename_i h1 h2 h3
    obtain ⟨v, hv⟩ : ∃ v, gF pan F = some v := by
      cases hg : gF pan F with
      | none => exact absurd hg h2
      | some v => exact ⟨v, rfl⟩
    rw [hv] at h3
    simp at h3
    exact ⟨by omega, by omega, v, hv, h3⟩
section
variable {H R : Heap} {p : Nat} {F : List Acc} {L : List LE} {fm lm : Nat}
theorem Led.setF {H1 R1 : Heap} (h : Led R1 p F L fm lm) (own : Own H R H1 R1) (F' : List Acc) : Own H R (upd H1 fm (.map (F'.map fE))) (upd R1 fm (.map (F'.map fE))) ∧ Led (upd R1 fm (.map (F'.map fE))) p F' L fm lm :=
  ⟨own.set h.fs _, ⟨⟨by rw [upd_ne _ _ h.pf]; exact h.row, upd_same _ _ _, by rw [upd_ne _ _ h.fl.symm]; exact h.es⟩, h.fl⟩⟩
theorem Led.setL {H1 R1 : Heap} (h : Led R1 p F L fm lm) (own : Own H R H1 R1) (L' : List LE) : Own H R (upd H1 lm (.map (L'.map eE))) (upd R1 lm (.map (L'.map eE))) ∧ Led (upd R1 lm (.map (L'.map eE))) p F L' fm lm :=
  ⟨own.set h.es _, ⟨⟨by rw [upd_ne _ _ h.pl]; exact h.row, by rw [upd_ne _ _ h.fl]; exact h.fs, upd_same _ _ _⟩, h.fl⟩⟩
theorem debit_c (hR : Heap.le R H) (h : Led R p F L fm lm) (t s : Int) (pan : ByteArray) (a : Int) (hv : ∀ v, gF pan F = some v → v ≤ 100000000000000) : ECalls Try.prog 13 #[.pointer (some ⟨p, 0, none⟩), .agg #[.int .u16 t, .int .u32 s], .string pan, .int .i64 a] H
    fun v H' => v = .string (debA F L t s pan a) ∧ ∃ R', Own H R H' R' ∧ Led R' p (debF F L t s pan a) (debL F L t s pan a) fm lm := by
  refine ecalls_of_ewp (args := [_, _, _, _]) Try.func13 rfl rfl rfl (by simp [Try.ntmps13]) (by kernel_rfl) ?_
  have hp := hR _ _ h.row
  have hl := hR _ _ h.es
  simp (disch := first | omega | assumption | decide | (simp <;> omega) | fail) [facts, ]
  refine fresh_intro fun kb hkb => ?_
  obtain ⟨H1, hH1⟩ : ∃ H1, H1 = upd H kb (.row true 0 [.int .u16 t, .int .u32 s] 0) := ⟨_, rfl⟩
  have own1 : Own H R H1 R := by rw [hH1]; exact (Own.refl hR).grow (le_upd _ hkb)
  have hk1 : H1 kb = some (.row true 0 [.int .u16 t, .int .u32 s] 0) := by rw [hH1, upd_same]
  have hp1 := own1.le _ _ h.row
  have hl1 := own1.le _ _ h.es
  have hlk := lookE2 t s hl1
  simp (disch := first | omega | assumption | decide | (simp <;> omega) | fail) [facts, ]
  rw [← hH1]
  obtain ⟨e, he⟩ : ∃ e, e = (gE t s L).getD (zE t s) := ⟨_, rfl⟩
  rw [← he] at hlk
  obtain ⟨I, hI⟩ : ∃ I : St → Prop, I = (fun st => ∃ b, st.env 0 = .pointer (some ⟨p, 0, none⟩) ∧ st.env 2 = .string pan ∧ st.env 3 = .int .i64 a ∧ st.env 5 = .pointer (some ⟨kb, 0, none⟩) ∧ st.env 9 = .pointer (some ⟨b, 0, none⟩) ∧ st.env 10 = .bool (gE t s L).isSome ∧ H1 b = none ∧ st.heap = upd H1 b (.row true 0 [.string e.ans, .string e.pan, .int .i64 e.net] 0)) := ⟨_, rfl⟩
  refine w_cut I ?_ ?_
  · refine w_plan (by simp [facts]) (opsP [0,1,2] (.both (opsP [3] (.both (opsP [4] (.both (opsP [5,6,7,8,9,10,11] .done) (opsP [9,5,6,7,8,10,11] .done))) (opsP [9,4,5,6,7,8,10,11] .done))) (.both (opsP [4] (.both (opsP [3] (.both (opsP [5,6,7,8,9,10,11] .done) (opsP [9,5,6,7,8,10,11] .done))) (opsP [9,3,5,6,7,8,10,11] .done))) (opsP [9] (.both (opsP [3,4,5,6,7,8,10,11] .done) (opsP [4,3,5,6,7,8,10,11] .done)))))) (by decide +kernel) ?_
    simp (disch := first | omega | assumption | decide | (simp <;> omega) | fail) [facts, hp1, hk1, hlk]
    repeat' apply And.intro
    all_goals refine fresh_intro fun b hb => ?_
    all_goals
      have hk2 := upd_other (o := .row true 0 [.string ByteArray.empty, .string ByteArray.empty, .int .i64 0] 0) hb hk1
      have hp2 := upd_other (o := .row true 0 [.string ByteArray.empty, .string ByteArray.empty, .int .i64 0] 0) hb hp1
      have hlk2 := lookE2 t s (upd_other (o := .row true 0 [.string ByteArray.empty, .string ByteArray.empty, .int .i64 0] 0) hb hl1)
      rw [← he] at hlk2
      simp (disch := first | omega | assumption | decide | (simp <;> omega) | fail) [facts, hk2, hp2, hlk2]
      repeat' apply And.intro
      all_goals
        subst hI
        exact ⟨b, by simp, by simp, by simp, by simp, by simp, by simp, hb, by simp [upd_upd]⟩
  rintro ⟨env, G⟩ hS
  subst hI
  obtain ⟨b, e0, e2, e3, e5, e9, e10, hb, hG⟩ := hS
  simp only at e0 e2 e3 e5 e9 e10 hG
  have own2 : Own H R G R := by rw [hG]; exact own1.grow (le_upd _ hb)
  have hk2 : G kb = some (.row true 0 [.int .u16 t, .int .u32 s] 0) := by rw [hG]; exact upd_other hb hk1
  have hp2 := own2.le _ _ h.row
  have hb2 : G b = some (.row true 0 [.string e.ans, .string e.pan, .int .i64 e.net] 0) := by rw [hG, upd_same]
  cases hg : gE t s L with
  | some x =>
    have hex : e = x := by rw [he, hg]; rfl
    subst hex
    have hA : debA F L t s pan a = e.ans := by unfold debA; rw [hg]
    have hF : debF F L t s pan a = F := by unfold debF; rw [hg]
    have hL : debL F L t s pan a = L := by unfold debL; rw [hg]
    rw [hA, hF, hL]
    rw [hg] at e10
    simp (disch := first | omega | assumption | decide | (simp <;> omega) | fail) [facts, e10, e9, hb2]
    exact ⟨_, Heap.le_refl _, R, own2, h⟩
  | none =>
    have hA : debA F L t s pan a = ansF F pan a := by unfold debA; rw [hg]
    have hF : debF F L t s pan a = if ansF F pan a = okS then setM pan ((gF pan F).getD 0 - a) F else F := by unfold debF; rw [hg]
    have hL : debL F L t s pan a = setL (newE F t s pan a) L := by unfold debL; rw [hg]
    rw [hA, hF, hL]
    rw [hg] at e10
    simp (disch := first | omega | assumption | decide | (simp <;> omega) | fail) [facts, e10, e0, e2, e3, hp2]
    refine (answer_c own2.le h pan a).mono ?_
    rintro v G3 ⟨rfl, hle⟩
    have own3 := own2.grow hle
    simp (disch := first | omega | assumption | decide | (simp <;> omega) | fail) [facts, e0, e2, e3, e5]
    refine fresh_intro fun b3 hb3 => ?_
    obtain ⟨G4, hG4⟩ : ∃ G4, G4 = upd G3 b3 (.row true 0 [.string (ansF F pan a), .string ByteArray.empty, .int .i64 0] 0) := ⟨_, rfl⟩
    have own4 : Own H R G4 R := by rw [hG4]; exact own3.grow (le_upd _ hb3)
    have hk4 : G4 kb = some (.row true 0 [.int .u16 t, .int .u32 s] 0) := by rw [hG4]; exact upd_other hb3 (hle _ _ hk2)
    have hp4 := own4.le _ _ h.row
    have hf4 := own4.le _ _ h.fs
    have hlkF := lookF pan hf4
    have hlk4 : G4 b3 = some (.row true 0 [.string (ansF F pan a), .string ByteArray.empty, .int .i64 0] 0) := by rw [hG4, upd_same]
    simp (disch := first | omega | assumption | decide | (simp <;> omega) | fail) [facts, e0, e2, e3, e5, upd_upd]
    rw [← hG4]
    have hkb : b3 ≠ kb := fun e' => by subst e'; rw [hle _ _ hk2] at hb3; cases hb3
    have hpb : b3 ≠ p := fun e' => by subst e'; rw [hle _ _ hp2] at hb3; cases hb3
    have hbf : b3 ≠ fm := fun e' => by subst e'; rw [own3.le _ _ h.fs] at hb3; cases hb3
    have hbl : b3 ≠ lm := fun e' => by subst e'; rw [own3.le _ _ h.es] at hb3; cases hb3
    have hkf : kb ≠ fm := fun e' => by subst e'; have := own3.le _ _ h.fs; rw [hle _ _ hk2] at this; cases this
    by_cases hok : ansF F pan a = okS
    · obtain ⟨ha1, ha2, v, hgv, hav⟩ := ansF_ok hok
      have hvb := hv v hgv
      rw [hgv] at hlkF ⊢
      have hE : newE F t s pan a = ⟨t, s, okS, pan, a⟩ := by unfold newE; rw [if_pos hok]
      rw [if_pos hok, hE]
      rw [hok] at hlk4 ⊢
      obtain ⟨G5, hG5⟩ : ∃ G5, G5 = upd G4 b3 (.row true 0 [.string okS, .string pan, .int .i64 a] 0) := ⟨_, rfl⟩
      have own5 : Own H R G5 R := by
        rw [hG5, hG4, upd_upd]
        exact own3.grow (le_upd _ hb3)
      have hp5 := own5.le _ _ h.row
      have hlkF5 := lookF pan (own5.le _ _ h.fs)
      rw [hgv] at hlkF5
      have hk5 : G5 kb = some (.row true 0 [.int .u16 t, .int .u32 s] 0) := by rw [hG5, upd_ne _ _ hkb.symm]; exact hk4
      simp only [decide_true]
      simp (disch := first | omega | assumption | decide | (simp <;> omega) | fail) [facts, e0, e2, e3, e5, hlk4, upd_upd, upd_same]
      rw [← hG5]
      simp (disch := first | omega | assumption | decide | (simp <;> omega) | fail) [facts, e0, e2, e3, e5, hp5, hlkF5]
      refine mapsetF pan (v - a) (own5.le _ _ h.fs) ?_
      obtain ⟨own6, h6⟩ := h.setF own5 (setM pan (v - a) F)
      obtain ⟨G6, hG6⟩ : ∃ G6, G6 = upd G5 fm (.map ((setM pan (v - a) F).map fE)) := ⟨_, rfl⟩
      rw [← hG6] at own6 ⊢
      have hp6 := own6.le _ _ h6.row
      have hk6 : G6 kb = some (.row true 0 [.int .u16 t, .int .u32 s] 0) := by rw [hG6, upd_ne _ _ hkf]; exact hk5
      have hb6 : G6 b3 = some (.row true 0 [.string okS, .string pan, .int .i64 a] 0) := by rw [hG6, upd_ne _ _ hbf, hG5, upd_same]
      simp (disch := first | omega | assumption | decide | (simp <;> omega) | fail) [facts, e0, e2, e3, e5]
      refine w_plan (by simp [facts]) (opsP [0,1,2,3,4,5,6] .done) (by decide +kernel) ?_
      simp (disch := first | omega | assumption | decide | (simp <;> omega) | fail) [facts, e0, e5, hp6, hk6, hb6]
      refine mapsetE ⟨t, s, okS, pan, a⟩ (own6.le _ _ h6.es) ?_
      obtain ⟨own7, h7⟩ := h6.setL own6 (setL ⟨t, s, okS, pan, a⟩ L)
      have hb7 : upd G6 lm (.map ((setL ⟨t, s, okS, pan, a⟩ L).map eE)) b3 = some (.row true 0 [.string okS, .string pan, .int .i64 a] 0) := by rw [upd_ne _ _ hbl]; exact hb6
      simp (disch := first | omega | assumption | decide | (simp <;> omega) | fail) [facts, e0, e5, hb7]
      exact ⟨_, Heap.le_refl _, _, own7, h7⟩
    · have hE : newE F t s pan a = ⟨t, s, ansF F pan a, ByteArray.empty, 0⟩ := by unfold newE; rw [if_neg hok]
      rw [if_neg hok, hE]
      simp only [hok, decide_false]
      have own6 := own4
      have h6 := h
      have hp6 := hp4
      have hk6 := hk4
      have hb6 := hlk4
      obtain ⟨G6, hG6⟩ : ∃ G6, G6 = G4 := ⟨_, rfl⟩
      rw [← hG6] at own6 hp6 hk6 hb6 ⊢
      simp (disch := first | omega | assumption | decide | (simp <;> omega) | fail) [facts, e0, e2, e3, e5]
      refine w_plan (by simp [facts]) (opsP [0,1,2,3,4,5,6] .done) (by decide +kernel) ?_
      simp (disch := first | omega | assumption | decide | (simp <;> omega) | fail) [facts, e0, e5, hp6, hk6, hb6]
      refine mapsetE ⟨t, s, ansF F pan a, ByteArray.empty, 0⟩ (own6.le _ _ h6.es) ?_
      obtain ⟨own7, h7⟩ := h6.setL own6 (setL ⟨t, s, ansF F pan a, ByteArray.empty, 0⟩ L)
      have hb7 : upd G6 lm (.map ((setL ⟨t, s, ansF F pan a, ByteArray.empty, 0⟩ L).map eE)) b3 = some (.row true 0 [.string (ansF F pan a), .string ByteArray.empty, .int .i64 0] 0) := by rw [upd_ne _ _ hbl]; exact hb6
      simp (disch := first | omega | assumption | decide | (simp <;> omega) | fail) [facts, e0, e5, hb7]
      exact ⟨_, Heap.le_refl _, _, own7, h7⟩
end
end Go.Proofs.Ytdeffhibolcebaa.GL
