/- Layer 23: DiffsTell: the walk. -/
import Derived.Test.YtfpighmafofoeaaDoorRpD
import Derived.Test.YtfpighmafofoeaaDoorRpG
import Derived.Test.YtfpighmafofoeaaDoorRpK
namespace Go.Proofs.YtfpighmafofoeaaDoor.GL
open Go Go.RowKit
open Ca (Cs S4)
set_option maxRecDepth 10000
set_option pp.deepTerms.threshold 8
set_option pp.maxSteps 3000
set_option linter.unusedSimpArgs false
set_option linter.unusedVariables false

def dfP (D : List Df) (v : Value) (H : Heap) : Prop := ∃ a c, v = .slice a D.length c ∧ SlA H a D.length 3 (rowsC Df.cells D)
def dfGP (D : List Df) : GP := .as (dfP D) (fun v H H' hl h => by
  obtain ⟨a, c, h1, h2⟩ := h
  exact ⟨a, c, h1, h2.le hl⟩)
theorem CsIn.set {cs : List Cs} (h : CsIn cs) (i : Nat) {c : Cs} (h1 : i64In c.g) (h2 : i64In c.r) : CsIn (cs.set i c) := by
  refine ⟨by rw [List.length_set]; exact h.1, fun x hx => ?_⟩
  rcases List.mem_or_eq_of_mem_set hx with hx | rfl
  · exact h.2 x hx
  · exact ⟨h1, h2⟩
def dtInv (F : Heap) (b5 b6 b7 b11 k : Nat) (s : St) : Prop :=
  ∃ i : Nat, i ≤ 4 ∧ s.env 3 = .int .u8 k ∧ s.env 5 = .pointer (some ⟨b5, 0, none⟩) ∧ s.env 6 = .pointer (some ⟨b6, 0, none⟩) ∧ s.env 7 = .pointer (some ⟨b7, 0, none⟩) ∧ s.env 11 = .pointer (some ⟨b11, 0, none⟩) ∧ s.env 12 = .int .i64 i ∧ ∃ cs, CsIn cs ∧ s.heap = upd F b11 (.row true 0 (rowsC csC cs) 0)
set_option maxHeartbeats 2000000 in
theorem diffsTell_c (cs : List Cs) (gs rs : List Int) (k : Nat) (few : Bool) (H : Heap) (hc : CsIn cs) (hg : gs.length = 4) (hr : rs.length = 4) (hgi : ∀ z ∈ gs, i64In z) (hri : ∀ z ∈ rs, i64In z) (hk : k < 256) :
    ECalls Tryd.prog 3 #[cssV cs, notV gs, notV rs, .int .u8 k, .bool few] H fun v _ => v = .bool true := by
  refine ecalls_of_ewp (args := [_, _, _, _, _]) Tryd.func3 rfl rfl rfl (by simp [Tryd.ntmps3]) (by kernel_rfl) ?_
  unfold cssV notV
  obtain ⟨xl, hxl⟩ : ∃ xl, xl = rowsC csC cs := ⟨_, rfl⟩
  have xl16 : xl.length = 16 := by rw [hxl, rowsC_len csC4, hc.1]
  have xl1 : xl.all (·.oneCell') = true := by rw [hxl]; exact rowsC_one csC1 cs
  have k16 : List.take 16 xl = xl := List.take_of_length_le (by omega)
  rw [← hxl]
  have hsp : splice [.int .i64 0, .int .i64 0, .int .i64 0, .int .i64 0, .int .i64 0, .int .i64 0, .int .i64 0, .int .i64 0, .int .i64 0, .int .i64 0, .int .i64 0, .int .i64 0, .int .i64 0, .int .i64 0, .int .i64 0, .int .i64 0] 0 xl = xl := splice_all (by rw [xl16]; rfl)
  simp (disch := first | omega | assumption | decide | (simp <;> omega) | fail) [facts, ]
  refine fresh_intro fun b5 hb5 => ?_
  simp (disch := first | omega | assumption | decide | (simp <;> omega) | fail) [facts, ]
  refine fresh_intro fun b6 hb6 => ?_
  simp (disch := first | omega | assumption | decide | (simp <;> omega) | fail) [facts, ]
  refine fresh_intro fun b7 hb7 => ?_
  have r5 := upd_other (o := .row true 0 (rs.map i64V) 0) hb7 (upd_other (o := .row true 0 (gs.map i64V) 0) hb6 (upd_same H b5 (.row true 0 xl 0)))
  have r6 := upd_other (o := .row true 0 (rs.map i64V) 0) hb7 (upd_same (upd H b5 (.row true 0 xl 0)) b6 (.row true 0 (gs.map i64V) 0))
  have r7 := upd_same (upd (upd H b5 (.row true 0 xl 0)) b6 (.row true 0 (gs.map i64V) 0)) b7 (.row true 0 (rs.map i64V) 0)
  generalize upd (upd (upd H b5 (.row true 0 xl 0)) b6 (.row true 0 (gs.map i64V) 0)) b7 (.row true 0 (rs.map i64V) 0) = H1 at *
  simp (disch := first | omega | assumption | decide | (simp <;> omega) | fail) [facts, ]
  refine (known23_c H1).mono ?_
  rintro v F ⟨rfl, hle1⟩
  replace r5 := hle1 _ _ r5
  replace r6 := hle1 _ _ r6
  replace r7 := hle1 _ _ r7
  simp (disch := first | omega | assumption | decide | (simp <;> omega) | fail) [facts, r5, k16]
  refine fresh_intro fun b11 hb11 => ?_
  have r6F := r6
  have r7F := r7
  simp (disch := first | omega | assumption | decide | (simp <;> omega) | fail) [facts, upd_upd, xl16, xl1, hsp]
  obtain ⟨I, hI⟩ : ∃ I : St → Prop, I = (fun s => s.env 6 = .pointer (some ⟨b6, 0, none⟩) ∧ s.env 7 = .pointer (some ⟨b7, 0, none⟩) ∧ s.env 11 = .pointer (some ⟨b11, 0, none⟩) ∧ ∃ cs, CsIn cs ∧ s.heap = upd F b11 (.row true 0 (rowsC csC cs) 0)) := ⟨_, rfl⟩
  refine cond_cut3 I ?_ ?_
  · cases few with
    | false =>
      simp (disch := first | omega | assumption | decide | (simp <;> omega) | fail) [facts, ]
      subst hI
      exact ⟨by simp, by simp, by simp, cs, hc, by simp [hxl]⟩
    | true =>
      simp (disch := first | omega | assumption | decide | (simp <;> omega) | fail) [facts, ]
      refine w_loop (dtInv F b5 b6 b7 b11 k) (fun s => 4 - (intOf (s.env 12)).toNat) ?_ ?_
      · exact ⟨0, Nat.zero_le _, by simp, by simp, by simp, by simp, by simp, by simp, cs, hc, by simp [hxl]⟩
      clear hc hxl xl16 xl1 k16 hsp r5
      rintro ⟨e, G⟩ ⟨i, hi, e3, e5, e6, e7, e11, e12, ds, hd, rfl⟩
      simp only at e3 e5 e6 e7 e11 e12
      by_cases hlt : i < 4
      · have hltI : (i : Int) < 4 := by omega
        obtain ⟨c, hcx⟩ : ∃ c, ds[i]? = some c := ⟨_, List.getElem?_eq_getElem (by have := hd.1; omega)⟩
        obtain ⟨g, hgx⟩ : ∃ g, gs[i]? = some g := ⟨_, List.getElem?_eq_getElem (by omega)⟩
        obtain ⟨r, hrx⟩ : ∃ r, rs[i]? = some r := ⟨_, List.getElem?_eq_getElem (by omega)⟩
        obtain ⟨hgk, hgx'⟩ := List.getElem?_eq_some_iff.1 hgx
        obtain ⟨hrk, hrx'⟩ := List.getElem?_eq_some_iff.1 hrx
        have hgi' := hgi g (List.mem_of_getElem? hgx)
        have hri' := hri r (List.mem_of_getElem? hrx)
        have hci := hd.2 c (List.mem_of_getElem? hcx)
        have h6 := upd_other (o := .row true 0 (rowsC csC ds) 0) hb11 r6F
        have h7 := upd_other (o := .row true 0 (rowsC csC ds) 0) hb11 r7F
        have yl16 : (rowsC csC ds).length = 16 := by rw [rowsC_len csC4, hd.1]
        have hd1 : CsIn (ds.set i ⟨c.d, c.l, g, c.r⟩) := hd.set i hgi' hci.2
        have hd2 : CsIn ((ds.set i ⟨c.d, c.l, g, c.r⟩).set i ⟨c.d, c.l, g, r⟩) := hd1.set i hgi' hri'
        have hx1 : (ds.set i ⟨c.d, c.l, g, c.r⟩)[i]? = some ⟨c.d, c.l, g, c.r⟩ := by rw [List.getElem?_set_self (by have := hd.1; omega)]
        have s1 : (rowsC csC ds).set (i * 4 + 2) (.int .i64 g) = rowsC csC (ds.set i ⟨c.d, c.l, g, c.r⟩) := by
          have := rowsC_set1 (x' := ⟨c.d, c.l, g, c.r⟩) csC4 [] hcx (j := 2) (by decide) (v := .int .i64 g) rfl
          simpa using this
        have s2 : (rowsC csC (ds.set i ⟨c.d, c.l, g, c.r⟩)).set (i * 4 + 3) (.int .i64 r) = rowsC csC ((ds.set i ⟨c.d, c.l, g, c.r⟩).set i ⟨c.d, c.l, g, r⟩) := by
          have := rowsC_set1 (x' := ⟨c.d, c.l, g, r⟩) csC4 [] hx1 (j := 3) (by decide) (v := .int .i64 r) rfl
          simpa using this
        generalize (ds.set i ⟨c.d, c.l, g, c.r⟩).set i ⟨c.d, c.l, g, r⟩ = ds2 at hd2 s2
        generalize ds.set i ⟨c.d, c.l, g, c.r⟩ = ds1 at hd1 s1 s2
        have y1 : (rowsC csC ds1).length = 16 := by rw [rowsC_len csC4, hd1.1]
        have y2 : (rowsC csC ds2).length = 16 := by rw [rowsC_len csC4, hd2.1]
        simp (disch := first | omega | assumption | decide | (simp <;> omega) | fail) [facts, e12, hltI]
        obtain ⟨J, hJ⟩ : ∃ J : St → Prop, J = (fun s => s.env 3 = .int .u8 k ∧ s.env 5 = .pointer (some ⟨b5, 0, none⟩) ∧ s.env 6 = .pointer (some ⟨b6, 0, none⟩) ∧ s.env 7 = .pointer (some ⟨b7, 0, none⟩) ∧ s.env 11 = .pointer (some ⟨b11, 0, none⟩) ∧ s.env 12 = .int .i64 i ∧ s.heap = upd F b11 (.row true 0 (rowsC csC ds2) 0)) := ⟨_, rfl⟩
        refine w_cut J ?_ ?_
        · refine w_plan (P := Tryd.prog) (by simp [facts]) (opsP [0,1,2,3,4,5,6,8,9] (.both (opsP [7,10,11,12,13] .done) (opsP [10,7,11,12,13] .done))) ?_ ?_
          · decide +kernel
          have h7b := upd_other (o := .row true 0 (rowsC csC ds1) 0) hb11 r7F
          simp (disch := first | omega | assumption | decide | (simp <;> omega) | fail) [facts, e6, e7, e11, e12, h6, h7, h7b, hgx, hgx', hrx, hrx', hg, hr, upd_upd, yl16, s1, y1, s2, hltI]
          subst hJ
          try (repeat' apply And.intro)
          all_goals simp [e3, e5, e6, e7, e11, e12]
        clear e3 e5 e6 e7 e11 e12
        rintro ⟨e, G⟩ hII
        subst hJ
        obtain ⟨e3, e5, e6, e7, e11, e12, hG⟩ := hII
        simp only at e3 e5 e6 e7 e11 e12 hG
        subst hG
        simp (disch := first | omega | assumption | decide | (simp <;> omega) | fail) [facts, e3, e12]
        obtain ⟨J, hJ⟩ : ∃ J : St → Prop, J = (fun s => s.env 3 = .int .u8 k ∧ s.env 5 = .pointer (some ⟨b5, 0, none⟩) ∧ s.env 6 = .pointer (some ⟨b6, 0, none⟩) ∧ s.env 7 = .pointer (some ⟨b7, 0, none⟩) ∧ s.env 11 = .pointer (some ⟨b11, 0, none⟩) ∧ s.env 12 = .int .i64 i ∧ ∃ ds, CsIn ds ∧ s.heap = upd F b11 (.row true 0 (rowsC csC ds) 0)) := ⟨_, rfl⟩
        refine cond_cutB J ?_ ?_
        · refine (?_ : ∀ q : Bool, condK (Value.bool q) _ _ _ _ _) _
          intro q
          have g6 := upd_other (o := .row true 0 (rowsC csC ds2) 0) hb11 r6F
          cases q with
          | false =>
            simp (disch := first | omega | assumption | decide | (simp <;> omega) | fail) [facts, ]
            subst hJ
            exact ⟨by simp [e3], by simp [e5], by simp [e6], by simp [e7], by simp [e11], by simp [e12], ds2, hd2, by simp⟩
          | true =>
            simp (disch := first | omega | assumption | decide | (simp <;> omega) | fail) [facts, e6, e12, g6, hgx, hgx', hg, hltI]
            refine (place_c g _ hgi').mono ?_
            rintro v H2 ⟨⟨z, rfl, hz⟩, rfl⟩
            obtain ⟨c2, hcx2⟩ : ∃ c, ds2[i]? = some c := ⟨_, List.getElem?_eq_getElem (by have := hd2.1; omega)⟩
            have hci2 := hd2.2 c2 (List.mem_of_getElem? hcx2)
            have hd3 : CsIn (ds2.set i ⟨c2.d, c2.l, z, c2.r⟩) := hd2.set i hz hci2.2
            have s3 : (rowsC csC ds2).set (i * 4 + 2) (.int .i64 z) = rowsC csC (ds2.set i ⟨c2.d, c2.l, z, c2.r⟩) := by
              have := rowsC_set1 (x' := ⟨c2.d, c2.l, z, c2.r⟩) csC4 [] hcx2 (j := 2) (by decide) (v := .int .i64 z) rfl
              simpa using this
            simp (disch := first | omega | assumption | decide | (simp <;> omega) | fail) [facts, e11, e12, hltI, upd_upd, y2, s3]
            subst hJ
            exact ⟨by simp [e3], by simp [e5], by simp [e6], by simp [e7], by simp [e11], by simp [e12], _, hd3, by simp⟩
        · clear e3 e5 e6 e7 e11 e12
          rintro ⟨e, G⟩ hII
          subst hJ
          obtain ⟨e3, e5, e6, e7, e11, e12, ds3, hd3, hG⟩ := hII
          simp only at e3 e5 e6 e7 e11 e12 hG
          subst hG
          simp (disch := first | omega | assumption | decide | (simp <;> omega) | fail) [facts, e12]
          exact ⟨_, Heap.le_refl _, ⟨i + 1, by omega, by simp [e3], by simp [e5], by simp [e6], by simp [e7], by simp [e11], by simp, ds3, hd3, by simp⟩, by simp [intOf]; omega⟩
      · have hltI : ¬ (i : Int) < 4 := by omega
        simp (disch := first | omega | assumption | decide | (simp <;> omega) | fail) [facts, e12, hltI]
        subst hI
        exact ⟨by simp [e6], by simp [e7], by simp [e11], ds, hd, by simp⟩
  · clear hc hxl xl16 xl1 k16 hsp r5
    rintro ⟨e, G⟩ hII
    subst hI
    obtain ⟨e6, e7, e11, ds, hd, hG⟩ := hII
    simp only at e6 e7 e11 hG
    have r11 := upd_same F b11 (.row true 0 (rowsC csC ds) 0)
    have g6 := upd_other (o := .row true 0 (rowsC csC ds) 0) hb11 r6F
    have g7 := upd_other (o := .row true 0 (rowsC csC ds) 0) hb11 r7F
    rw [← hG] at r11 g6 g7
    have cd := fun H => diffs_c ds gs rs H hd.1 hg hr hd.2 hgi hri
    have cr := fun H => diffsR_c ds gs rs H hd.1 hg hr hd.2 hgi hri
    have hDl := dfTo_len ds gs rs 4
    generalize dfTo ds gs rs 4 = D at cd cr hDl
    unfold cssV notV at cd cr
    obtain ⟨yl, hyl⟩ : ∃ yl, yl = rowsC csC ds := ⟨_, rfl⟩
    have yl16 : yl.length = 16 := by rw [hyl, rowsC_len csC4, hd.1]
    have k16 : List.take 16 yl = yl := List.take_of_length_le (by omega)
    rw [← hyl] at r11
    simp only [← hyl] at cd cr
    have kg : List.take 4 (gs.map i64V) = gs.map i64V := List.take_of_length_le (by simp [hg])
    have kr : List.take 4 (rs.map i64V) = rs.map i64V := List.take_of_length_le (by simp [hr])
    simp (disch := first | omega | assumption | decide | (simp <;> omega) | fail) [facts, ]
    refine w_growL (by simp [facts]) 8 [45,46,47,48,49,50,51,52] [.eq (.agg yl.toArray), .eq (.agg (gs.map i64V).toArray), .eq (.agg (rs.map i64V).toArray), dfGP D, .eq (.agg yl.toArray), .eq (.agg (gs.map i64V).toArray), .eq (.agg (rs.map i64V).toArray), dfGP D] (by decide +kernel) rfl ?_ ?_
    · simp only [List.take_succ_cons, List.take_zero, allL_cons, allL_nil]
      refine ⟨?_, ?_, ?_, ?_, ?_, ?_, ?_, ?_, trivial⟩
      all_goals (unfold stepL; intro f Hx hl ha; have x11 := hl _ _ r11; have x6 := hl _ _ g6; have x7 := hl _ _ g7)
      all_goals try (simp (disch := first | omega | assumption | decide | (simp <;> omega) | fail) [facts, e6, e7, e11, x11, x6, x7, k16, kg, kr]; done)
      · simp (disch := first | omega | assumption | decide | (simp <;> omega) | fail) [facts, ]
        refine (cd Hx).mono ?_
        rintro v H' ⟨hle', hv⟩
        simp (disch := first | omega | assumption | decide | (simp <;> omega) | fail) [facts, ]
        exact ⟨hle', hv⟩
      · simp (disch := first | omega | assumption | decide | (simp <;> omega) | fail) [facts, ]
        refine (cr Hx).mono ?_
        rintro v H' ⟨hle', hv⟩
        simp (disch := first | omega | assumption | decide | (simp <;> omega) | fail) [facts, ]
        exact ⟨hle', hv⟩
    intro f G4 hle4 hkn
    have hkn2 : dfP D (f 48) G4 ∧ dfP D (f 52) G4 := ⟨hkn.2.2.2.1, hkn.2.2.2.2.2.2.2.1⟩
    obtain ⟨⟨a1, c1, f48, s1⟩, a2, c2, f52, s2⟩ := hkn2
    clear hkn cd cr
    simp (disch := first | omega | assumption | decide | (simp <;> omega) | fail) [facts, dfGP, f48, f52]
    refine (helpDiffs_c a1 a2 D.length c1 c2 D G4 s1 s2 (by omega)).mono ?_
    rintro v H' ⟨rfl, rfl⟩
    simp (disch := first | omega | assumption | decide | (simp <;> omega) | fail) [facts, ]
    exact ⟨_, Heap.le_refl _⟩
theorem diffsTell_l (cs : List Cs) (gs rs : List Int) (k : Nat) (few : Bool) (H : Heap) (hc : CsIn cs) (hg : gs.length = 4) (hr : rs.length = 4) (hgi : ∀ z ∈ gs, i64In z) (hri : ∀ z ∈ rs, i64In z) (hk : k < 256) :
    ECalls Tryd.prog 3 #[cssV cs, .agg (gs.map i64V).toArray, .agg (rs.map i64V).toArray, .int .u8 k, .bool few] H fun v _ => v = .bool true := diffsTell_c cs gs rs k few H hc hg hr hgi hri hk
end Go.Proofs.YtfpighmafofoeaaDoor.GL
