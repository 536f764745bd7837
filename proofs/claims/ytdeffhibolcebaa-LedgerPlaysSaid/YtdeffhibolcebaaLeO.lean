/- Layer 21: the document's ledger: Debit, Reverse. -/
import Derived.Test.YtdeffhibolcebaaLeN
namespace Go.Proofs.Ytdeffhibolcebaa.GL
open Go Go.RowKit Go.MapKept
set_option maxRecDepth 10000
set_option pp.deepTerms.threshold 8
set_option pp.maxSteps 3000
set_option linter.unusedSimpArgs false
set_option linter.unusedVariables false

section
variable {H R : Heap} {p : Nat} {F : List Acc} {L : List LE}
theorem rdebit_c (hR : Heap.le R H) (h : RLed R p F L) (hw : Wf F L) (t s : Int) (pan : ByteArray) (a : Int) : ECalls Try.prog 14 #[.pointer (some ⟨p, 0, none⟩), .agg #[.int .u16 t, .int .u32 s], .string pan, .int .i64 a] H
    fun v H' => v = .string (debA F L t s pan a) ∧ ∃ R', Own H R H' R' ∧ RLed R' p (debF F L t s pan a) (debL F L t s pan a) := by
  refine ecalls_of_ewp (args := [_, _, _, _]) Try.func14 rfl rfl rfl (by simp [Try.ntmps14]) (by kernel_rfl) ?_
  have hnf := hw.nf
  have hnl := hw.nl
  simp (disch := first | omega | assumption | decide | (simp <;> omega) | fail) [facts, ]
  refine fresh_intro fun kb hkb => ?_
  have hle := le_upd (.row true 0 [.int .u16 t, .int .u32 s] 0) hkb
  have hk := upd_same H kb (.row true 0 [.int .u16 t, .int .u32 s] 0)
  generalize upd H kb (.row true 0 [.int .u16 t, .int .u32 s] 0) = H1 at *
  have hkR : R kb = none := le_of_none hR hkb
  simp (disch := first | omega | assumption | decide | (simp <;> omega) | fail) [facts, hk]
  refine (at_c (Heap.le_trans hR hle) h t s (by omega)).mono ?_
  rintro v H2 ⟨rfl, hle2⟩
  have ow2 : Own H R H2 R := (Own.refl hR).grow (Heap.le_trans hle hle2)
  have hk2 := hle2 _ _ hk
  cases hi : idxE t s L with
  | some i =>
    obtain ⟨e, he, _⟩ := idxE_lt hi
    have hlt := (List.getElem?_eq_some_iff.1 he).1
    have hg := gE_at hi he
    have hA : debA F L t s pan a = e.ans := by unfold debA; rw [hg]
    have hF : debF F L t s pan a = F := by unfold debF; rw [hg]
    have hL : debL F L t s pan a = L := by unfold debL; rw [hg]
    rw [hA, hF, hL]
    obtain ⟨v0, v1, v2, v3, v4, v5, hr, hl⟩ := h.open
    obtain ⟨a', c, rfl, hs3, _⟩ := (hl.get (i := 3) rfl rfl).sl ow2.le
    simp only [rxs] at hs3
    have hp := ow2.le _ _ hr
    simp only at hp
    obtain ⟨ab, ao, rfl⟩ := hs3.lit (by omega)
    have rx : rd1U (H2 ab) (ao + i) = some (.string e.ans) := by
      have := hs3.at (f := fun e : LE => Value.string e.ans) he
      exact this
    have h0 : (0 : Int) ≤ (i : Int) := by omega
    have hltI : (i : Int) < (L.length : Int) := by omega
    simp only [idI]
    simp (disch := first | omega | assumption | decide | (simp <;> omega) | fail) [facts, h0, hp, hltI, rx]
    exact ⟨_, Heap.le_refl _, R, ow2, h⟩
  | none =>
    have hg : gE t s L = none := idxE_none.2 hi
    have hA : debA F L t s pan a = ansF F pan a := by unfold debA; rw [hg]
    have hF : debF F L t s pan a = if ansF F pan a = okS then setM pan ((gF pan F).getD 0 - a) F else F := by unfold debF; rw [hg]
    have hL : debL F L t s pan a = setL (newE F t s pan a) L := by unfold debL; rw [hg]
    rw [hA, hF, hL]
    have hno : ∀ (e : LE), e.t = t → e.s = s → setL e L = L ++ [e] := fun e h1 h2 => setL_new (by rw [h1, h2]; exact hg)
    simp only [idI]
    simp (disch := first | omega | assumption | decide | (simp <;> omega) | fail) [facts, ]
    refine (account_c ow2.le h pan hnf).mono ?_
    rintro v H3 ⟨rfl, rfl⟩
    by_cases h1 : a < 1
    · have hans : ansF F pan a = ⟨#[49, 51]⟩ := by unfold ansF; rw [if_pos (.inl h1)]
      have hE : newE F t s pan a = ⟨t, s, ⟨#[49, 51]⟩, ByteArray.empty, 0⟩ := by unfold newE; rw [hans, if_neg (by decide)]
      rw [hE, hans, if_neg (by decide), hno _ rfl rfl]
      have hd : (decide ((⟨#[49, 51]⟩ : ByteArray) = ⟨#[48, 48]⟩)) = false := by decide
      simp (disch := first | omega | assumption | decide | (simp <;> omega) | fail) [facts, h1, hk2, hd]
      refine (keep_c ow2.le h ⟨t, s, ⟨#[49, 51]⟩, ByteArray.empty, 0⟩ (by omega)).mono ?_
      rintro _ H4 ⟨rfl, R4, ow4, hR4⟩
      simp (disch := first | omega | assumption | decide | (simp <;> omega) | fail) [facts, ]
      exact ⟨_, Heap.le_refl _, R4, ow2.trans ow4, hR4⟩
    by_cases h2 : 1000000 < a
    · have hans : ansF F pan a = ⟨#[49, 51]⟩ := by unfold ansF; rw [if_pos (.inr h2)]
      have hE : newE F t s pan a = ⟨t, s, ⟨#[49, 51]⟩, ByteArray.empty, 0⟩ := by unfold newE; rw [hans, if_neg (by decide)]
      rw [hE, hans, if_neg (by decide), hno _ rfl rfl]
      have hd : (decide ((⟨#[49, 51]⟩ : ByteArray) = ⟨#[48, 48]⟩)) = false := by decide
      simp (disch := first | omega | assumption | decide | (simp <;> omega) | fail) [facts, h1, h2, hk2, hd]
      refine (keep_c ow2.le h ⟨t, s, ⟨#[49, 51]⟩, ByteArray.empty, 0⟩ (by omega)).mono ?_
      rintro _ H4 ⟨rfl, R4, ow4, hR4⟩
      simp (disch := first | omega | assumption | decide | (simp <;> omega) | fail) [facts, ]
      exact ⟨_, Heap.le_refl _, R4, ow2.trans ow4, hR4⟩
    have h12 : ¬ (a < 1 ∨ 1000000 < a) := by omega
    cases hix : idxF pan F with
    | none =>
      have hgf : gF pan F = none := by unfold gF; rw [hix]; rfl
      have hans : ansF F pan a = ⟨#[49, 52]⟩ := by unfold ansF; rw [if_neg h12, if_pos hgf]
      simp only [idI]
      have hE : newE F t s pan a = ⟨t, s, ⟨#[49, 52]⟩, ByteArray.empty, 0⟩ := by unfold newE; rw [hans, if_neg (by decide)]
      rw [hE, hans, if_neg (by decide), hno _ rfl rfl]
      have hd : (decide ((⟨#[49, 52]⟩ : ByteArray) = ⟨#[48, 48]⟩)) = false := by decide
      simp (disch := first | omega | assumption | decide | (simp <;> omega) | fail) [facts, h1, h2, hk2, hd]
      refine (keep_c ow2.le h ⟨t, s, ⟨#[49, 52]⟩, ByteArray.empty, 0⟩ (by omega)).mono ?_
      rintro _ H4 ⟨rfl, R4, ow4, hR4⟩
      simp (disch := first | omega | assumption | decide | (simp <;> omega) | fail) [facts, ]
      exact ⟨_, Heap.le_refl _, R4, ow2.trans ow4, hR4⟩
    | some i =>
      obtain ⟨v, hv⟩ := idxF_lt hix
      have hgf : gF pan F = some v := gF_at hix hv
      have hlt := (List.getElem?_eq_some_iff.1 hv).1
      have hvb := hw.fb _ (List.mem_of_getElem? hv)
      simp only at hvb
      obtain ⟨b, o, c, tail, room, v0, v2, v3, v4, v5, hr, hb, hset⟩ := h.money hv
      have hp := ow2.le _ _ hr
      have hbH := ow2.le _ _ hb
      have rm : rd1U (H3 b) (o + i) = some (.int .i64 v) := by
        rw [hbH, rd1U_row (by omega), show o + i - o = i by omega, List.getElem?_append_left (by simpa using hlt), List.getElem?_map, hv]; rfl
      have hltI : (i : Int) < (F.length : Int) := by omega
      have i0 : ¬ (i : Int) < 0 := by omega
      simp only [idI]
      by_cases h3 : v < a
      · have hans : ansF F pan a = ⟨#[53, 49]⟩ := by unfold ansF; rw [if_neg h12, if_neg (by rw [hgf]; simp), if_pos (by rw [hgf]; exact h3)]
        have hE : newE F t s pan a = ⟨t, s, ⟨#[53, 49]⟩, ByteArray.empty, 0⟩ := by unfold newE; rw [hans, if_neg (by decide)]
        rw [hE, hans, if_neg (by decide), hno _ rfl rfl]
        have hd : (decide ((⟨#[53, 49]⟩ : ByteArray) = ⟨#[48, 48]⟩)) = false := by decide
        simp (disch := first | omega | assumption | decide | (simp <;> omega) | fail) [facts, h1, h2, h3, i0, hp, hltI, rm, hk2, hd]
        refine (keep_c ow2.le h ⟨t, s, ⟨#[53, 49]⟩, ByteArray.empty, 0⟩ (by omega)).mono ?_
        rintro _ H4 ⟨rfl, R4, ow4, hR4⟩
        simp (disch := first | omega | assumption | decide | (simp <;> omega) | fail) [facts, ]
        exact ⟨_, Heap.le_refl _, R4, ow2.trans ow4, hR4⟩
      · have hans : ansF F pan a = okS := by unfold ansF; rw [if_neg h12, if_neg (by rw [hgf]; simp), if_neg (by rw [hgf]; exact h3)]
        have hE : newE F t s pan a = ⟨t, s, okS, pan, a⟩ := by unfold newE; rw [hans, if_pos rfl]
        rw [hE, hans, if_pos rfl, hno _ rfl rfl, hgf]
        have hb2 := hset (v - a)
        have ow3 := ow2.set hb (.row true o (((F.map fun x => Value.int .i64 x.2) ++ tail).set i (.int .i64 (v - a))) room)
        obtain ⟨R3, hR3⟩ : ∃ R3, R3 = upd R b (.row true o (((F.map fun x => Value.int .i64 x.2) ++ tail).set i (.int .i64 (v - a))) room) := ⟨_, rfl⟩
        obtain ⟨H4, hH4⟩ : ∃ H4, H4 = upd H3 b (.row true o (((F.map fun x => Value.int .i64 x.2) ++ tail).set i (.int .i64 (v - a))) room) := ⟨_, rfl⟩
        rw [← hR3] at hb2 ow3
        rw [← hH4] at ow3
        have hst : ∀ (K : Kont), storeU (some 1) (H3 b) b (o + i) (.int .i64 (v - a)) H3 K = K undef H4 := fun K => by
          rw [hbH, storeU_one (by omega) (by simp; omega) rfl, show o + i - o = i by omega, hH4]
        have hsM : setM pan ((some v).getD 0 - a) F = F.set i (pan, v - a) := setM_at hix
        rw [hsM]
        have hof : ofE (F.set i (pan, v - a)) ⟨t, s, okS, pan, a⟩ = (i : Int) := by
          rw [show (pan, v - a) = ((pan, v).1, v - a) from rfl, ofE_set hv]
          unfold ofE; simp only [if_true, hix, idI]
        simp (disch := first | omega | assumption | decide | (simp <;> omega) | fail) [facts, h1, h2, h3, i0, hp, hltI, rm, hst]
        have hkb : H4 kb = some (.row true 0 [.int .u16 t, .int .u32 s] 0) := by
          rw [hH4, upd_ne _ _ (fun e => by subst e; rw [hb] at hkR; cases hkR)]; exact hk2
        have kc := keep_c ow3.le hb2 ⟨t, s, okS, pan, a⟩ (by omega)
        rw [hof] at kc
        simp (disch := first | omega | assumption | decide | (simp <;> omega) | fail) [facts, hkb]
        refine kc.mono ?_
        rintro _ H5 ⟨rfl, R5, ow5, hR5⟩
        simp (disch := first | omega | assumption | decide | (simp <;> omega) | fail) [facts, ]
        exact ⟨_, Heap.le_refl _, R5, ow3.trans ow5, hR5⟩
end
end Go.Proofs.Ytdeffhibolcebaa.GL
