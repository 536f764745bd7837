/- Layer 21: the document's ledger: Reverse. -/
import Derived.Test.YtdeffhibolcebaaLeO
namespace Go.Proofs.Ytdeffhibolcebaa.GL
open Go Go.RowKit Go.MapKept
set_option maxRecDepth 10000
set_option pp.deepTerms.threshold 8
set_option pp.maxSteps 3000
set_option linter.unusedSimpArgs false
set_option linter.unusedVariables false

section
variable {H R : Heap} {p : Nat} {F : List Acc} {L : List LE}
theorem rreverse_c (hR : Heap.le R H) (h : RLed R p F L) (hw : Wf F L) (t s g : Int) : ECalls Try.prog 12 #[.pointer (some ⟨p, 0, none⟩), .agg #[.int .u16 t, .int .u32 s], .int .i64 g] H
    fun v H' => v = .string (revA g) ∧ ∃ R', Own H R H' R' ∧ RLed R' p (revF F L t s g) (revL L t s g) := by
  refine ecalls_of_ewp (args := [_, _, _]) Try.func12 rfl rfl rfl (by simp [Try.ntmps12]) (by kernel_rfl) ?_
  have hnf := hw.nf
  have hnl := hw.nl
  simp (disch := first | omega | assumption | decide | (simp <;> omega) | fail) [facts, ]
  refine fresh_intro fun kb hkb => ?_
  have hle := le_upd (.row true 0 [.int .u16 t, .int .u32 s] 0) hkb
  have hk := upd_same H kb (.row true 0 [.int .u16 t, .int .u32 s] 0)
  generalize upd H kb (.row true 0 [.int .u16 t, .int .u32 s] 0) = H1 at *
  have hkR : R kb = none := le_of_none hR hkb
  by_cases hg0 : g < 0
  · have hA : revA g = ⟨#[49, 51]⟩ := by unfold revA; rw [if_pos hg0]
    have hF : revF F L t s g = F := by unfold revF; rw [if_pos hg0]
    have hL : revL L t s g = L := by unfold revL; rw [if_pos hg0]
    rw [hA, hF, hL]
    simp (disch := first | omega | assumption | decide | (simp <;> omega) | fail) [facts, hg0]
    exact ⟨_, Heap.le_refl _, R, (Own.refl hR).grow hle, h⟩
  have hA : revA g = okS := by unfold revA; rw [if_neg hg0]
  rw [hA]
  simp (disch := first | omega | assumption | decide | (simp <;> omega) | fail) [facts, hg0, hk]
  refine (at_c (Heap.le_trans hR hle) h t s (by omega)).mono ?_
  rintro v H2 ⟨rfl, hle2⟩
  have ow2 : Own H R H2 R := (Own.refl hR).grow (Heap.le_trans hle hle2)
  have hk2 := hle2 _ _ hk
  cases hi : idxE t s L with
  | none =>
    have hg : gE t s L = none := idxE_none.2 hi
    have hF : revF F L t s g = F := by unfold revF; rw [if_neg hg0, hg]
    have hL : revL L t s g = L ++ [⟨t, s, ⟨#[49, 50]⟩, ByteArray.empty, 0⟩] := by unfold revL; rw [if_neg hg0, hg]; exact setL_new hg
    rw [hF, hL]
    simp only [idI]
    simp (disch := first | omega | assumption | decide | (simp <;> omega) | fail) [facts, hk2]
    refine (keep_c ow2.le h ⟨t, s, ⟨#[49, 50]⟩, ByteArray.empty, 0⟩ (by omega)).mono ?_
    rintro _ H4 ⟨rfl, R4, ow4, hR4⟩
    simp (disch := first | omega | assumption | decide | (simp <;> omega) | fail) [facts, ]
    exact ⟨_, Heap.le_refl _, R4, ow2.trans ow4, hR4⟩
  | some i =>
    obtain ⟨e, he, het, hes⟩ := idxE_lt hi
    have hlt := (List.getElem?_eq_some_iff.1 he).1
    have hg := gE_at hi he
    have heb := hw.bd e (List.mem_of_getElem? he)
    have hltI : (i : Int) < (L.length : Int) := by omega
    have i0 : ¬ (i : Int) < 0 := by omega
    obtain ⟨v0, v1, v2, v3, v4, v5, hr, hl⟩ := h.open
    obtain ⟨a4, c4, rfl, hs4, _⟩ := (hl.get (i := 4) rfl rfl).sl ow2.le
    obtain ⟨a5, c5, rfl, hs5, _⟩ := (hl.get (i := 5) rfl rfl).sl ow2.le
    simp only [rxs] at hs4 hs5
    obtain ⟨b4, o4, rfl⟩ := hs4.lit (by omega)
    obtain ⟨b5, o5, rfl⟩ := hs5.lit (by omega)
    have hp := ow2.le _ _ hr
    simp only at hp
    have r4 : rd1U (H2 b4) (o4 + i) = some (.int .i64 (ofE F e)) := by
      have := hs4.at (f := fun e : LE => Value.int .i64 (ofE F e)) he
      exact this
    have r5 : rd1U (H2 b5) (o5 + i) = some (.int .i64 e.net) := by
      have := hs5.at (f := fun e : LE => Value.int .i64 e.net) he
      exact this
    simp only [idI]
    by_cases hok : e.ans = okS
    · obtain ⟨k, hk'⟩ := hw.ok e (List.mem_of_getElem? he) hok
      have hof : ofE F e = (k : Int) := by unfold ofE; rw [if_pos hok, hk']; rfl
      rw [hof] at r4
      have k0 : (0 : Int) ≤ (k : Int) := by omega
      by_cases hlt2 : g < e.net
      · obtain ⟨v, hv⟩ := idxF_lt hk'
        have hgf : gF e.pan F = some v := gF_at hk' hv
        have hkl := (List.getElem?_eq_some_iff.1 hv).1
        have hklI : (k : Int) < (F.length : Int) := by omega
        have hvb := hw.fb _ (List.mem_of_getElem? hv)
        simp only at hvb
        have hF : revF F L t s g = F.set k (e.pan, v + (e.net - g)) := by unfold revF; rw [if_neg hg0, hg]; simp only [hlt2, if_true, hgf, Option.getD_some]; exact setM_at hk'
        have hL : revL L t s g = L.set i ⟨e.t, e.s, e.ans, e.pan, g⟩ := by unfold revL; rw [if_neg hg0, hg]; simp only [hlt2, if_true]; rw [het, hes]; exact setL_at hi
        rw [hF, hL]
        obtain ⟨b, o, c, tail, room, w0, w2, w3, w4, w5, hr', hb, hset⟩ := h.money hv
        have heq := hr.symm.trans hr'
        simp only [Option.some.injEq, GObj.row.injEq, List.cons.injEq, and_true, true_and] at heq
        obtain ⟨rfl, rfl, rfl, rfl, rfl, rfl⟩ := heq
        have hbH := ow2.le _ _ hb
        have rm : rd1U (H2 b) (o + k) = some (.int .i64 v) := by
          rw [hbH, rd1U_row (by omega), show o + k - o = k by omega, List.getElem?_append_left (by simpa using hkl), List.getElem?_map, hv]; rfl
        have hb2 := hset (v + (e.net - g))
        have ow3 := ow2.set hb (.row true o (((F.map fun x => Value.int .i64 x.2) ++ tail).set k (.int .i64 (v + (e.net - g)))) room)
        obtain ⟨R3, hR3⟩ : ∃ R3, R3 = upd R b (.row true o (((F.map fun x => Value.int .i64 x.2) ++ tail).set k (.int .i64 (v + (e.net - g)))) room) := ⟨_, rfl⟩
        obtain ⟨H4, hH4⟩ : ∃ H4, H4 = upd H2 b (.row true o (((F.map fun x => Value.int .i64 x.2) ++ tail).set k (.int .i64 (v + (e.net - g)))) room) := ⟨_, rfl⟩
        rw [← hR3] at hb2 ow3
        rw [← hH4] at ow3
        have hst : ∀ (K : Kont), storeU (some 1) (H2 b) b (o + k) (.int .i64 (v + (e.net - g))) H2 K = K undef H4 := fun K => by
          rw [hbH, storeU_one (by omega) (by simp; omega) rfl, show o + k - o = k by omega, hH4]
        obtain ⟨b', o', c', tail', room', u0, u1, u2, u3, u4, hr2, hb', hset'⟩ := hb2.nets he
        have hp4 := ow3.le _ _ hr2
        have hbH' := ow3.le _ _ hb'
        have hb3 := hset' g
        have ow4 := ow3.set hb' (.row true o' (((L.map fun e => Value.int .i64 e.net) ++ tail').set i (.int .i64 g)) room')
        obtain ⟨H5, hH5⟩ : ∃ H5, H5 = upd H4 b' (.row true o' (((L.map fun e => Value.int .i64 e.net) ++ tail').set i (.int .i64 g)) room') := ⟨_, rfl⟩
        rw [← hH5] at ow4
        have hst' : ∀ (K : Kont), storeU (some 1) (H4 b') b' (o' + i) (.int .i64 g) H4 K = K undef H5 := fun K => by
          rw [hbH', storeU_one (by omega) (by simp; omega) rfl, show o' + i - o' = i by omega, hH5]
        simp (disch := first | omega | assumption | decide | (simp <;> omega) | fail) [facts, i0, hp, hltI, r4, r5, k0, hlt2]
        refine w_plan (by simp [facts]) (opsP [0,1,2,3,4,5,6,7,8,9,10,11,12,13,14,15,16,17,18,19,20,21,22,23,24] .done) (by decide +kernel) ?_
        simp (disch := first | omega | assumption | decide | (simp <;> omega) | fail) [facts, i0, hp, hltI, hklI, r4, r5, rm, hst, hp4, hst']
        exact ⟨_, Heap.le_refl _, _, ow4, hb3⟩
      · have hF : revF F L t s g = F := by unfold revF; rw [if_neg hg0, hg]; simp only [hlt2, if_false]
        have hL : revL L t s g = L := by unfold revL; rw [if_neg hg0, hg]; simp only [hlt2, if_false]
        rw [hF, hL]
        simp (disch := first | omega | assumption | decide | (simp <;> omega) | fail) [facts, i0, hp, hltI, r4, r5, k0, hlt2]
        exact ⟨_, Heap.le_refl _, R, ow2, h⟩
    · have hof : ofE F e = -1 := by unfold ofE; rw [if_neg hok]
      rw [hof] at r4
      have hnet := hw.no e (List.mem_of_getElem? he) hok
      have hlt2 : ¬ g < e.net := by omega
      have hF : revF F L t s g = F := by unfold revF; rw [if_neg hg0, hg]; simp only [hlt2, if_false]
      have hL : revL L t s g = L := by unfold revL; rw [if_neg hg0, hg]; simp only [hlt2, if_false]
      rw [hF, hL]
      simp (disch := first | omega | assumption | decide | (simp <;> omega) | fail) [facts, i0, hp, hltI, r4, r5]
      exact ⟨_, Heap.le_refl _, R, ow2, h⟩
end
end Go.Proofs.Ytdeffhibolcebaa.GL
