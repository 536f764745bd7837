/- Layer 3: the document's disk: written, synced. -/
import Derived.Test.YtobkfpohdknggaaDiJ
namespace Go.Proofs.Ytobkfpohdknggaa.GL
open Go Go.RowKit
set_option maxRecDepth 10000
set_option pp.deepTerms.threshold 8
set_option pp.maxSteps 3000
set_option linter.unusedSimpArgs false
set_option linter.unusedVariables false

def rwE (r : RZ) (n : Int) : Int := if routZ r n ≠ 0 then routZ r n else if (stepZ r).gone = true then 22 else 0
def rwD (r : RZ) (n : Int) (bs : List UInt8) : RZ := if routZ r n ≠ 0 then r else if (stepZ r).gone = true then stepZ r else { stepZ r with wait := r.wait ++ [⟨n.toNat, secOf bs⟩] }
def rsE (r : RZ) : Int := if r.gone = true then 22 else if (stepZ r).gone = true then 22 else 0
def rsD (r : RZ) : RZ := if r.gone = true then r else if (stepZ r).gone = true then stepZ r else { stepZ r with S := applyW r.S r.wait, wait := [] }
theorem wr_build (j : Nat) : splice (Value.int .i64 0 :: rep 64 (.int .u8 0)) 0 [.int .i64 (j : Int)] = .int .i64 j :: rep 64 (.int .u8 0) := rfl
theorem wr_copy (j : Nat) (bs : List UInt8) : splice (Value.int .i64 (j : Int) :: rep 64 (.int .u8 0)) 1 ((bs.map u8V).take (min bs.length 64)) = (⟨j, secOf bs⟩ : Wr).cells := by
  have := sec_copy bs
  unfold splice at this ⊢
  rw [List.take_zero, List.nil_append, Nat.zero_add] at this
  unfold Wr.cells
  rw [← this, Nat.add_comm 1, List.drop_succ_cons]
  rfl
theorem wr_row2 (x : Wr) : splice (zeros (Value.int .i64 0 :: rep 64 (.int .u8 0)) 1) 0 x.cells = x.cells := splice_all (by simp [zeros])
section
variable {H R F : Heap} {p : Nat} {r : RZ}
set_option maxHeartbeats 1000000 in
theorem refWrite_c (hR : Heap.le R H) (h : Ref R p r) (hF : Heap.le F H) (hoff : Off F R) (m : Int) {a : Option Addr} {n c : Nat} {bs : List UInt8} (hb : ByA F a n bs) (hn : n ≤ 1000000) (hw : r.wait.length ≤ 1000000) :
    ECalls Try.prog 21 #[.pointer (some ⟨p, 0, none⟩), .int .i64 m, .slice a n c] H fun v H' => v = .int .i64 (rwE r m) ∧ ∃ R', Own H R H' R' ∧ Ref R' p (rwD r m bs) := by
  refine ecalls_of_ewp (args := [_, _, _]) Try.func21 rfl rfl rfl (by simp [Try.ntmps21]) (by kernel_rfl) ?_
  have hlen := hb.len
  subst hlen
  have cs := refStep_c hR h
  have h' := h
  obtain ⟨k, ok, ck, rk, qv, hd⟩ := h'
  have hp := hR _ _ hd.row
  unfold rwE rwD
  by_cases ho : routZ r m = 0
  · obtain ⟨hg, j, rfl, hj⟩ := routZ_zero ho
    rw [hg] at hp
    have hj0 : ¬ (j : Int) < 0 := by omega
    have hj1 : ¬ (r.S.length : Int) ≤ (j : Int) := by omega
    simp only [ho, ne_eq, not_true_eq_false, if_false]
    simp (disch := first | omega | assumption | decide | (simp <;> omega) | fail) [facts, hp, hj0, hj1]
    refine cs.mono ?_
    rintro v H3 ⟨rfl, R3, hown, hd3⟩
    cases hsg : (stepZ r).gone with
    | true =>
      simp (disch := first | omega | assumption | decide | (simp <;> omega) | fail) [facts, hsg]
      exact ⟨_, Heap.le_refl _, R3, hown, hd3⟩
    | false =>
      obtain ⟨s1, s3⟩ := stepZ_same r
      obtain ⟨hF3, hoff3⟩ := hown.frame hF hoff
      have hone : (Value.int .i64 (j : Int) :: rep 64 (.int .u8 0)).all (·.oneCell') = true := rfl
      simp (disch := first | omega | assumption | decide | (simp <;> omega) | fail) [facts, hsg]
      refine fresh_intro fun b hb9 => ?_
      simp (disch := first | omega | assumption | decide | (simp <;> omega) | fail) [facts, upd_upd, splice_all]
      refine copy_own (e := 5) (s := 1) (n := bs.length) (ys := bs.map u8V) (by simp [facts]) (by simp [facts]) (src_by (e1 := 5) (z := .int .u8 0) (by simp [facts]) (by simp [facts]) (by simp [facts]) (hb.le (Heap.le_trans hF3 (le_upd _ hb9)))) (by simp [facts]) (by intro k z e; cases e) (by simp) (all_u8 bs) (upd_same _ _ _) (Nat.zero_le _) (by simp) ?_
      rw [Nat.sub_zero, Nat.mul_one, wr_copy, upd_upd]
      have own4 := hown.grow (le_upd (.row true 0 (⟨j, secOf bs⟩ : Wr).cells 0) hb9)
      have l9 := upd_same H3 b (.row true 0 (⟨j, secOf bs⟩ : Wr).cells 0)
      have hl9 := rdNU_all (own := true) (room := 0) (wr65 ⟨j, secOf bs⟩)
      generalize upd H3 b (.row true 0 (⟨j, secOf bs⟩ : Wr).cells 0) = G at *
      clear hd hp
      obtain ⟨k, ok, ck, rk, qv, hd⟩ := hd3
      have hp := own4.le _ _ hd.row
      simp (disch := first | omega | assumption | decide | (simp <;> omega) | fail) [facts, ]
      refine w_plan (P := Try.prog) (by simp [facts]) (opsP [0,1,2,3] (.both (opsP [4,5,6,7,8,9,10] .done) (opsP [5] (.both (opsP [4,6,7,8,9,10] .done) (opsP [6,4,7,8,9,10] .done))))) ?_ ?_
      · decide +kernel
      simp (disch := first | omega | assumption | decide | (simp <;> omega) | fail) [facts, hp, l9, hl9]
      repeat' apply And.intro
      all_goals
        refine fresh_intro fun b10 hb10 => ?_
        rw [wr_row2]
        have p10 : p ≠ b10 := ne_of_fresh hb10 hp
        have hp7 := upd_other (o := .row true 0 (Wr.cells ⟨j, secOf bs⟩) 0) hb10 hp
        have hwait := hd.wait
        rw [s3] at hwait
        simp (disch := first | omega | assumption | decide | (simp <;> omega) | fail) [facts, hp7]
        refine hwait.app (P := Try.prog) (e := 65) (z := .agg (([.int .i64 0] : List Value) ++ rep 64 (.int .u8 0)).toArray) (by simp [facts]) (by simp [facts]) (by simp [facts]) (by simp [facts]) (by simp) own4 ⟨j, secOf bs⟩ hw hb10 hd.row hd.kept hd.kept ?_
        intro a' c' H' R' own' hwt hp' hk' _
        have hpH := own'.le _ _ hp'
        simp (disch := first | omega | assumption | decide | (simp <;> omega) | fail) [facts, hpH, hsg]
        refine ⟨_, Heap.le_refl _, _, own'.set hp' _, k, ok, ck, rk, .slice a' (r.wait.length + 1) c', ?_⟩
        refine ⟨?_, ?_, hd.pk, ?_, ?_, ?_, ?_, ?_⟩
        · simp [hsg]
        · rw [upd_ne _ _ hd.pk.symm, hk']
        · exact hd.kc
        · intro x hx
          rcases List.mem_append.1 hx with hx | hx
          · rw [← s3] at hx; exact hd.inn x hx
          · rw [List.mem_singleton] at hx; subst hx
            show j < (stepZ r).S.length
            rw [s1]; exact hj
        · exact hd.few
        · exact hd.left
        · rcases hwt with ⟨e1, e2⟩ | ⟨q, o, cap, room, e1, e2, e3, e4, e5, e6, e7⟩
          · simp at e2
          · exact .inr ⟨q, o, cap, room, by simpa using e1, by rw [upd_ne _ _ e3]; exact e2, e3, e4, e5, e6, e7⟩
  · have ho' := ho
    simp only [ho, ne_eq, not_false_eq_true, if_true]
    unfold routZ at ho ⊢
    cases hdn : r.gone with
    | true =>
      rw [hdn] at hp
      simp (disch := first | omega | assumption | decide | (simp <;> omega) | fail) [facts, hp]
      exact ⟨_, Heap.le_refl _, R, Own.refl hR, h⟩
    | false =>
      rw [hdn] at hp
      by_cases h0 : m < 0
      · simp (disch := first | omega | assumption | decide | (simp <;> omega) | fail) [facts, hp, h0]
        exact ⟨_, Heap.le_refl _, R, Own.refl hR, h⟩
      · by_cases h1 : (r.S.length : Int) ≤ m
        · simp (disch := first | omega | assumption | decide | (simp <;> omega) | fail) [facts, hp, h0, h1]
          exact ⟨_, Heap.le_refl _, R, Own.refl hR, h⟩
        · rw [hdn, if_neg (by decide), if_neg (by omega)] at ho
          exact absurd rfl ho
def rsyncInv (H0 R0 : Heap) (p : Nat) (r : RZ) (k ok ck rk : Nat) (qv : Value) (s : St) : Prop :=
  ∃ (j : Nat) (R1 : Heap), j ≤ r.wait.length ∧ s.env 0 = .pointer (some ⟨p, 0, none⟩) ∧ s.env 3 = .int .i64 j ∧ Own H0 R0 s.heap R1 ∧ RefAt R1 p { r with S := applyW r.S (r.wait.take j) } k ok ck rk qv
set_option maxHeartbeats 1000000 in
theorem refSync_c (hR : Heap.le R H) (h : Ref R p r) (hw : r.wait.length ≤ 1000000) : ECalls Try.prog 17 #[.pointer (some ⟨p, 0, none⟩)] H fun v H' => v = .int .i64 (rsE r) ∧ ∃ R', Own H R H' R' ∧ Ref R' p (rsD r) := by
  refine ecalls_of_ewp (args := [_]) Try.func17 rfl rfl rfl (by simp [Try.ntmps17]) (by kernel_rfl) ?_
  have cs := refStep_c hR h
  have h' := h
  obtain ⟨k, ok, ck, rk, qv, hd⟩ := h'
  have hp := hR _ _ hd.row
  unfold rsE rsD
  cases hg : r.gone with
  | true =>
    rw [hg] at hp
    simp (disch := first | omega | assumption | decide | (simp <;> omega) | fail) [facts, hp]
    exact ⟨_, Heap.le_refl _, R, Own.refl hR, h⟩
  | false =>
    rw [hg] at hp
    simp (disch := first | omega | assumption | decide | (simp <;> omega) | fail) [facts, hp]
    refine cs.mono ?_
    rintro v H3 ⟨rfl, R3, hown, hd3⟩
    obtain ⟨s1, s3⟩ := stepZ_same r
    rw [← s1, ← s3]
    rw [← s3] at hw
    clear hd hp
    generalize stepZ r = r at *
    cases hsg : r.gone with
    | true =>
      simp (disch := first | omega | assumption | decide | (simp <;> omega) | fail) [facts, hsg]
      exact ⟨_, Heap.le_refl _, R3, hown, hd3⟩
    | false =>
      obtain ⟨k, ok, ck, rk, qv, hd⟩ := hd3
      have hp := hown.le _ _ hd.row
      simp (disch := first | omega | assumption | decide | (simp <;> omega) | fail) [facts, hsg]
      refine w_loop (rsyncInv H R p r k ok ck rk qv) (fun s => r.wait.length - (intOf (s.env 3)).toNat) ?_ ?_
      · exact ⟨0, R3, Nat.zero_le _, by simp, by simp, hown, by simpa [applyW] using hd⟩
      clear hp hown hd
      rintro ⟨env, G⟩ ⟨j, R1, hj, e0, e3, own1, hd⟩
      simp only at e0 e3 own1
      have hp := own1.le _ _ hd.row
      obtain ⟨aq, cq, rfl, hsq, _⟩ := hd.wait.sl own1.le
      simp only at hsq hp
      by_cases hlt : j < r.wait.length
      · have hltI : (j : Int) < (r.wait.length : Int) := by omega
        obtain ⟨x, hx⟩ : ∃ x, r.wait[j]? = some x := ⟨_, List.getElem?_eq_getElem hlt⟩
        obtain ⟨q, o, rfl⟩ := hsq.lit (by omega)
        have r0 := hsq.el1 wr65 hx (j := 0) (by decide)
        have r1 := hsq.el wr65 hx (j := 1) (r := 64) (by decide) (by decide)
        rw [wr_part] at r1
        have r0' : rd1U (G q) (o + j * 65) = some (.int .i64 x.n) := r0
        have hk2 := own1.le _ _ hd.kept
        have hxn : x.n < (applyW r.S (r.wait.take j)).length := hd.inn x (List.mem_of_getElem? hx)
        have hxI : (x.n : Int) < ((applyW r.S (r.wait.take j)).length : Int) := by omega
        have hlk : (rowsC Sec.cells (applyW r.S (r.wait.take j))).length = (applyW r.S (r.wait.take j)).length * 64 := rowsC_len sec64 _
        have hfit : x.n * 64 + 64 ≤ (applyW r.S (r.wait.take j)).length * 64 := by omega
        have own3 := own1.set hd.kept (.row true ok (rowsC Sec.cells ((applyW r.S (r.wait.take j)).set x.n x.s)) rk)
        have hd3 := hd.setS ((applyW r.S (r.wait.take j)).set x.n x.s) (by simp)
        simp (disch := first | omega | assumption | decide | (simp <;> omega) | fail) [facts, e0, e3, hp, hltI]
        refine w_plan (P := Try.prog) (by simp [facts]) (opsP [0,1,2,3,4,5,6,7,8,9,10,11,12,13,14,15,16,17,18,19,20,21] .done) ?_ ?_
        · decide +kernel
        simp (disch := first | omega | assumption | decide | (simp <;> omega) | fail) [facts, e0, e3, hp, hltI, r0', r1, hxI, hk2, rowsC_set sec64]
        have hnext : applyW r.S (r.wait.take (j + 1)) = (applyW r.S (r.wait.take j)).set x.n x.s := by
          rw [take_snoc hx, applyW_app]; rfl
        exact ⟨_, Heap.le_refl _, ⟨j + 1, _, by omega, by simp [e0], by simp, own3, by rw [hnext]; exact hd3⟩, by simp [intOf, e3]; omega⟩
      · have hje : j = r.wait.length := by omega
        subst hje
        rw [List.take_length] at hd
        simp (disch := first | omega | assumption | decide | (simp <;> omega) | fail) [facts, e0, e3, hp]
        exact ⟨_, Heap.le_refl _, _, own1.set hd.row _, _, _, _, _, _, by simpa [hsg] using hd.noWait hd.left⟩
end
end Go.Proofs.Ytobkfpohdknggaa.GL
