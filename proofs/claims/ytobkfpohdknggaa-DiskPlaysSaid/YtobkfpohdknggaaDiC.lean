/- Layer 3: a disk: synced, opened again. -/
import Derived.Test.YtobkfpohdknggaaDiB
namespace Go.Proofs.Ytobkfpohdknggaa.GL
open Go Go.RowKit
set_option maxRecDepth 10000
set_option pp.deepTerms.threshold 8
set_option pp.maxSteps 3000
set_option linter.unusedSimpArgs false
set_option linter.unusedVariables false

theorem wr_get0 (x : Wr) : x.cells[0]? = some (.int .i64 x.n) := Eq.trans rfl rfl
theorem wr_part (x : Wr) : (x.cells.drop 1).take 64 = x.s.cells := by
  show x.s.cells.take 64 = _
  rw [← sec64 x.s, List.take_length]
theorem wr_take (x : Wr) : x.cells.take 65 = x.cells := by rw [← wr65 x, List.take_length]
theorem rep_drop (n : Nat) (v : Value) : List.drop n (rep n v) = [] := List.drop_of_length_le (by simp)
theorem sec_take (x : Sec) : x.cells.take 64 = x.cells := by rw [← sec64 x, List.take_length]
section
variable {H R : Heap} {p : Nat} {d : DZ}
/-- A sector of what is kept changed. -/
theorem DskAt.setKept {k ok ck rk w ow cw rw : Nat} {qv : Value} (h : DskAt R p d k ok ck rk w ow cw rw qv) (ks : List Sec) (hl : ks.length = d.kept.length) : DskAt (upd R k (.row true ok (rowsC Sec.cells ks) rk)) p { d with kept := ks } k ok ck rk w ow cw rw qv := by
  refine ⟨by rw [upd_ne _ _ h.pk, h.row]; simp only [hl], upd_same _ _ _, by rw [upd_ne _ _ h.kw.symm, h.now], h.pk, h.pw, h.kw, h.same.trans hl.symm, by rw [hl]; exact h.kc, h.wc, by rw [hl]; exact h.kf, h.wf, fun x hx => by rw [hl]; exact h.inn x hx, by rw [hl]; exact h.few, h.left, ?_⟩
  rcases h.wait with h0 | ⟨q, o, cap, room, e1, e2, e3, e4, e5, e6, e7⟩
  · exact .inl h0
  · exact .inr ⟨q, o, cap, room, e1, by rw [upd_ne _ _ e4]; exact e2, e3, e4, e5, e6, e7⟩
theorem DskAt.setNow {k ok ck rk w ow cw rw : Nat} {qv : Value} (h : DskAt R p d k ok ck rk w ow cw rw qv) (ks : List Sec) (hl : ks.length = d.now.length) : DskAt (upd R w (.row true ow (rowsC Sec.cells ks) rw)) p { d with now := ks } k ok ck rk w ow cw rw qv := by
  refine ⟨by rw [upd_ne _ _ h.pw, h.row]; simp only [hl], by rw [upd_ne _ _ h.kw, h.kept], upd_same _ _ _, h.pk, h.pw, h.kw, hl.trans h.same, h.kc, by rw [hl]; exact h.wc, h.kf, by rw [hl]; exact h.wf, h.inn, h.few, h.left, ?_⟩
  rcases h.wait with h0 | ⟨q, o, cap, room, e1, e2, e3, e4, e5, e6, e7⟩
  · exact .inl h0
  · exact .inr ⟨q, o, cap, room, e1, by rw [upd_ne _ _ e5]; exact e2, e3, e4, e5, e6, e7⟩
/-- Nothing waits any more. -/
theorem DskAt.noWait {k ok ck rk w ow cw rw : Nat} {qv : Value} (h : DskAt R p d k ok ck rk w ow cw rw qv) {l : Int} {dn : Bool} (hl : l < 9223372036854775808 ∧ -9223372036854775808 < l) :
    DskAt (upd R p (.row true 0 [.slice (some ⟨k, ok, none⟩) d.kept.length ck, .slice (some ⟨w, ow, none⟩) d.now.length cw, .slice none 0 0, .int .i64 l, .bool dn] 0)) p ⟨d.kept, d.now, [], l, dn⟩ k ok ck rk w ow cw rw (.slice none 0 0) :=
  ⟨upd_same _ _ _, by rw [upd_ne _ _ h.pk.symm]; exact h.kept, by rw [upd_ne _ _ h.pw.symm]; exact h.now, h.pk, h.pw, h.kw, h.same, h.kc, h.wc, h.kf, h.wf, fun x hx => (by cases hx), h.few, hl, .inl ⟨rfl, rfl⟩⟩

theorem diskSync_down (hR : Heap.le R H) (h : Dsk R p d) (hdn : d.down = true) : ECalls Try.prog 13 #[.pointer (some ⟨p, 0, none⟩)] H fun v H' => v = .int .i64 22 ∧ H' = H := by
  refine ecalls_of_ewp (args := [_]) Try.func13 rfl rfl rfl (by simp [Try.ntmps13]) (by kernel_rfl) ?_
  obtain ⟨k, ok, ck, rk, w, ow, cw, rw', qv, hd⟩ := h
  have hp := hR _ _ hd.row
  rw [hdn] at hp
  simp (disch := first | omega | assumption | decide | (simp <;> omega) | fail) [facts, hp]
theorem diskSync_off (hR : Heap.le R H) (h : Dsk R p d) (hdn : d.down = false) (hpw : (powZ d).down = true) : ECalls Try.prog 13 #[.pointer (some ⟨p, 0, none⟩)] H fun v H' => v = .int .i64 22 ∧ ∃ R', Own H R H' R' ∧ Dsk R' p (powZ d) := by
  refine ecalls_of_ewp (args := [_]) Try.func13 rfl rfl rfl (by simp [Try.ntmps13]) (by kernel_rfl) ?_
  have cp := diskPower_c hR h
  have he : powE d = 22 := by simp [powE, hpw]
  rw [he] at cp
  obtain ⟨k, ok, ck, rk, w, ow, cw, rw', qv, hd⟩ := h
  have hp := hR _ _ hd.row
  rw [hdn] at hp
  simp (disch := first | omega | assumption | decide | (simp <;> omega) | fail) [facts, hp]
  refine cp.mono ?_
  rintro v H3 ⟨rfl, R', hown, hd'⟩
  simp (disch := first | omega | assumption | decide | (simp <;> omega) | fail) [facts, ]
  exact ⟨_, Heap.le_refl _, R', hown, hd'⟩
def syncZ (d : DZ) : DZ := { powZ d with kept := applyW d.kept d.wait, wait := [] }
def syncInv (H0 R0 : Heap) (p : Nat) (d : DZ) (k ok ck rk w ow cw rw : Nat) (qv : Value) (s : St) : Prop :=
  ∃ (j : Nat) (R1 : Heap), j ≤ d.wait.length ∧ s.env 0 = .pointer (some ⟨p, 0, none⟩) ∧ s.env 18 = qv ∧ s.env 19 = .int .i64 d.wait.length ∧ s.env 20 = .int .i64 j ∧ Own H0 R0 s.heap R1 ∧ DskAt R1 p { d with kept := applyW d.kept (d.wait.take j) } k ok ck rk w ow cw rw qv
set_option maxHeartbeats 1000000 in
theorem diskSync_ok (hR : Heap.le R H) (h : Dsk R p d) (hdn : d.down = false) (hpw : (powZ d).down = false) (hw : d.wait.length ≤ 1000000) : ECalls Try.prog 13 #[.pointer (some ⟨p, 0, none⟩)] H fun v H' => v = .int .i64 0 ∧ ∃ R', Own H R H' R' ∧ Dsk R' p (syncZ d) := by
  refine ecalls_of_ewp (args := [_]) Try.func13 rfl rfl rfl (by simp [Try.ntmps13]) (by kernel_rfl) ?_
  have cp := diskPower_c hR h
  have he : powE d = 0 := by simp [powE, hpw]
  rw [he] at cp
  have hp0 : ∃ c0 c1 c2 c3, H p = some (.row true 0 [c0, c1, c2, c3, .bool false] 0) := by
    obtain ⟨k, ok, ck, rk, w, ow, cw, rw', qv, hd⟩ := h
    have := hR _ _ hd.row
    rw [hdn] at this
    exact ⟨_, _, _, _, this⟩
  obtain ⟨c0, c1, c2, c3, hp0⟩ := hp0
  simp (disch := first | omega | assumption | decide | (simp <;> omega) | fail) [facts, hp0]
  refine cp.mono ?_
  rintro v H3 ⟨rfl, R3, hown, hd3⟩
  obtain ⟨s1, s2, s3⟩ := powZ_same d
  unfold syncZ
  rw [← s1, ← s3]
  rw [← s3] at hw
  generalize powZ d = d at *
  obtain ⟨k, ok, ck, rk, w, ow, cw, rw', qv, hd⟩ := hd3
  have hp := hown.le _ _ hd.row
  obtain ⟨aq, cq, rfl, hsq, hcq⟩ := hd.wait.sl hown.le
  simp (disch := first | omega | assumption | decide | (simp <;> omega) | fail) [facts, hp]
  refine w_loop (syncInv H R p d k ok ck rk w ow cw rw' (.slice aq d.wait.length cq)) (fun s => d.wait.length - (intOf (s.env 20)).toNat) ?_ ?_
  · exact ⟨0, R3, Nat.zero_le _, by simp, by simp, by simp, by simp, hown, by simpa [applyW] using hd⟩
  clear hp hsq hcq hown hd
  rintro ⟨env, G⟩ ⟨j, R1, hj, e0, e18, e19, e20, own1, hd⟩
  simp only at e0 e18 e19 e20 own1
  have hp := own1.le _ _ hd.row
  by_cases hlt : j < d.wait.length
  · have hltI : (j : Int) < (d.wait.length : Int) := by omega
    obtain ⟨x, hx⟩ : ∃ x, d.wait[j]? = some x := ⟨_, List.getElem?_eq_getElem hlt⟩
    obtain ⟨aq', cq', e, hsq, _⟩ := hd.wait.sl own1.le
    simp only [Value.slice.injEq] at e
    obtain ⟨rfl, _, rfl⟩ := e
    simp only at hsq
    obtain ⟨q, o, rfl⟩ := hsq.lit (by omega)
    have rx := hsq.el wr65 hx (j := 0) (r := 65) (by decide) (by decide)
    rw [List.drop_zero, wr_take, Nat.add_zero] at rx
    simp (disch := first | omega | assumption | decide | (simp <;> omega) | fail) [facts, e0, e18, e19, e20, hltI, rx]
    refine fresh_intro fun b hb => ?_
    simp (disch := first | omega | assumption | decide | (simp <;> omega) | fail) [facts, rep_drop, upd_upd]
    have l5 : upd G b (.row true 0 x.cells 0) b = some (.row true 0 (.int .i64 x.n :: x.s.cells) 0) := upd_same G b (.row true 0 x.cells 0)
    have own2 := own1.grow (le_upd (.row true 0 x.cells 0) hb)
    generalize upd G b (.row true 0 x.cells 0) = G2 at *
    have hp2 := own2.le _ _ hd.row
    have hk2 := own2.le _ _ hd.kept
    have hxn : x.n < (applyW d.kept (d.wait.take j)).length := hd.inn x (List.mem_of_getElem? hx)
    have hxI : (x.n : Int) < ((applyW d.kept (d.wait.take j)).length : Int) := by omega
    have hlk : (rowsC Sec.cells (applyW d.kept (d.wait.take j))).length = (applyW d.kept (d.wait.take j)).length * 64 := rowsC_len sec64 _
    have hfit : x.n * 64 + 64 ≤ (applyW d.kept (d.wait.take j)).length * 64 := by omega
    have own3 := own2.set hd.kept (.row true ok (rowsC Sec.cells ((applyW d.kept (d.wait.take j)).set x.n x.s)) rk)
    have hd3 := hd.setKept ((applyW d.kept (d.wait.take j)).set x.n x.s) (by simp)
    refine w_plan (P := Try.prog) (by simp [facts]) (opsP [0,1,2,3,4,5,6,7,8,9] .done) ?_ ?_
    · decide +kernel
    simp (disch := first | omega | assumption | decide | (simp <;> omega) | fail) [facts, e0, e18, e19, e20, hp2, l5, sec_take, hxI, hk2, rowsC_set sec64]
    have hnext : applyW d.kept (d.wait.take (j + 1)) = (applyW d.kept (d.wait.take j)).set x.n x.s := by
      rw [take_snoc hx, applyW_app]; rfl
    refine ⟨_, Heap.le_refl _, ⟨j + 1, _, by omega, by simp [e0], by simp [e18], by simp [e19], by simp, own3, by rw [hnext]; exact hd3⟩, by simp [intOf, e20]; omega⟩
  · have hje : j = d.wait.length := by omega
    subst hje
    rw [List.take_length] at hd
    simp (disch := first | omega | assumption | decide | (simp <;> omega) | fail) [facts, e0, e18, e19, e20, hp]
    exact ⟨_, Heap.le_refl _, _, own1.set hd.row _, _, _, _, _, _, _, _, _, _, hd.noWait hd.left⟩
end
end Go.Proofs.Ytobkfpohdknggaa.GL
