/- Layer 3: a disk cloned. -/
import Derived.Test.YtobkfpohdknggaaDiD
namespace Go.Proofs.Ytobkfpohdknggaa.GL
open Go Go.RowKit
set_option maxRecDepth 10000
set_option pp.deepTerms.threshold 8
set_option pp.maxSteps 3000
set_option linter.unusedSimpArgs false
set_option linter.unusedVariables false

theorem cloneS_c (k ok n ck rk : Nat) (xs : List Sec) (H : Heap) (hl : xs.length = n) (hn : n ≤ 1000000) (h : H k = some (.row true ok (rowsC Sec.cells xs) rk)) :
    ECalls Try.prog 26 #[.slice (some ⟨k, ok, none⟩) n ck] H fun v H' => ∃ b o cap room, H b = none ∧ H' = upd H b (.row true o (rowsC Sec.cells xs) room) ∧ v = .slice (some ⟨b, o, none⟩) n cap ∧ n ≤ cap ∧ cap * 64 ≤ n * 64 + room := by
  refine ecalls_of_ewp (args := [_]) Try.func26 rfl rfl rfl (by simp [Try.ntmps26]) (by kernel_rfl) ?_
  subst hl
  simp (disch := first | omega | assumption | decide | (simp <;> omega) | fail) [facts, ]
  refine fresh_intro fun b hb => ?_
  have hsl : SlA H (some ⟨k, ok, none⟩) xs.length 64 (rowsC Sec.cells xs) := SlA.row h (Nat.le_refl _) (rowsC_len sec64 _) (by rw [rowsC_len sec64]; omega) (by rw [Nat.sub_self, List.drop_zero, ← rowsC_len sec64 xs, List.take_length])
  simp (disch := first | omega | assumption | decide | (simp <;> omega) | fail) [facts, ]
  refine app_own (e := 58) (s := 64) (nbs := 64) (z := .agg (rep 64 (.int .u8 0)).toArray) (b := b) (o := 0) (cap := 0) (room := 0) (m := 0) (n := xs.length) (cs := []) (ys := rowsC Sec.cells xs) (by simp [facts]) (by simp [facts]) (by simp [facts]) (by simp [facts]) (by simp) (by decide) ⟨rfl, by rw [upd_same]; rfl, rfl, Nat.le_refl _, by omega⟩
    (src_sl (e1 := 58) (z := .agg (rep 64 (.int .u8 0)).toArray) (by simp [facts]) (by simp [facts]) (by simp [facts]) (hsl.le (le_upd _ hb))) (rowsC_len sec64 _) (rowsC_one sec1 _) (by omega) ?_
  intro b' o' cap' room' H' hb' hH' hown
  rw [dele_fresh hb] at hb' hH'
  have hc := hown.capOk
  have hf := hown.fits
  have fin : ∃ b o cap room, H b = none ∧ H' = upd H b (.row true o (rowsC Sec.cells xs) room) ∧ Value.slice (some ⟨b', o', none⟩) xs.length cap' = .slice (some ⟨b, o, none⟩) xs.length cap ∧ xs.length ≤ cap ∧ cap * 64 ≤ xs.length * 64 + room := ⟨b', o', cap', room', hb', hH', rfl, by omega, by omega⟩
  simp (disch := first | omega | assumption | decide | (simp <;> omega) | fail) [facts, ]
  exact ⟨_, Heap.le_refl _, by simpa using fin⟩
theorem cloneW_c (v : Value) (ws : List Wr) (R H : Heap) (hR : Heap.le R H) (p k w : Nat) (h : WaitAt R v ws p k w) (hn : ws.length ≤ 1000000) :
    ECalls Try.prog 27 #[v] H fun v' H' => (v = .slice none 0 0 ∧ ws = [] ∧ v' = .slice none 0 0 ∧ H' = H) ∨ ∃ b o cap room, H b = none ∧ H' = upd H b (.row true o (rowsC Wr.cells ws) room) ∧ v' = .slice (some ⟨b, o, none⟩) ws.length cap ∧ ws.length ≤ cap ∧ cap * 65 ≤ ws.length * 65 + room := by
  refine ecalls_of_ewp (args := [_]) Try.func27 rfl rfl rfl (by simp [Try.ntmps27]) (by kernel_rfl) ?_
  have h' := h
  rcases h' with ⟨rfl, rfl⟩ | ⟨q, o, cap, room, rfl, hq, _, _, _, hc, _⟩
  · simp (disch := first | omega | assumption | decide | (simp <;> omega) | fail) [facts, ]
  · obtain ⟨a, c, e, hsl, _⟩ := h.sl hR
    simp only [Value.slice.injEq] at e
    obtain ⟨rfl, _, rfl⟩ := e
    simp (disch := first | omega | assumption | decide | (simp <;> omega) | fail) [facts, ]
    refine fresh_intro fun b hb => ?_
    simp (disch := first | omega | assumption | decide | (simp <;> omega) | fail) [facts, ]
    refine app_own (e := 60) (s := 65) (nbs := 72) (z := .agg (([.int .i64 0] : List Value) ++ rep 64 (.int .u8 0)).toArray) (b := b) (o := 0) (cap := 0) (room := 0) (m := 0) (n := ws.length) (cs := []) (ys := rowsC Wr.cells ws) (by simp [facts]) (by simp [facts]) (by simp [facts]) (by simp [facts]) (by simp) (by decide) ⟨rfl, by rw [upd_same]; rfl, rfl, Nat.le_refl _, by omega⟩
      (src_sl (e1 := 60) (z := .agg (([.int .i64 0] : List Value) ++ rep 64 (.int .u8 0)).toArray) (by simp [facts]) (by simp [facts]) (by simp [facts]) (hsl.le (le_upd _ hb))) (rowsC_len wr65 _) (rowsC_one wr1 _) (by omega) ?_
    intro b' o' cap' room' H' hb' hH' hown
    rw [dele_fresh hb] at hb' hH'
    have hc := hown.capOk
    have hf := hown.fits
    have fin : ∃ b o cap room, H b = none ∧ H' = upd H b (.row true o (rowsC Wr.cells ws) room) ∧ Value.slice (some ⟨b', o', none⟩) ws.length cap' = .slice (some ⟨b, o, none⟩) ws.length cap ∧ ws.length ≤ cap ∧ cap * 65 ≤ ws.length * 65 + room := ⟨b', o', cap', room', hb', hH', rfl, by omega, by omega⟩
    simp (disch := first | omega | assumption | decide | (simp <;> omega) | fail) [facts, ]
    exact ⟨_, Heap.le_refl _, by simpa using fin⟩

theorem cloneDsk {H0 H1 H2 H3 : Heap} {p k w : Nat} {d : DZ} {ok ck rk ow cw rw : Nat} {qv : Value} {R : Heap} {r0 : List Value} (hd : DskAt R p d k ok ck rk w ow cw rw qv) (h01 : Heap.le H0 H1) {b3 k' o1 c1 r1 w' o2 c2 r2 : Nat} {v3 : Value} (hb3 : H0 b3 = none) (hr0 : H1 = upd H0 b3 (.row true 0 r0 0))
    (hk : H1 k' = none) (h2 : H2 = upd H1 k' (.row true o1 (rowsC Sec.cells d.kept) r1)) (f1 : d.kept.length ≤ c1) (g1 : c1 * 64 ≤ d.kept.length * 64 + r1)
    (hw : H2 w' = none) (h3 : H3 = upd H2 w' (.row true o2 (rowsC Sec.cells d.now) r2)) (f2 : d.now.length ≤ c2) (g2 : c2 * 64 ≤ d.now.length * 64 + r2)
    {H4 : Heap} (h4 : (qv = .slice none 0 0 ∧ d.wait = [] ∧ v3 = .slice none 0 0 ∧ H4 = H3) ∨ ∃ b o cap room, H3 b = none ∧ H4 = upd H3 b (.row true o (rowsC Wr.cells d.wait) room) ∧ v3 = .slice (some ⟨b, o, none⟩) d.wait.length cap ∧ d.wait.length ≤ cap ∧ cap * 65 ≤ d.wait.length * 65 + room) :
    ∃ R', Own H0 (fun _ => none) (upd H4 b3 (.row true 0 [.slice (some ⟨k', o1, none⟩) d.kept.length c1, .slice (some ⟨w', o2, none⟩) d.now.length c2, v3, .int .i64 d.left, .bool d.down] 0)) R' ∧ Dsk R' b3 d := by
  have h1b : H1 b3 = some (.row true 0 r0 0) := by rw [hr0, upd_same]
  have bk : b3 ≠ k' := (ne_of_none hk h1b).symm
  have h2k : H2 k' = some (.row true o1 (rowsC Sec.cells d.kept) r1) := by rw [h2, upd_same]
  have h2b : H2 b3 = some (.row true 0 r0 0) := by rw [h2, upd_ne _ _ bk, h1b]
  have bw : b3 ≠ w' := (ne_of_none hw h2b).symm
  have kw : k' ≠ w' := (ne_of_none hw h2k).symm
  have h3b : H3 b3 = some (.row true 0 r0 0) := by rw [h3, upd_ne _ _ bw, h2b]
  have h3k : H3 k' = some (.row true o1 (rowsC Sec.cells d.kept) r1) := by rw [h3, upd_ne _ _ kw, h2k]
  have h3w : H3 w' = some (.row true o2 (rowsC Sec.cells d.now) r2) := by rw [h3, upd_same]
  have ow1 : Own H0 (fun _ => none) H1 (upd (fun _ => none) b3 (.row true 0 r0 0)) := by rw [hr0]; exact (Own.nil (Heap.le_refl H0)).add hb3 _
  have ow2 := ow1.add hk (.row true o1 (rowsC Sec.cells d.kept) r1)
  rw [← h2] at ow2
  have ow3 := ow2.add hw (.row true o2 (rowsC Sec.cells d.now) r2)
  rw [← h3] at ow3
  rcases h4 with ⟨_, e2, e3, e4⟩ | ⟨b, o, cap, room, e1, e2, e3, e4, e5⟩
  · subst e3 e4
    refine ⟨_, ow3.set (p := b3) (o0 := .row true 0 r0 0) (by rw [upd_ne _ _ bw, upd_ne _ _ bk, upd_same]) _, k', o1, c1, r1, w', o2, c2, r2, .slice none 0 0, ?_⟩
    exact ⟨upd_same _ _ _, by rw [upd_ne _ _ bk.symm, upd_ne _ _ kw, upd_same], by rw [upd_ne _ _ bw.symm, upd_same], bk, bw, kw, hd.same, f1, f2, g1, g2, hd.inn, hd.few, hd.left, .inl ⟨rfl, e2⟩⟩
  · subst e3
    have nb : b ≠ b3 := ne_of_none e1 h3b
    have nk : b ≠ k' := ne_of_none e1 h3k
    have nw : b ≠ w' := ne_of_none e1 h3w
    have ow4 := ow3.add e1 (.row true o (rowsC Wr.cells d.wait) room)
    rw [← e2] at ow4
    refine ⟨_, ow4.set (p := b3) (o0 := .row true 0 r0 0) (by rw [upd_ne _ _ nb.symm, upd_ne _ _ bw, upd_ne _ _ bk, upd_same]) _, k', o1, c1, r1, w', o2, c2, r2, .slice (some ⟨b, o, none⟩) d.wait.length cap, ?_⟩
    exact ⟨upd_same _ _ _, by rw [upd_ne _ _ bk.symm, upd_ne _ _ nk.symm, upd_ne _ _ kw, upd_same], by rw [upd_ne _ _ bw.symm, upd_ne _ _ nw.symm, upd_same], bk, bw, kw, hd.same, f1, f2, g1, g2, hd.inn, hd.few, hd.left, .inr ⟨b, o, cap, room, rfl, by rw [upd_ne _ _ nb, upd_same], nb, nk, nw, e4, e5⟩⟩
section
variable {H R : Heap} {p : Nat} {d : DZ}
set_option maxHeartbeats 2000000 in
theorem diskClone_c (hR : Heap.le R H) (h : Dsk R p d) (hw : d.wait.length ≤ 1000000) :
    ECalls Try.prog 14 #[.pointer (some ⟨p, 0, none⟩)] H fun v H' => ∃ p' R', v = .pointer (some ⟨p', 0, none⟩) ∧ Own H (fun _ => none) H' R' ∧ Dsk R' p' d := by
  refine ecalls_of_ewp (args := [_]) Try.func14 rfl rfl rfl (by simp [Try.ntmps14]) (by kernel_rfl) ?_
  obtain ⟨k, ok, ck, rk, w, ow, cw, rw', qv, hd⟩ := h
  have hp := hR _ _ hd.row
  have hk := hR _ _ hd.kept
  have hnow := hR _ _ hd.now
  have hfew := hd.few
  obtain ⟨aq, cq, rfl, _, _⟩ := hd.wait.sl hR
  have hsame := hd.same
  simp (disch := first | omega | assumption | decide | (simp <;> omega) | fail) [facts, hp]
  refine fresh_intro fun b3 hb3 => ?_
  simp (disch := first | omega | assumption | decide | (simp <;> omega) | fail) [facts, upd_upd]
  have hle1 := le_upd (.row true 0 [.slice (some ⟨k, ok, none⟩) d.kept.length ck, .slice (some ⟨w, ow, none⟩) d.now.length cw, .slice aq d.wait.length cq, .int .i64 d.left, .bool d.down] 0) hb3
  have hr0 : ∃ r0, upd H b3 (.row true 0 [.slice (some ⟨k, ok, none⟩) d.kept.length ck, .slice (some ⟨w, ow, none⟩) d.now.length cw, .slice aq d.wait.length cq, .int .i64 d.left, .bool d.down] 0) = upd H b3 (.row true 0 r0 0) := ⟨_, rfl⟩
  have l3 := upd_same H b3 (.row true 0 [.slice (some ⟨k, ok, none⟩) d.kept.length ck, .slice (some ⟨w, ow, none⟩) d.now.length cw, .slice aq d.wait.length cq, .int .i64 d.left, .bool d.down] 0)
  generalize upd H b3 (.row true 0 [.slice (some ⟨k, ok, none⟩) d.kept.length ck, .slice (some ⟨w, ow, none⟩) d.now.length cw, .slice aq d.wait.length cq, .int .i64 d.left, .bool d.down] 0) = H1 at *
  obtain ⟨r0, hr0⟩ := hr0
  have cA := cloneS_c k ok d.kept.length ck rk d.kept H1 rfl (by omega) (hle1 _ _ hk)
  have hp1 := hle1 _ _ hp
  refine w_plan (P := Try.prog) (by simp [facts]) (opsP [0,1,2,5,6,7,10,11,12] (.both (opsP [3] (.both (opsP [4] (.both (opsP [8] (.both (opsP [9,13,14,15,16,17,18,19,20] .done) (opsP [13,9,14,15,16,17,18,19,20] .done))) (opsP [13,8,9,14,15,16,17,18,19,20] .done))) (.both (opsP [8] (.both (opsP [4] (.both (opsP [9,13,14,15,16,17,18,19,20] .done) (opsP [13,9,14,15,16,17,18,19,20] .done))) (opsP [13,4,9,14,15,16,17,18,19,20] .done))) (opsP [13] (.both (opsP [4,8,9,14,15,16,17,18,19,20] .done) (opsP [8,4,9,14,15,16,17,18,19,20] .done)))))) (.both (opsP [8] (.both (opsP [3] (.both (opsP [4] (.both (opsP [9,13,14,15,16,17,18,19,20] .done) (opsP [13,9,14,15,16,17,18,19,20] .done))) (opsP [13,4,9,14,15,16,17,18,19,20] .done))) (opsP [13,3,4,9,14,15,16,17,18,19,20] .done))) (opsP [13] (.both (opsP [3] (.both (opsP [4,8,9,14,15,16,17,18,19,20] .done) (opsP [8,4,9,14,15,16,17,18,19,20] .done))) (opsP [8,3,4,9,14,15,16,17,18,19,20] .done)))))) ?_ ?_
  · decide +kernel
  simp (disch := first | omega | assumption | decide | (simp <;> omega) | fail) [facts, hp1]
  repeat' apply And.intro
  all_goals
    refine cA.mono ?_
    rintro v H2 ⟨k', o1, c1, r1, hk', h2, rfl, f1, g1⟩
    have hle2 : Heap.le H1 H2 := by rw [h2]; exact le_upd _ hk'
    have hp2 := hle2 _ _ hp1
    have cB := cloneS_c w ow d.now.length cw rw' d.now H2 rfl (by omega) (hle2 _ _ (hle1 _ _ hnow))
    simp (disch := first | omega | assumption | decide | (simp <;> omega) | fail) [facts, hp2]
    repeat' apply And.intro
    all_goals
      refine cB.mono ?_
      rintro v H3 ⟨w', o2, c2, r2, hw', h3, rfl, f2, g2⟩
      have hle3 : Heap.le H2 H3 := by rw [h3]; exact le_upd _ hw'
      have hp3 := hle3 _ _ hp2
      have cC := cloneW_c (.slice aq d.wait.length cq) d.wait R H3 (Heap.le_trans hR (Heap.le_trans hle1 (Heap.le_trans hle2 hle3))) p k w hd.wait hw
      simp (disch := first | omega | assumption | decide | (simp <;> omega) | fail) [facts, hp3]
      refine cC.mono ?_
      rintro v H4 h4
      have hle4 : Heap.le H3 H4 := by
        rcases h4 with ⟨_, _, _, e⟩ | ⟨_, _, _, _, e1, e2, _⟩
        · rw [e]; exact Heap.le_refl _
        · rw [e2]; exact le_upd _ e1
      obtain ⟨av, nv, cv, rfl⟩ : ∃ a n c, v = .slice a n c := by
        rcases h4 with ⟨_, _, e, _⟩ | ⟨_, _, _, _, _, _, e, _⟩ <;> exact ⟨_, _, _, e⟩
      have l4 := hle4 _ _ (hle3 _ _ (hle2 _ _ l3))
      simp (disch := first | omega | assumption | decide | (simp <;> omega) | fail) [facts, l4, upd_upd]
      exact ⟨_, Heap.le_refl _, cloneDsk hd hle1 hb3 hr0 hk' h2 f1 g1 hw' h3 f2 g2 h4⟩
end
end Go.Proofs.Ytobkfpohdknggaa.GL
