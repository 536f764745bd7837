/- Layer 5: records in the place of all. -/
import Derived.Test.YtnmbmccigpljnaaJoF
namespace Go.Proofs.Ytnmbmccigpljnaa.GL
open Go Go.RowKit
set_option maxRecDepth 10000
set_option pp.deepTerms.threshold 8
set_option pp.maxSteps 3000
set_option linter.unusedSimpArgs false
set_option linter.unusedVariables false

set_option maxHeartbeats 1600000 in
theorem jclone_c (a : Option Addr) (n c : Nat) (rs : List RZ) (H : Heap) (h : SlA H a n 17 (rowsC RZ.cells rs)) (hn : n ≤ 200000) :
    ECalls Try.prog 29 #[.slice a n c] H fun v H' => ∃ B, Own H (fun _ => none) H' B ∧ LstR B v 17 rs.length (rowsC RZ.cells rs) := by
  refine ecalls_of_ewp (args := [_]) Try.func29 rfl rfl rfl (by simp [Try.ntmps29]) (by kernel_rfl) ?_
  have hlen := h.els rz17 (by decide)
  cases a with
  | none =>
    have hn0 : rs = [] := by
      rcases Nat.eq_zero_or_pos n with h0 | h0
      · exact List.eq_nil_of_length_eq_zero (by omega)
      · obtain ⟨b, o, e⟩ := h.lit h0
        cases e
    subst hn0
    simp (disch := first | omega | assumption | decide | (simp <;> omega) | fail) [facts, ]
    exact ⟨_, Heap.le_refl _, _, Own.nil (Heap.le_refl H), LstR.nil _ _⟩
  | some x =>
    simp (disch := first | omega | assumption | decide | (simp <;> omega) | fail) [facts, ]
    refine fresh_intro fun b hb => ?_
    have ow := Own.new (Heap.le_refl H) hb (o := .row true 0 [] 0)
    have lst : LstR (upd (fun _ => none) b (.row true 0 [] 0)) (.slice (some ⟨b, 0, none⟩) 0 0) 17 0 [] := .inr ⟨b, 0, 0, [], 0, rfl, upd_same _ _ _, by simp, Nat.le_refl _, by simp⟩
    have h2 := h.le (le_upd (.row true 0 [] 0) hb)
    simp (disch := first | omega | assumption | decide | (simp <;> omega) | fail) [facts, ]
    refine LstR.app (H0 := H) (B0 := fun _ => none) (e := 42) (s := 17) (nbs := 136) (z := .agg #[.int .i64 0, .int .u16 0, .int .u32 0, .string ByteArray.empty, .int .i64 0, .int .i64 0, .int .i64 0, .int .i64 0, .int .i64 0, .int .i64 0, .int .i64 0, .int .i64 0, .int .i64 0, .int .i64 0, .int .i64 0, .int .i64 0, .int .i64 0]) (m := n) (ys := rowsC RZ.cells rs) (by simp [facts]) (by simp [facts]) (by simp [facts]) (by simp [facts]) rfl (by decide) lst ow
      (src_sl (e1 := 42) (z := .agg #[.int .i64 0, .int .u16 0, .int .u32 0, .string ByteArray.empty, .int .i64 0, .int .i64 0, .int .i64 0, .int .i64 0, .int .i64 0, .int .i64 0, .int .i64 0, .int .i64 0, .int .i64 0, .int .i64 0, .int .i64 0, .int .i64 0, .int .i64 0]) (by simp [facts]) (by simp [facts]) (by simp [facts]) h2) (by rw [rowsC_len rz17, hlen]) (rows_one rs) (by omega) ?_
    intro v' H' B' ow' lst' _ _
    rw [Nat.zero_add, List.nil_append, ← hlen] at lst'
    simp (disch := first | omega | assumption | decide | (simp <;> omega) | fail) [facts, ]
    exact ⟨_, Heap.le_refl _, B', ow', lst'⟩
theorem TwoO.joinA {F A B H H' R : Heap} (t : TwoO F A B H) (ow : Own H (fun _ => none) H' R) : TwoO F (joinH R A) B H' := by
  have hoff := ow.off
  refine ⟨Heap.le_trans t.fle ow.all, fun b o h => ?_, Heap.le_trans t.ble ow.all, fun b o h => ?_, t.fb, fun b o h => ?_⟩
  · unfold joinH at h
    cases hr : R b with
    | some x => rw [hr] at h; cases h; exact ow.le _ _ hr
    | none => rw [hr] at h; exact ow.all _ _ (t.ale _ _ h)
  · unfold joinH
    rw [hoff b o (t.fle _ _ h)]
    exact t.fa b o h
  · unfold joinH at h
    cases hr : R b with
    | some x =>
      cases ha : B b with
      | none => rfl
      | some y => have := hoff b y (t.ble _ _ ha); rw [hr] at this; cases this
    | none => rw [hr] at h; exact t.ab b o h
def replZ (d : DZ) (l : LZ) (rs : List RZ) : DZ × LZ × Int :=
  if l.half < secsN (framesB rs).length then (d, l, 21)
  else match batchZ d (l.half - l.base) (l.last + 1) (framesB rs) with
    | (d', e) => if e ≠ 0 then (d', { l with last := l.last + 1 }, e)
      else (d', { half := l.half, base := l.half - l.base, used := secsN (framesB rs).length, last := l.last + 1, recs := rs }, 0)
set_option maxHeartbeats 4000000 in
theorem jreplace_c {F0 RL RD H : Heap} {p pd : Nat} {l : LZ} {lv : Value} {d : DZ} (t : TwoO F0 RL RD H) (hd : Dsk RD pd d) (hl : Lg RL p pd l lv) (hlast : l.last < 4294967290) (hwt : d.wait.length ≤ 10000)
    {a : Option Addr} {n c : Nat} {rs : List RZ} (hs : SlA F0 a n 17 (rowsC RZ.cells rs)) (hg : ∀ r ∈ rs, r.good) (hn : n ≤ 300) (hnc : n ≤ c) :
    ECalls Try.prog 16 #[.pointer (some ⟨p, 0, none⟩), .slice a n c] H fun v H' => ∃ RL' RD' lv', v = .int .i64 (replZ d l rs).2.2 ∧ TwoO F0 RL' RD' H' ∧ Lg RL' p pd (replZ d l rs).2.1 lv' ∧ Dsk RD' pd (replZ d l rs).1 := by
  refine ecalls_of_ewp (args := [_, _]) Try.func16 rfl rfl rfl (by simp [Try.ntmps16]) (by kernel_rfl) ?_
  have hlen := hs.els rz17 (by decide)
  have hbl := framesB_len hg
  have hhalf := hl.half
  have hbase := hl.base
  simp (disch := first | omega | assumption | decide | (simp <;> omega) | fail) [facts, ]
  refine (jframes_c a n c rs H (hs.le t.fle) hg (by omega)).mono ?_
  rintro v H1 ⟨sv, B, rfl, ow, lb⟩
  obtain ⟨va, vc, rfl, hsv, hvc⟩ := LstR.sl lb (Heap.le_refl B)
  obtain ⟨t1, hFF⟩ := t.join ow
  have hsv1 := hsv.le (join_left B F0)
  obtain ⟨F1, hF1⟩ : ∃ F, F = joinH B F0 := ⟨_, rfl⟩
  rw [← hF1] at t1 hFF hsv1
  clear hF1
  obtain ⟨m, hm⟩ : ∃ m, m = (framesB rs).length := ⟨_, rfl⟩
  rw [← hm] at hsv1 hvc hbl ⊢
  have rp := t1.ale _ _ hl.row
  unfold lgRow at rp
  obtain ⟨s, hsd⟩ : ∃ s, s = secsN m := ⟨_, rfl⟩
  have hs2 : s ≤ 2000 := by rw [hsd]; unfold secsN; omega
  have cs := fun H => jsectors_c va m vc H (by omega)
  rw [← hsd] at cs
  obtain ⟨nb, hnb⟩ : ∃ x, x = l.half - l.base := ⟨_, rfl⟩
  have hnbI : (l.half : Int) - (l.base : Int) = (nb : Int) := by omega
  have haz : replZ d l rs = (if l.half < s then (d, l, 21) else match batchZ d nb (l.last + 1) (framesB rs) with
      | (d', e) => if e ≠ 0 then (d', { l with last := l.last + 1 }, e) else (d', { half := l.half, base := nb, used := s, last := l.last + 1, recs := rs }, 0)) := by
    unfold replZ; rw [← hm, ← hsd, ← hnb]
  simp (disch := first | omega | assumption | decide | (simp <;> omega) | fail) [facts, ]
  obtain ⟨I6, hI6⟩ : ∃ I : St → Prop, I = (fun st => st.env 0 = .pointer (some ⟨p, 0, none⟩) ∧ st.env 1 = .slice a n c ∧ st.env 5 = .slice va m vc ∧ st.env 18 = .bool (decide (l.half < s)) ∧ st.heap = H1) := ⟨_, rfl⟩
  refine w_cut I6 ?_ ?_
  · refine w_plan (by simp [facts]) (opsP [0,2,3,4] (.both (opsP [1,5,6,7] .done) (opsP [5,1,6,7] .done))) (by decide +kernel) ?_
    simp (disch := first | omega | assumption | decide | (simp <;> omega) | fail) [facts, rp]
    repeat' apply And.intro
    all_goals
      refine (cs _).mono ?_
      rintro v G ⟨rfl, rfl⟩
      simp (disch := first | omega | assumption | decide | (simp <;> omega) | fail) [facts, rp]
      subst hI6
      refine ⟨by simp, by simp, by simp, ?_, rfl⟩
      simp
  subst hI6
  rintro ⟨env, G⟩ ⟨e0, e1, e5, e18, hG⟩
  simp only at e0 e1 e5 e18 hG
  subst hG
  by_cases hful : l.half < s
  · rw [show replZ d l rs = (d, l, 21) by rw [haz, if_pos hful]]
    simp (disch := first | omega | assumption | decide | (simp <;> omega) | fail) [facts, e0, e1, e5, e18, hful]
    exact ⟨_, Heap.le_refl _, RL, RD, t1.less hFF, ⟨lv, hl⟩, hd⟩
  rw [if_neg hful] at haz
  obtain ⟨d', e, hbz⟩ : ∃ d' e, batchZ d nb (l.last + 1) (framesB rs) = (d', e) := ⟨_, _, rfl⟩
  have cb := jbatch_c t1 hd hl.row (by omega) nb (by omega) hwt hsv1 (by omega) hvc
  rw [hbz] at cb haz
  simp only at cb haz
  have hrow1 := upd_same RL p (.row true 0 (lgRow pd l.half l.base l.used (l.last + 1) lv) 0)
  have hrec1 : LstR (upd RL p (.row true 0 (lgRow pd l.half l.base l.used (l.last + 1) lv) 0)) lv 17 l.recs.length (rowsC RZ.cells l.recs) := hl.recs.up fun i o hi ho => by
    rw [upd_ne _ _ (fun e' => hl.ne (by rw [hi, e']))]; exact ho
  obtain ⟨RL1, hRL1⟩ : ∃ R, R = upd RL p (.row true 0 (lgRow pd l.half l.base l.used (l.last + 1) lv) 0) := ⟨_, rfl⟩
  rw [← hRL1] at cb hrow1 hrec1
  clear hRL1
  simp (disch := first | omega | assumption | decide | (simp <;> omega) | fail) [facts, e0, e1, e5, e18, hful]
  obtain ⟨I7, hI7⟩ : ∃ I : St → Prop, I = (fun st => st.env 0 = .pointer (some ⟨p, 0, none⟩) ∧ st.env 1 = .slice a n c ∧ st.env 5 = .slice va m vc ∧ st.env 7 = .int .i64 nb ∧ st.heap = G) := ⟨_, rfl⟩
  refine w_cut I7 ?_ ?_
  · refine w_plan (by simp [facts]) (opsP [0,1,2,3,4,5,6,7,8,9] .done) (by decide +kernel) ?_
    simp (disch := first | omega | assumption | decide | (simp <;> omega) | fail) [facts, e0, e1, e5, rp, hnbI]
    subst hI7
    exact ⟨by simp [e0], by simp [e1], by simp [e5], by simp, rfl⟩
  subst hI7
  clear e0 e1 e5 e18
  rintro ⟨env, G1⟩ ⟨e0, e1, e5, e7, hG⟩
  simp only at e0 e1 e5 e7 hG
  subst hG
  simp (disch := first | omega | assumption | decide | (simp <;> omega) | fail) [facts, e0, e1, e5, e7]
  refine cb.mono ?_
  rintro v G2 ⟨RD', rfl, t2, hd2⟩
  by_cases he : e = 0
  case neg =>
    rw [if_pos he] at haz
    rw [haz]
    simp (disch := first | omega | assumption | decide | (simp <;> omega) | fail) [facts, e0, e1, e5, e7, he]
    exact ⟨_, Heap.le_refl _, RL1, RD', t2.less hFF, ⟨lv, hrow1, hrec1, hl.ne, hl.half, hl.used, hl.base, by simp only; omega⟩, hd2⟩
  subst he
  rw [if_neg (by simp)] at haz
  rw [haz]
  have rp2 := t2.ale _ _ hrow1
  unfold lgRow at rp2
  simp (disch := first | omega | assumption | decide | (simp <;> omega) | fail) [facts, e0, e1, e5, e7]
  refine (cs _).mono ?_
  rintro v G3 ⟨rfl, rfl⟩
  simp (disch := first | omega | assumption | decide | (simp <;> omega) | fail) [facts, e0, e1, e5, e7]
  refine (jclone_c a n c rs G3 ((hs.le hFF).le t2.fle) (by omega)).mono ?_
  rintro v' G4 ⟨B4, ow4, lst4⟩
  obtain ⟨nn, hnn⟩ : ∃ x, x = rs.length := ⟨_, rfl⟩
  obtain ⟨av, cv, hv', _, _⟩ := LstR.sl lst4 (Heap.le_refl B4)
  rw [← hnn] at hv'
  subst hv'
  have rp4 := ow4.all _ _ rp2
  simp (disch := first | omega | assumption | decide | (simp <;> omega) | fail) [facts, e0, e1, e5, e7, rp4, upd_upd]
  have hB4p : B4 p = none := ow4.off _ _ rp2
  have t4 := t2.joinA ow4
  have hjp : joinH B4 RL1 p = some (.row true 0 (lgRow pd l.half l.base l.used (l.last + 1) lv) 0) := by unfold joinH; rw [hB4p]; exact hrow1
  have t5 := t4.left ((Own.refl t4.ale).set hjp (.row true 0 (lgRow pd l.half nb s (l.last + 1) (.slice av nn cv)) 0))
  have hnep : blkV (.slice av nn cv) ≠ some p := fun e' => by
    obtain ⟨o, ho⟩ := LstR.blk lst4 e'
    rw [hB4p] at ho; cases ho
  have hlg : Lg (upd (joinH B4 RL1) p (.row true 0 (lgRow pd l.half nb s (l.last + 1) (.slice av nn cv)) 0)) p pd { half := l.half, base := nb, used := s, last := l.last + 1, recs := rs } (.slice av nn cv) :=
    ⟨upd_same _ _ _, lst4.up fun i o hi ho => by
      rw [upd_ne _ _ (fun e' => hnep (by rw [hi, e']))]
      exact join_left _ _ _ _ ho, hnep, hl.half, by simp only; omega, by simp only; omega, by simp only; omega⟩
  generalize upd (joinH B4 RL1) p (.row true 0 (lgRow pd l.half nb s (l.last + 1) (.slice av nn cv)) 0) = RL5 at *
  unfold lgRow at t5
  exact ⟨_, Heap.le_refl _, RL5, RD', t5.less hFF, ⟨_, hlg⟩, hd2⟩
end Go.Proofs.Ytnmbmccigpljnaa.GL
