/- Layer 5: records added. -/
import Derived.Test.YtnmbmccigpljnaaJoE
namespace Go.Proofs.Ytnmbmccigpljnaa.GL
open Go Go.RowKit
set_option maxRecDepth 10000
set_option pp.deepTerms.threshold 8
set_option pp.maxSteps 3000
set_option linter.unusedSimpArgs false
set_option linter.unusedVariables false

/-- Two memories together. -/
def joinH (R F : Heap) : Heap := fun b => match R b with
  | some o => some o
  | none => F b
theorem join_left (R F : Heap) : Heap.le R (joinH R F) := fun b o h => by unfold joinH; rw [h]
theorem TwoO.join {F A B H H' R : Heap} (t : TwoO F A B H) (ow : Own H (fun _ => none) H' R) : TwoO (joinH R F) A B H' ∧ Heap.le F (joinH R F) := by
  have hoff := ow.off
  refine ⟨⟨fun b o h => ?_, Heap.le_trans t.ale ow.all, Heap.le_trans t.ble ow.all, fun b o h => ?_, fun b o h => ?_, t.ab⟩, fun b o h => ?_⟩
  · unfold joinH at h
    cases hr : R b with
    | some x => rw [hr] at h; cases h; exact ow.le _ _ hr
    | none => rw [hr] at h; exact ow.all _ _ (t.fle _ _ h)
  · unfold joinH at h
    cases hr : R b with
    | some x =>
      cases ha : A b with
      | none => rfl
      | some y => have := hoff b y (t.ale _ _ ha); rw [hr] at this; cases this
    | none => rw [hr] at h; exact t.fa b o h
  · unfold joinH at h
    cases hr : R b with
    | some x =>
      cases ha : B b with
      | none => rfl
      | some y => have := hoff b y (t.ble _ _ ha); rw [hr] at this; cases this
    | none => rw [hr] at h; exact t.fb b o h
  · unfold joinH
    rw [hoff b o (t.fle _ _ h)]
    exact h
theorem rows_one (rs : List RZ) : (rowsC RZ.cells rs).all (·.oneCell') = true := List.all_eq_true.2 fun v hv => by
  unfold rowsC at hv
  obtain ⟨l, hl, hv⟩ := List.mem_flatten.1 hv
  obtain ⟨r, _, rfl⟩ := List.mem_map.1 hl
  exact List.all_eq_true.1 (rzone r) v hv
theorem rows_app (a b : List RZ) : rowsC RZ.cells (a ++ b) = rowsC RZ.cells a ++ rowsC RZ.cells b := by unfold rowsC; rw [List.map_append, List.flatten_append]
def addZ (d : DZ) (l : LZ) (rs : List RZ) : DZ × LZ × Int :=
  if rs = [] then (d, l, 0)
  else if l.half - l.used < secsN (framesB rs).length then (d, l, 21)
  else match batchZ d (l.base + l.used) (l.last + 1) (framesB rs) with
    | (d', e) => if e ≠ 0 then (d', { l with last := l.last + 1 }, e)
      else (d', { l with last := l.last + 1, used := l.used + secsN (framesB rs).length, recs := l.recs ++ rs }, 0)
theorem framesB_len {rs : List RZ} (hg : ∀ r ∈ rs, r.good) : (framesB rs).length ≤ 300 * rs.length := by
  have := framesB_take_le rs (fun r hr => by have := (putB_len (hg r hr).1).2; omega) rs.length
  rw [List.take_length] at this
  exact this
set_option maxHeartbeats 4000000 in
theorem jadd_c {F0 RL RD H : Heap} {p pd : Nat} {l : LZ} {lv : Value} {d : DZ} (t : TwoO F0 RL RD H) (hd : Dsk RD pd d) (hl : Lg RL p pd l lv) (hlast : l.last < 4294967290) (hwt : d.wait.length ≤ 10000) (hrl : l.recs.length ≤ 100000)
    {a : Option Addr} {n c : Nat} {rs : List RZ} (hs : SlA F0 a n 17 (rowsC RZ.cells rs)) (hg : ∀ r ∈ rs, r.good) (hn : n ≤ 300) (hnc : n ≤ c) :
    ECalls Try.prog 18 #[.pointer (some ⟨p, 0, none⟩), .slice a n c] H fun v H' => ∃ RL' RD' lv', v = .int .i64 (addZ d l rs).2.2 ∧ TwoO F0 RL' RD' H' ∧ Lg RL' p pd (addZ d l rs).2.1 lv' ∧ Dsk RD' pd (addZ d l rs).1 := by
  refine ecalls_of_ewp (args := [_, _]) Try.func18 rfl rfl rfl (by simp [Try.ntmps18]) (by kernel_rfl) ?_
  have hlen := hs.els rz17 (by decide)
  have hbl := framesB_len hg
  have hhalf := hl.half
  have hused := hl.used
  have hbase := hl.base
  simp (disch := first | omega | assumption | decide | (simp <;> omega) | fail) [facts, ]
  refine (jframes_c a n c rs H (hs.le t.fle) hg (by omega)).mono ?_
  rintro v H1 ⟨sv, B, rfl, ow, lb⟩
  obtain ⟨va, vc, rfl, hsv, hvc⟩ := LstR.sl lb (Heap.le_refl B)
  obtain ⟨t1, hFF⟩ := t.join ow
  have hsv1 := hsv.le (join_left B F0)
  obtain ⟨F1, hF1⟩ : ∃ F, F = joinH B F0 := ⟨_, rfl⟩
  rw [← hF1] at t1 hFF hsv1
  clear hF1
  obtain ⟨m, hm⟩ : ∃ m, m = (framesB rs).length := ⟨_, rfl⟩
  rw [← hm] at hsv1 hvc hbl ⊢
  have rp := t1.ale _ _ hl.row
  unfold lgRow at rp
  by_cases hz : n = 0
  · have hrs : rs = [] := List.eq_nil_of_length_eq_zero (by omega)
    have hzI : (n : Int) = 0 := by omega
    have haz : addZ d l rs = (d, l, 0) := by unfold addZ; rw [if_pos hrs]
    rw [haz]
    simp (disch := first | omega | assumption | decide | (simp <;> omega) | fail) [facts, hz, hzI]
    exact ⟨_, Heap.le_refl _, RL, RD, t1.less hFF, ⟨lv, hl⟩, hd⟩
  have hzI : ¬ (n : Int) = 0 := by omega
  have hrs : rs ≠ [] := fun e => hz (by rw [← hlen, e]; rfl)
  obtain ⟨s, hsd⟩ : ∃ s, s = secsN m := ⟨_, rfl⟩
  have hs2 : s ≤ 2000 := by rw [hsd]; unfold secsN; omega
  have cs := fun H => jsectors_c va m vc H (by omega)
  rw [← hsd] at cs
  obtain ⟨us, hus⟩ : ∃ u, u = l.used + s := ⟨_, rfl⟩
  obtain ⟨fr, hfr⟩ : ∃ x, x = l.half - l.used := ⟨_, rfl⟩
  have hfrI : (l.half : Int) - (l.used : Int) = (fr : Int) := by omega
  have haz : addZ d l rs = (if fr < s then (d, l, 21) else match batchZ d (l.base + l.used) (l.last + 1) (framesB rs) with
      | (d', e) => if e ≠ 0 then (d', { l with last := l.last + 1 }, e) else (d', { l with last := l.last + 1, used := us, recs := l.recs ++ rs }, 0)) := by
    unfold addZ; rw [if_neg hrs, ← hm, ← hsd, ← hfr, ← hus]
  simp (disch := first | omega | assumption | decide | (simp <;> omega) | fail) [facts, hz, hzI]
  obtain ⟨I6, hI6⟩ : ∃ I : St → Prop, I = (fun st => st.env 0 = .pointer (some ⟨p, 0, none⟩) ∧ st.env 1 = .slice a n c ∧ st.env 5 = .slice va m vc ∧ st.env 21 = .bool (decide (fr < s)) ∧ st.heap = H1) := ⟨_, rfl⟩
  refine w_cut I6 ?_ ?_
  · refine w_plan (by simp [facts]) (opsP [0,2,3,4,6,7,8] (.both (opsP [1] (.both (opsP [5,9,10,11,12] .done) (opsP [9,5,10,11,12] .done))) (.both (opsP [5] (.both (opsP [1,9,10,11,12] .done) (opsP [9,10,1,11,12] .done))) (opsP [9] (.both (opsP [1,5,10,11,12] .done) (opsP [5,10,1,11,12] .done)))))) (by decide +kernel) ?_
    simp (disch := first | omega | assumption | decide | (simp <;> omega) | fail) [facts, rp, hfrI]
    repeat' apply And.intro
    all_goals
      refine (cs _).mono ?_
      rintro v G ⟨rfl, rfl⟩
      simp (disch := first | omega | assumption | decide | (simp <;> omega) | fail) [facts, rp, hfrI]
      try (repeat' apply And.intro)
      all_goals
        subst hI6
        refine ⟨by simp, by simp, by simp, ?_, rfl⟩
        simp
  subst hI6
  rintro ⟨env, G⟩ ⟨e0, e1, e5, e21, hG⟩
  simp only at e0 e1 e5 e21 hG
  subst hG
  by_cases hful : fr < s
  · rw [show addZ d l rs = (d, l, 21) by rw [haz, if_pos hful]]
    simp (disch := first | omega | assumption | decide | (simp <;> omega) | fail) [facts, e0, e1, e5, e21, hful]
    exact ⟨_, Heap.le_refl _, RL, RD, t1.less hFF, ⟨lv, hl⟩, hd⟩
  rw [if_neg hful] at haz
  obtain ⟨d', e, hbz⟩ : ∃ d' e, batchZ d (l.base + l.used) (l.last + 1) (framesB rs) = (d', e) := ⟨_, _, rfl⟩
  have cb := jbatch_c t1 hd hl.row (by omega) (l.base + l.used) (by omega) hwt hsv1 (by omega) hvc
  rw [hbz] at cb haz
  rw [show ((l.base + l.used : Nat) : Int) = (l.base : Int) + (l.used : Int) by omega] at cb
  simp only at cb haz
  have hrow1 := upd_same RL p (.row true 0 (lgRow pd l.half l.base l.used (l.last + 1) lv) 0)
  have hrec1 : LstR (upd RL p (.row true 0 (lgRow pd l.half l.base l.used (l.last + 1) lv) 0)) lv 17 l.recs.length (rowsC RZ.cells l.recs) := hl.recs.up fun i o hi ho => by
    rw [upd_ne _ _ (fun e' => hl.ne (by rw [hi, e']))]; exact ho
  obtain ⟨RL1, hRL1⟩ : ∃ R, R = upd RL p (.row true 0 (lgRow pd l.half l.base l.used (l.last + 1) lv) 0) := ⟨_, rfl⟩
  rw [← hRL1] at cb hrow1 hrec1
  clear hRL1
  simp (disch := first | omega | assumption | decide | (simp <;> omega) | fail) [facts, e0, e1, e5, e21, hful]
  obtain ⟨I8, hI8⟩ : ∃ I : St → Prop, I = (fun st => ∃ RD', st.env 0 = .pointer (some ⟨p, 0, none⟩) ∧ st.env 1 = .slice a n c ∧ st.env 5 = .slice va m vc ∧ st.env 7 = .int .i64 e ∧ TwoO F1 RL1 RD' st.heap ∧ Dsk RD' pd d') := ⟨_, rfl⟩
  refine w_cut I8 ?_ ?_
  · refine w_plan (by simp [facts]) (opsP [0,1,2,3,5,6,7,10] (.both (opsP [4,8,9,11,12] .done) (opsP [8,4,9,11,12] .done))) (by decide +kernel) ?_
    simp (disch := first | omega | assumption | decide | (simp <;> omega) | fail) [facts, e0, e1, e5, rp]
    repeat' apply And.intro
    all_goals
      refine cb.mono ?_
      rintro v G2 ⟨RD', rfl, t2, hd2⟩
      simp (disch := first | omega | assumption | decide | (simp <;> omega) | fail) [facts, e0, e1, e5]
      subst hI8
      exact ⟨RD', by simp [e0], by simp [e1], by simp [e5], by simp, t2, hd2⟩
  subst hI8
  clear e0 e1 e5 e21 rp
  rintro ⟨env, G2⟩ ⟨RD', e0, e1, e5, e7, t2, hd2⟩
  simp only at e0 e1 e5 e7 t2
  by_cases he : e = 0
  case neg =>
    rw [if_pos he] at haz
    rw [haz]
    simp (disch := first | omega | assumption | decide | (simp <;> omega) | fail) [facts, e0, e1, e5, e7, he]
    exact ⟨_, Heap.le_refl _, RL1, RD', t2.less hFF, ⟨lv, hrow1, hrec1, hl.ne, hl.half, hl.used, hl.base, by simp only; omega⟩, hd2⟩
  subst he
  rw [if_neg (by simp)] at haz
  rw [haz]
  have rp2 := t2.ale _ _ hrow1
  unfold lgRow at rp2
  have hnu : (l.used : Int) + (s : Int) = (us : Int) := by omega
  simp (disch := first | omega | assumption | decide | (simp <;> omega) | fail) [facts, e0, e1, e5, e7]
  obtain ⟨I11, hI11⟩ : ∃ I : St → Prop, I = (fun st => st.env 0 = .pointer (some ⟨p, 0, none⟩) ∧ st.env 1 = .slice a n c ∧ st.heap = upd G2 p (.row true 0 (lgRow pd l.half l.base us (l.last + 1) lv) 0)) := ⟨_, rfl⟩
  refine w_cut I11 ?_ ?_
  · refine w_plan (by simp [facts]) (opsP [0,1,2,4] (.both (opsP [3,5,6,7,8,9] .done) (opsP [5,3,6,7,8,9] .done))) (by decide +kernel) ?_
    simp (disch := first | omega | assumption | decide | (simp <;> omega) | fail) [facts, e0, e1, e5, rp2]
    repeat' apply And.intro
    all_goals
      refine (cs _).mono ?_
      rintro v G3 ⟨rfl, rfl⟩
      simp (disch := first | omega | assumption | decide | (simp <;> omega) | fail) [facts, e0, e1, e5, rp2, hnu]
      subst hI11
      exact ⟨by simp [e0], by simp [e1], by unfold lgRow; simp⟩
  subst hI11
  clear e0 e1 e5 e7
  rintro ⟨env, G3⟩ ⟨e0, e1, hG⟩
  simp only at e0 e1 hG
  have t3 := t2.left ((Own.refl t2.ale).set hrow1 (.row true 0 (lgRow pd l.half l.base us (l.last + 1) lv) 0))
  rw [← hG] at t3
  have hrow3 := upd_same RL1 p (.row true 0 (lgRow pd l.half l.base us (l.last + 1) lv) 0)
  have hrec3 : LstR (upd RL1 p (.row true 0 (lgRow pd l.half l.base us (l.last + 1) lv) 0)) lv 17 l.recs.length (rowsC RZ.cells l.recs) := hrec1.up fun i o hi ho => by
    rw [upd_ne _ _ (fun e' => hl.ne (by rw [hi, e']))]; exact ho
  generalize upd RL1 p (.row true 0 (lgRow pd l.half l.base us (l.last + 1) lv) 0) = RL3 at *
  have rp3 := t3.ale _ _ hrow3
  unfold lgRow at rp3
  clear hG
  simp (disch := first | omega | assumption | decide | (simp <;> omega) | fail) [facts, e0, e1, rp3]
  have hsl3 := (hs.le hFF).le t3.fle
  refine LstR.app (H0 := G3) (B0 := RL3) (e := 42) (s := 17) (nbs := 136) (z := .agg #[.int .i64 0, .int .u16 0, .int .u32 0, .string ByteArray.empty, .int .i64 0, .int .i64 0, .int .i64 0, .int .i64 0, .int .i64 0, .int .i64 0, .int .i64 0, .int .i64 0, .int .i64 0, .int .i64 0, .int .i64 0, .int .i64 0, .int .i64 0]) (m := n) (ys := rowsC RZ.cells rs) (by simp [facts]) (by simp [facts]) (by simp [facts]) (by simp [facts]) rfl (by decide) hrec3 (Own.refl t3.ale)
    (src_sl (e1 := 42) (z := .agg #[.int .i64 0, .int .u16 0, .int .u32 0, .string ByteArray.empty, .int .i64 0, .int .i64 0, .int .i64 0, .int .i64 0, .int .i64 0, .int .i64 0, .int .i64 0, .int .i64 0, .int .i64 0, .int .i64 0, .int .i64 0, .int .i64 0, .int .i64 0]) (by simp [facts]) (by simp [facts]) (by simp [facts]) hsl3) (by rw [rowsC_len rz17, hlen]) ?_ (by omega) ?_
  · exact rows_one rs
  intro v' G4 RL4 ow4 lst4 hkp _
  have k4 := hkp p _ hrow3 hl.ne
  have t4 := t3.left ow4
  rw [← rows_app, show l.recs.length + n = (l.recs ++ rs).length by rw [List.length_append, hlen]] at lst4
  obtain ⟨nn, hnn⟩ : ∃ x, x = (l.recs ++ rs).length := ⟨_, rfl⟩
  obtain ⟨av, cv, hv', _, _⟩ := LstR.sl lst4 (Heap.le_refl RL4)
  rw [← hnn] at hv'
  subst hv'
  have rp4 := t4.ale _ _ k4.1
  unfold lgRow at rp4
  have hrow5 := upd_same RL4 p (.row true 0 (lgRow pd l.half l.base us (l.last + 1) (.slice av nn cv)) 0)
  have t5 := t4.left ((Own.refl t4.ale).set k4.1 (.row true 0 (lgRow pd l.half l.base us (l.last + 1) (.slice av nn cv)) 0))
  have hrec5 : LstR (upd RL4 p (.row true 0 (lgRow pd l.half l.base us (l.last + 1) (.slice av nn cv)) 0)) (.slice av nn cv) 17 (l.recs ++ rs).length (rowsC RZ.cells (l.recs ++ rs)) := lst4.up fun i o hi ho => by
    rw [upd_ne _ _ (fun e' => k4.2 (by rw [hi, e']))]; exact ho
  have hlg : Lg (upd RL4 p (.row true 0 (lgRow pd l.half l.base us (l.last + 1) (.slice av nn cv)) 0)) p pd { l with last := l.last + 1, used := us, recs := l.recs ++ rs } (.slice av nn cv) :=
    ⟨hrow5, hrec5, k4.2, hl.half, by simp only; omega, hl.base, by simp only; omega⟩
  generalize hRL5 : upd RL4 p (.row true 0 (lgRow pd l.half l.base us (l.last + 1) (.slice av nn cv)) 0) = RL5 at *
  unfold lgRow at t5
  simp (disch := first | omega | assumption | decide | (simp <;> omega) | fail) [facts, e0, e1, rp4]
  exact ⟨_, Heap.le_refl _, RL5, RD', t5.less hFF, ⟨_, hlg⟩, hd2⟩
end Go.Proofs.Ytnmbmccigpljnaa.GL
