/- Layer 3: a disk: opened again, cloned. -/
import Derived.Test.YtobkfpohdknggaaDiC
namespace Go.Proofs.Ytobkfpohdknggaa.GL
open Go Go.RowKit
set_option maxRecDepth 10000
set_option pp.deepTerms.threshold 8
set_option pp.maxSteps 3000
set_option linter.unusedSimpArgs false
set_option linter.unusedVariables false

/-- The last one that isn't kept. -/
def lastZ (ks : List Bool) : Nat → Int
  | 0 => -1
  | m + 1 => if ks.getD m false = true then lastZ ks m else m
/-- What a crash makes of one write. -/
def stepW (ks : List Bool) (last : Int) (t : Nat) (i : Nat) (kept : List Sec) (x : Wr) : List Sec :=
  if ks.getD i false = true then kept.set x.n x.s else if (i : Int) = last then kept.set x.n (tornS (kept.getD x.n (secOf [])) x.s t) else kept
def crashW (ks : List Bool) (last : Int) (t : Nat) (ws : List Wr) (kept : List Sec) : Nat → List Sec
  | 0 => kept
  | i + 1 => match ws[i]? with
    | some x => stepW ks last t i (crashW ks last t ws kept i) x
    | none => crashW ks last t ws kept i
theorem stepW_len (ks : List Bool) (last : Int) (t i : Nat) (kept : List Sec) (x : Wr) : (stepW ks last t i kept x).length = kept.length := by
  unfold stepW; split
  · simp
  · split <;> simp
theorem crashW_len (ks : List Bool) (last : Int) (t : Nat) (ws : List Wr) (kept : List Sec) : ∀ i, (crashW ks last t ws kept i).length = kept.length
  | 0 => rfl
  | i + 1 => by
    unfold crashW
    split
    · rw [stepW_len, crashW_len ks last t ws kept i]
    · exact crashW_len ks last t ws kept i
def tornN (z : Int) : Nat := (min (max z 0) 64).toNat
def reopenZ (d : DZ) (ks : List Bool) (torn : Int) : DZ :=
  let k := crashW ks (lastZ ks d.wait.length) (tornN torn) d.wait d.kept d.wait.length
  ⟨k, k, [], -1, false⟩

section
variable {H R : Heap} {p : Nat} {d : DZ}
def re1Inv (G : Heap) (p : Nat) (a : Option Addr) (n c : Nat) (ks : List Bool) (len : Nat) (torn : Int) (s : St) : Prop :=
  ∃ j : Nat, j ≤ len ∧ s.heap = G ∧ s.env 0 = .pointer (some ⟨p, 0, none⟩) ∧ s.env 1 = .slice a n c ∧ s.env 2 = .int .i64 torn ∧ s.env 6 = .int .i64 (lastZ ks j) ∧ s.env 14 = .int .i64 len ∧ s.env 15 = .int .i64 j
def re2Inv (H0 R0 : Heap) (p : Nat) (a : Option Addr) (n c : Nat) (ks : List Bool) (torn : Int) (d : DZ) (k ok ck rk w ow cw rw : Nat) (qv : Value) (s : St) : Prop :=
  ∃ (j : Nat) (R1 : Heap), j ≤ d.wait.length ∧ s.env 0 = .pointer (some ⟨p, 0, none⟩) ∧ s.env 1 = .slice a n c ∧ s.env 2 = .int .i64 torn ∧ s.env 6 = .int .i64 (lastZ ks d.wait.length) ∧ s.env 34 = qv ∧ s.env 35 = .int .i64 d.wait.length ∧ s.env 36 = .int .i64 j ∧ Own H0 R0 s.heap R1 ∧ DskAt R1 p { d with kept := crashW ks (lastZ ks d.wait.length) (tornN torn) d.wait d.kept j } k ok ck rk w ow cw rw qv
theorem getD_lt {ks : List Bool} {i n : Nat} (hl : ks.length = n) (hi : i < n) : ks[i]? = some (ks.getD i false) := by
  have hlt : i < ks.length := by omega
  rw [List.getElem?_eq_getElem hlt]
  simp [hlt]
theorem getD_ge {ks : List Bool} {i n : Nat} (hl : ks.length = n) (hi : ¬ i < n) : ks.getD i false = false := by
  have h0 : ks[i]? = none := List.getElem?_eq_none (by omega)
  simp [List.getD, h0]
set_option maxHeartbeats 2000000 in
theorem diskReopen_c {F : Heap} (hR : Heap.le R H) (h : Dsk R p d) (hF : Heap.le F H) (hoff : Off F R) {a : Option Addr} {n c : Nat} {ks : List Bool} (hb : BoA F a n ks) (torn : Int) (hn : n ≤ 1000000) (hw : d.wait.length ≤ 1000000) :
    ECalls Try.prog 10 #[.pointer (some ⟨p, 0, none⟩), .slice a n c, .int .i64 torn] H fun _ H' => ∃ R', Own H R H' R' ∧ Dsk R' p (reopenZ d ks torn) := by
  refine ecalls_of_ewp (args := [_, _, _]) Try.func10 rfl rfl rfl (by simp [Try.ntmps10]) (by kernel_rfl) ?_
  obtain ⟨k, ok, ck, rk, w, ow, cw, rw', qv, hd⟩ := h
  have hp := hR _ _ hd.row
  have hkl := hb.len
  obtain ⟨aq, cq, rfl, hsq, hcq⟩ := hd.wait.sl hR
  simp (disch := first | omega | assumption | decide | (simp <;> omega) | fail) [facts, hp]
  refine w_loop (re1Inv H p a n c ks d.wait.length torn) (fun s => d.wait.length - (intOf (s.env 15)).toNat) ?_ ?_
  · exact ⟨0, Nat.zero_le _, rfl, by simp, by simp, by simp, by simp [lastZ], by simp, by simp⟩
  rintro ⟨env, G⟩ ⟨j, hj, hG, e0, e1, e2, e6, e14, e15⟩
  simp only at hG e0 e1 e2 e6 e14 e15
  subst hG
  by_cases hlt : j < d.wait.length
  · have hltI : (j : Int) < (d.wait.length : Int) := by omega
    by_cases hjn : j < n
    · have hjI : (j : Int) < (n : Int) := by omega
      have hjI2 : ¬ (n : Int) ≤ (j : Int) := by omega
      have hsb := (hb.sl (by omega)).le hF
      obtain ⟨bk, bo, rfl⟩ := hsb.lit (by omega)
      have rb := hsb.at (getD_lt hkl hjn)
      rw [at1_lit] at rb
      cases hkb : ks.getD j false with
      | true =>
        rw [hkb] at rb
        have hl : lastZ ks (j + 1) = lastZ ks j := by show (if ks.getD j false = true then lastZ ks j else (j : Int)) = _; rw [if_pos hkb]
        simp (disch := first | omega | assumption | decide | (simp <;> omega) | fail) [facts, e0, e1, e2, e6, e14, e15, hltI, hjI, hjI2, rb]
        exact ⟨_, Heap.le_refl _, ⟨j + 1, by omega, rfl, by simp [e0], by simp [e1], by simp [e2], by simp [e6, hl], by simp [e14], by simp⟩, by simp [intOf, e15]; omega⟩
      | false =>
        rw [hkb] at rb
        have hl : lastZ ks (j + 1) = j := by show (if ks.getD j false = true then lastZ ks j else (j : Int)) = _; rw [if_neg (by rw [hkb]; decide)]
        simp (disch := first | omega | assumption | decide | (simp <;> omega) | fail) [facts, e0, e1, e2, e6, e14, e15, hltI, hjI, hjI2, rb]
        exact ⟨_, Heap.le_refl _, ⟨j + 1, by omega, rfl, by simp [e0], by simp [e1], by simp [e2], by simp [hl], by simp [e14], by simp⟩, by simp [intOf, e15]; omega⟩
    · have hjI : (n : Int) ≤ (j : Int) := by omega
      have hl : lastZ ks (j + 1) = j := by show (if ks.getD j false = true then lastZ ks j else (j : Int)) = _; rw [if_neg (by rw [getD_ge hkl hjn]; decide)]
      simp (disch := first | omega | assumption | decide | (simp <;> omega) | fail) [facts, e0, e1, e2, e6, e14, e15, hltI, hjI]
      exact ⟨_, Heap.le_refl _, ⟨j + 1, by omega, rfl, by simp [e0], by simp [e1], by simp [e2], by simp [hl], by simp [e14], by simp⟩, by simp [intOf, e15]; omega⟩
  have hje : j = d.wait.length := by omega
  subst hje
  simp (disch := first | omega | assumption | decide | (simp <;> omega) | fail) [facts, e0, e1, e2, e6, e14, e15, hp]
  refine w_loop (re2Inv G R p a n c ks torn d k ok ck rk w ow cw rw' (.slice aq d.wait.length cq)) (fun s => d.wait.length - (intOf (s.env 36)).toNat) ?_ ?_
  · exact ⟨0, R, Nat.zero_le _, by simp [e0], by simp [e1], by simp [e2], by simp [e6], by simp, by simp, by simp, Own.refl hR, hd⟩
  clear hp hsq hcq e0 e1 e2 e6 e14 e15 hlt hj
  rintro ⟨env, G2⟩ ⟨j, R1, hj, e0, e1, e2, e6, e34, e35, e36, own1, hd1⟩
  simp only at e0 e1 e2 e6 e34 e35 e36 own1
  obtain ⟨hF1, hoff1⟩ := own1.frame hF hoff
  have hp := own1.le _ _ hd1.row
  generalize hkj : crashW ks (lastZ ks d.wait.length) (tornN torn) d.wait d.kept j = kj at hd1 hp
  by_cases hlt : j < d.wait.length
  · have hltI : (j : Int) < (d.wait.length : Int) := by omega
    obtain ⟨x, hx⟩ : ∃ x, d.wait[j]? = some x := ⟨_, List.getElem?_eq_getElem hlt⟩
    obtain ⟨aq', cq', e, hsq, _⟩ := hd1.wait.sl own1.le
    simp only [Value.slice.injEq] at e
    obtain ⟨rfl, _, rfl⟩ := e
    simp only at hsq
    obtain ⟨q, o, rfl⟩ := hsq.lit (by omega)
    have rx := hsq.el wr65 hx (j := 0) (r := 65) (by decide) (by decide)
    rw [List.drop_zero, wr_take, Nat.add_zero] at rx
    simp (disch := first | omega | assumption | decide | (simp <;> omega) | fail) [facts, e0, e1, e2, e6, e34, e35, e36, hltI, rx]
    refine fresh_intro fun b hb9 => ?_
    simp (disch := first | omega | assumption | decide | (simp <;> omega) | fail) [facts, rep_drop, upd_upd]
    have l5 : upd G2 b (.row true 0 x.cells 0) b = some (.row true 0 (.int .i64 x.n :: x.s.cells) 0) := upd_same G2 b (.row true 0 x.cells 0)
    have own2 := own1.grow (le_upd (.row true 0 x.cells 0) hb9)
    have hF2 := Heap.le_trans hF1 (le_upd (.row true 0 x.cells 0) hb9)
    generalize upd G2 b (.row true 0 x.cells 0) = G3 at *
    have hp2 := own2.le _ _ hd1.row
    have hk2 := own2.le _ _ hd1.kept
    have hnext : ∀ ks', stepW ks (lastZ ks d.wait.length) (tornN torn) j kj x = ks' → crashW ks (lastZ ks d.wait.length) (tornN torn) d.wait d.kept (j + 1) = ks' := fun ks' e => by
      unfold crashW; rw [hx, hkj]; exact e
    have hxn : x.n < kj.length := hd1.inn x (List.mem_of_getElem? hx)
    have hxI : (x.n : Int) < (kj.length : Int) := by omega
    have hlk : (rowsC Sec.cells kj).length = kj.length * 64 := rowsC_len sec64 _
    have hfit : x.n * 64 + 64 ≤ kj.length * 64 := by omega
    have ht : min (max torn 0) 64 = (tornN torn : Int) := by unfold tornN; omega
    have ht64 : tornN torn ≤ 64 := by unfold tornN; omega
    have hsx : SlA G3 (some ⟨b, 1, none⟩) 64 1 (x.s.b.map u8V) := SlA.row l5 (Nat.zero_le _) (by simp [x.s.len]) (by simp) (by simp [Sec.cells]; rw [List.take_of_length_le (by simp [x.s.len])])
    by_cases hkb : ks.getD j false = true
    · have hjn : j < n := by
        rcases Nat.lt_or_ge j n with h0 | h0
        · exact h0
        · rw [getD_ge hkl (by omega)] at hkb; cases hkb
      have hjI : (j : Int) < (n : Int) := by omega
      have hsb := (hb.sl (by omega)).le hF2
      obtain ⟨bk, bo, rfl⟩ := hsb.lit (by omega)
      have rb := hsb.at (getD_lt hkl hjn)
      rw [at1_lit, hkb] at rb
      have hstep : stepW ks (lastZ ks d.wait.length) (tornN torn) j kj x = kj.set x.n x.s := by unfold stepW; rw [if_pos hkb]
      simp (disch := first | omega | assumption | decide | (simp <;> omega) | fail) [facts, e0, e1, e2, e6, e34, e35, e36, hjI, rb]
      refine w_plan (P := Try.prog) (by simp [facts]) (opsP [0,1,2,3,4,5,6,7,8,9] .done) ?_ ?_
      · decide +kernel
      simp (disch := first | omega | assumption | decide | (simp <;> omega) | fail) [facts, e0, e1, e2, e6, e34, e35, e36, hp2, l5, sec_take, hxI, hk2, rowsC_set sec64]
      refine ⟨_, Heap.le_refl _, ⟨j + 1, _, by omega, by simp [e0], by simp [e1], by simp [e2], by simp [e6], by simp [e34], by simp [e35], by simp, own2.set hd1.kept _, by rw [hnext _ hstep]; exact hd1.setKept _ (by simp)⟩, by simp [intOf, e36]; omega⟩
    have hkf : ks.getD j false = false := by simpa using hkb
    by_cases hlast : (j : Int) = lastZ ks d.wait.length
    · obtain ⟨old, hold⟩ : ∃ old, kj[x.n]? = some old := ⟨_, List.getElem?_eq_getElem hxn⟩
      have hgd : kj.getD x.n (secOf []) = old := by simp [List.getD, hold]
      have hstep : stepW ks (lastZ ks d.wait.length) (tornN torn) j kj x = kj.set x.n (tornS old x.s (tornN torn)) := by unfold stepW; rw [if_neg hkb, if_pos hlast, hgd]
      have hpart : splice (rowsC Sec.cells kj) (x.n * 64) ((x.s.b.map u8V).take (tornN torn)) = rowsC Sec.cells (kj.set x.n (tornS old x.s (tornN torn))) := by
        have := rowsC_part sec64 (j := 0) (ys := x.s.cells.take (tornN torn)) hold (by rw [List.length_take]; simp; omega) (torn_cells old x.s (tornN torn) ht64)
        rw [Nat.add_zero] at this
        exact this
      by_cases hjn : j < n
      · have hjI : (j : Int) < (n : Int) := by omega
        have hsb := (hb.sl (by omega)).le hF2
        obtain ⟨bk, bo, rfl⟩ := hsb.lit (by omega)
        have rb := hsb.at (getD_lt hkl hjn)
        rw [at1_lit, hkf] at rb
        simp (disch := first | omega | assumption | decide | (simp <;> omega) | fail) [facts, e0, e1, e2, e6, e34, e35, e36, hjI, rb, ← hlast]
        refine w_plan (P := Try.prog) (by simp [facts]) (opsP [0,1,2,4,7,8,9,11,12] (.both (opsP [3,5,6,10,13] .done) (opsP [5,3,6,10,13] .done))) ?_ ?_
        · decide +kernel
        simp (disch := first | omega | assumption | decide | (simp <;> omega) | fail) [facts, e0, e2, hp2, l5, hxI, ht]
        constructor
        all_goals
          refine copy_own (e := 5) (s := 1) (n := 64) (ys := x.s.b.map u8V) (by simp [facts]) (by simp [facts]) (src_sl (e1 := 5) (z := .int .u8 0) (by simp [facts]) (by simp [facts]) (by simp [facts]) hsx) (by simp [facts]) (by intro k z e; cases e) (by simp [x.s.len]) (all_u8 _) hk2 (Nat.le_add_right _ _) (by rw [Nat.add_sub_cancel_left, hlk]; omega) ?_
          rw [Nat.add_sub_cancel_left, Nat.mul_one, Nat.min_eq_right ht64]
          rw [hpart]
          simp (disch := first | omega | assumption | decide | (simp <;> omega) | fail) [facts, e0, e1, e2, e6, e34, e35, e36]
          refine ⟨_, Heap.le_refl _, ⟨j + 1, _, by omega, by simp [e0], by simp [e1], by simp [e2], by simp [e6], by simp [e34], by simp [e35], by simp, own2.set hd1.kept _, by rw [hnext _ hstep]; exact hd1.setKept _ (by simp)⟩, by simp [intOf, e36]; omega⟩
      · have hjI : ¬ (j : Int) < (n : Int) := by omega
        simp (disch := first | omega | assumption | decide | (simp <;> omega) | fail) [facts, e0, e1, e2, e6, e34, e35, e36, hjI, ← hlast]
        refine w_plan (P := Try.prog) (by simp [facts]) (opsP [0,1,2,4,7,8,9,11,12] (.both (opsP [3,5,6,10,13] .done) (opsP [5,3,6,10,13] .done))) ?_ ?_
        · decide +kernel
        simp (disch := first | omega | assumption | decide | (simp <;> omega) | fail) [facts, e0, e2, hp2, l5, hxI, ht]
        constructor
        all_goals
          refine copy_own (e := 5) (s := 1) (n := 64) (ys := x.s.b.map u8V) (by simp [facts]) (by simp [facts]) (src_sl (e1 := 5) (z := .int .u8 0) (by simp [facts]) (by simp [facts]) (by simp [facts]) hsx) (by simp [facts]) (by intro k z e; cases e) (by simp [x.s.len]) (all_u8 _) hk2 (Nat.le_add_right _ _) (by rw [Nat.add_sub_cancel_left, hlk]; omega) ?_
          rw [Nat.add_sub_cancel_left, Nat.mul_one, Nat.min_eq_right ht64]
          rw [hpart]
          simp (disch := first | omega | assumption | decide | (simp <;> omega) | fail) [facts, e0, e1, e2, e6, e34, e35, e36]
          refine ⟨_, Heap.le_refl _, ⟨j + 1, _, by omega, by simp [e0], by simp [e1], by simp [e2], by simp [e6], by simp [e34], by simp [e35], by simp, own2.set hd1.kept _, by rw [hnext _ hstep]; exact hd1.setKept _ (by simp)⟩, by simp [intOf, e36]; omega⟩
    · have hstep : stepW ks (lastZ ks d.wait.length) (tornN torn) j kj x = kj := by unfold stepW; rw [if_neg hkb, if_neg hlast]
      by_cases hjn : j < n
      · have hjI : (j : Int) < (n : Int) := by omega
        have hsb := (hb.sl (by omega)).le hF2
        obtain ⟨bk, bo, rfl⟩ := hsb.lit (by omega)
        have rb := hsb.at (getD_lt hkl hjn)
        rw [at1_lit, hkf] at rb
        simp (disch := first | omega | assumption | decide | (simp <;> omega) | fail) [facts, e0, e1, e2, e6, e34, e35, e36, hjI, rb, hlast]
        refine ⟨_, Heap.le_refl _, ⟨j + 1, _, by omega, by simp [e0], by simp [e1], by simp [e2], by simp [e6], by simp [e34], by simp [e35], by simp, own2, by rw [hnext _ hstep]; exact hd1⟩, by simp [intOf, e36]; omega⟩
      · have hjI : ¬ (j : Int) < (n : Int) := by omega
        simp (disch := first | omega | assumption | decide | (simp <;> omega) | fail) [facts, e0, e1, e2, e6, e34, e35, e36, hjI, hlast]
        refine ⟨_, Heap.le_refl _, ⟨j + 1, _, by omega, by simp [e0], by simp [e1], by simp [e2], by simp [e6], by simp [e34], by simp [e35], by simp, own2, by rw [hnext _ hstep]; exact hd1⟩, by simp [intOf, e36]; omega⟩
  · have hje : j = d.wait.length := by omega
    subst hje
    have hlk : kj.length = d.kept.length := by rw [← hkj, crashW_len]
    have hkl1 : (rowsC Sec.cells kj).length = d.kept.length * 64 := by rw [rowsC_len sec64, hlk]
    have hnl1 : (rowsC Sec.cells d.now).length = d.now.length * 64 := rowsC_len sec64 _
    have hsame := hd.same
    simp (disch := first | omega | assumption | decide | (simp <;> omega) | fail) [facts, e0, e1, e2, e6, e34, e35, e36]
    refine w_plan (P := Try.prog) (by simp [facts]) (opsP [0,1,2,3,4,5,6,7,8] .done) ?_ ?_
    · decide +kernel
    simp (disch := first | omega | assumption | decide | (simp <;> omega) | fail) [facts, e0, hp]
    refine copy_own (e := 58) (s := 64) (n := kj.length) (ys := rowsC Sec.cells kj) (by simp [facts]) (by simp [facts]) (src_sl (e1 := 58) (z := .agg (rep 64 (.int .u8 0)).toArray) (by simp [facts]) (by simp [facts]) (by simp [facts]) (hd1.keptSl own1.le)) (by simp [facts]) (by intro k z e; cases e) (by rw [hkl1, hlk]) (rowsC_one sec1 _) (own1.le _ _ hd1.now) (Nat.le_refl _) (by simp only [hnl1]; omega) ?_
    rw [Nat.sub_self, hlk, hsame, Nat.min_self, ← hkl1, List.take_length, splice_all (by rw [hkl1, hnl1, hsame])]
    have own3 := own1.set hd1.now (.row true ow (rowsC Sec.cells kj) rw')
    have hd3 := hd1.setNow kj (by rw [hlk]; exact hsame.symm)
    have hp3 := own3.le _ _ hd3.row
    simp (disch := first | omega | assumption | decide | (simp <;> omega) | fail) [facts, e0, hp3, upd_upd]
    have hres : reopenZ d ks torn = ⟨kj, kj, [], -1, false⟩ := by unfold reopenZ; simp only [hkj]
    rw [hres]
    exact ⟨_, Heap.le_refl _, _, own3.set hd3.row _, _, _, _, _, _, _, _, _, _, hd3.noWait (by omega)⟩
end
end Go.Proofs.Ytobkfpohdknggaa.GL
