/- Layer 3: the document's disk: opened again. -/
import Derived.Test.YtobkfpohdknggaaDiK
namespace Go.Proofs.Ytobkfpohdknggaa.GL
open Go Go.RowKit
set_option maxRecDepth 10000
set_option pp.deepTerms.threshold 8
set_option pp.maxSteps 3000
set_option linter.unusedSimpArgs false
set_option linter.unusedVariables false

theorem lastZ_ne {ks : List Bool} {j : Nat} (h : ks.getD j false = true) : ∀ m, lastZ ks m ≠ (j : Int)
  | 0 => by show (-1 : Int) ≠ j; omega
  | m + 1 => by
    show (if ks.getD m false = true then lastZ ks m else (m : Int)) ≠ j
    by_cases hm : ks.getD m false = true
    · rw [if_pos hm]; exact lastZ_ne h m
    · rw [if_neg hm]
      intro e
      have : m = j := by omega
      subst this
      exact hm h
def rreopenZ (r : RZ) (ks : List Bool) (torn : Int) : RZ := ⟨crashW ks (lastZ ks r.wait.length) (tornN torn) r.wait r.S r.wait.length, [], 0, false⟩
section
variable {H R : Heap} {p : Nat} {r : RZ}
def rre1Inv (G : Heap) (p : Nat) (a : Option Addr) (n c : Nat) (ks : List Bool) (len : Nat) (torn : Int) (s : St) : Prop :=
  ∃ j : Nat, j ≤ len ∧ s.heap = G ∧ s.env 0 = .pointer (some ⟨p, 0, none⟩) ∧ s.env 1 = .slice a n c ∧ s.env 2 = .int .i64 torn ∧ s.env 6 = .int .i64 (lastZ ks j) ∧ s.env 7 = .int .i64 j
def rre2Inv (H0 R0 : Heap) (p : Nat) (a : Option Addr) (n c : Nat) (ks : List Bool) (torn : Int) (r : RZ) (k ok ck rk : Nat) (qv : Value) (s : St) : Prop :=
  ∃ (j : Nat) (R1 : Heap), j ≤ r.wait.length ∧ s.env 0 = .pointer (some ⟨p, 0, none⟩) ∧ s.env 1 = .slice a n c ∧ s.env 2 = .int .i64 torn ∧ s.env 6 = .int .i64 (lastZ ks r.wait.length) ∧ s.env 8 = .int .i64 j ∧ Own H0 R0 s.heap R1 ∧ RefAt R1 p { r with S := crashW ks (lastZ ks r.wait.length) (tornN torn) r.wait r.S j } k ok ck rk qv
set_option maxHeartbeats 2000000 in
theorem refReopen_c {F : Heap} (hR : Heap.le R H) (h : Ref R p r) (hF : Heap.le F H) (hoff : Off F R) {a : Option Addr} {n c : Nat} {ks : List Bool} (hb : BoA F a n ks) (torn : Int) (hn : n ≤ 1000000) (hw : r.wait.length ≤ 1000000) :
    ECalls Try.prog 20 #[.pointer (some ⟨p, 0, none⟩), .slice a n c, .int .i64 torn] H fun _ H' => ∃ R', Own H R H' R' ∧ Ref R' p (rreopenZ r ks torn) := by
  refine ecalls_of_ewp (args := [_, _, _]) Try.func20 rfl rfl rfl (by simp [Try.ntmps20]) (by kernel_rfl) ?_
  obtain ⟨k, ok, ck, rk, qv, hd⟩ := h
  have hp := hR _ _ hd.row
  have hkl := hb.len
  obtain ⟨aq, cq, rfl, hsq, hcq⟩ := hd.wait.sl hR
  simp (disch := first | omega | assumption | decide | (simp <;> omega) | fail) [facts, ]
  refine w_loop (rre1Inv H p a n c ks r.wait.length torn) (fun s => r.wait.length - (intOf (s.env 7)).toNat) ?_ ?_
  · exact ⟨0, Nat.zero_le _, rfl, by simp, by simp, by simp, by simp [lastZ], by simp⟩
  rintro ⟨env, G⟩ ⟨j, hj, hG, e0, e1, e2, e6, e7⟩
  simp only at hG e0 e1 e2 e6 e7
  subst hG
  by_cases hlt : j < r.wait.length
  · have hltI : (j : Int) < (r.wait.length : Int) := by omega
    by_cases hjn : j < n
    · have hjI : (j : Int) < (n : Int) := by omega
      have hjI2 : ¬ (n : Int) ≤ (j : Int) := by omega
      have hsb := (hb.sl (by omega)).le hF
      obtain ⟨bk, bo, rfl⟩ := hsb.lit (by omega)
      have rb := hsb.at (getD_lt hkl hjn)
      rw [at1_lit] at rb
      cases hkb : ks.getD j false with
      | true =>
        rw [hkb] at rb
        have hl : lastZ ks (j + 1) = lastZ ks j := by show (if ks.getD j false = true then lastZ ks j else (j : Int)) = _; rw [if_pos hkb]
        simp (disch := first | omega | assumption | decide | (simp <;> omega) | fail) [facts, e0, e1, e2, e6, e7, hp, hltI, hjI, hjI2, rb]
        exact ⟨_, Heap.le_refl _, ⟨j + 1, by omega, rfl, by simp [e0], by simp [e1], by simp [e2], by simp [e6, hl], by simp⟩, by simp [intOf, e7]; omega⟩
      | false =>
        rw [hkb] at rb
        have hl : lastZ ks (j + 1) = j := by show (if ks.getD j false = true then lastZ ks j else (j : Int)) = _; rw [if_neg (by rw [hkb]; decide)]
        simp (disch := first | omega | assumption | decide | (simp <;> omega) | fail) [facts, e0, e1, e2, e6, e7, hp, hltI, hjI, hjI2, rb]
        exact ⟨_, Heap.le_refl _, ⟨j + 1, by omega, rfl, by simp [e0], by simp [e1], by simp [e2], by simp [hl], by simp⟩, by simp [intOf, e7]; omega⟩
    · have hjI : (n : Int) ≤ (j : Int) := by omega
      have hl : lastZ ks (j + 1) = j := by show (if ks.getD j false = true then lastZ ks j else (j : Int)) = _; rw [if_neg (by rw [getD_ge hkl hjn]; decide)]
      simp (disch := first | omega | assumption | decide | (simp <;> omega) | fail) [facts, e0, e1, e2, e6, e7, hp, hltI, hjI]
      exact ⟨_, Heap.le_refl _, ⟨j + 1, by omega, rfl, by simp [e0], by simp [e1], by simp [e2], by simp [hl], by simp⟩, by simp [intOf, e7]; omega⟩
  have hje : j = r.wait.length := by omega
  subst hje
  simp (disch := first | omega | assumption | decide | (simp <;> omega) | fail) [facts, e0, e1, e2, e6, e7, hp]
  refine w_loop (rre2Inv G R p a n c ks torn r k ok ck rk (.slice aq r.wait.length cq)) (fun s => r.wait.length - (intOf (s.env 8)).toNat) ?_ ?_
  · exact ⟨0, R, Nat.zero_le _, by simp [e0], by simp [e1], by simp [e2], by simp [e6], by simp, Own.refl hR, hd⟩
  clear hp hsq hcq e0 e1 e2 e6 e7 hlt hj
  rintro ⟨env, G2⟩ ⟨j, R1, hj, e0, e1, e2, e6, e8, own1, hd1⟩
  simp only at e0 e1 e2 e6 e8 own1
  obtain ⟨hF1, hoff1⟩ := own1.frame hF hoff
  have hp := own1.le _ _ hd1.row
  generalize hkj : crashW ks (lastZ ks r.wait.length) (tornN torn) r.wait r.S j = kj at hd1 hp
  simp only at hp
  by_cases hlt : j < r.wait.length
  · have hltI : (j : Int) < (r.wait.length : Int) := by omega
    obtain ⟨x, hx⟩ : ∃ x, r.wait[j]? = some x := ⟨_, List.getElem?_eq_getElem hlt⟩
    obtain ⟨aq', cq', e, hsq, _⟩ := hd1.wait.sl own1.le
    simp only [Value.slice.injEq] at e
    obtain ⟨rfl, _, rfl⟩ := e
    simp only at hsq
    obtain ⟨q, o, rfl⟩ := hsq.lit (by omega)
    have rx := hsq.el wr65 hx (j := 0) (r := 65) (by decide) (by decide)
    rw [List.drop_zero, wr_take, Nat.add_zero] at rx
    simp (disch := first | omega | assumption | decide | (simp <;> omega) | fail) [facts, e0, e1, e2, e6, e8, hp, hltI, rx]
    refine fresh_intro fun b hb9 => ?_
    simp (disch := first | omega | assumption | decide | (simp <;> omega) | fail) [facts, splice_all, rep_drop, upd_upd]
    have l5 : upd G2 b (.row true 0 x.cells 0) b = some (.row true 0 (.int .i64 x.n :: x.s.cells) 0) := upd_same G2 b (.row true 0 x.cells 0)
    have own2 := own1.grow (le_upd (.row true 0 x.cells 0) hb9)
    have hF2 := Heap.le_trans hF1 (le_upd (.row true 0 x.cells 0) hb9)
    generalize upd G2 b (.row true 0 x.cells 0) = G3 at *
    have hp2 := own2.le _ _ hd1.row
    have hk2 := own2.le _ _ hd1.kept
    have hnext : ∀ ks', stepW ks (lastZ ks r.wait.length) (tornN torn) j kj x = ks' → crashW ks (lastZ ks r.wait.length) (tornN torn) r.wait r.S (j + 1) = ks' := fun ks' e => by
      unfold crashW; rw [hx, hkj]; exact e
    have hxn : x.n < kj.length := hd1.inn x (List.mem_of_getElem? hx)
    have hxI : (x.n : Int) < (kj.length : Int) := by omega
    have hlk : (rowsC Sec.cells kj).length = kj.length * 64 := rowsC_len sec64 _
    have hfit : x.n * 64 + 64 ≤ kj.length * 64 := by omega
    have ht : min (max torn 0) 64 = (tornN torn : Int) := by unfold tornN; omega
    have ht64 : tornN torn ≤ 64 := by unfold tornN; omega
    have hsx : SlA G3 (some ⟨b, 1, none⟩) 64 1 (x.s.b.map u8V) := SlA.row l5 (Nat.zero_le _) (by simp [x.s.len]) (by simp) (by simp [Sec.cells]; rw [List.take_of_length_le (by simp [x.s.len])])
    by_cases hkb : ks.getD j false = true
    · have hjn : j < n := by
        rcases Nat.lt_or_ge j n with h0 | h0
        · exact h0
        · rw [getD_ge hkl (by omega)] at hkb; cases hkb
      have hjI : (j : Int) < (n : Int) := by omega
      have hlast : ¬ (j : Int) = lastZ ks r.wait.length := fun e => lastZ_ne hkb _ e.symm
      have hsb := (hb.sl (by omega)).le hF2
      obtain ⟨bk, bo, rfl⟩ := hsb.lit (by omega)
      have rb := hsb.at (getD_lt hkl hjn)
      rw [at1_lit, hkb] at rb
      have hstep : stepW ks (lastZ ks r.wait.length) (tornN torn) j kj x = kj.set x.n x.s := by unfold stepW; rw [if_pos hkb]
      simp (disch := first | omega | assumption | decide | (simp <;> omega) | fail) [facts, e0, e1, e2, e6, e8, hjI, rb]
      refine w_plan (P := Try.prog) (by simp [facts]) (opsP [0,1,2,3,4,5,6,7,8,9] .done) ?_ ?_
      · decide +kernel
      simp (disch := first | omega | assumption | decide | (simp <;> omega) | fail) [facts, e0, e1, e2, e6, e8, hp2, l5, sec_take, hxI, hk2, rowsC_set sec64, hlast]
      refine ⟨_, Heap.le_refl _, ⟨j + 1, _, by omega, by simp [e0], by simp [e1], by simp [e2], by simp [e6], by simp, own2.set hd1.kept _, by rw [hnext _ hstep]; exact hd1.setS _ (by simp)⟩, by simp [intOf, e8]; omega⟩
    have hkf : ks.getD j false = false := by simpa using hkb
    by_cases hlast : (j : Int) = lastZ ks r.wait.length
    · obtain ⟨old, hold⟩ : ∃ old, kj[x.n]? = some old := ⟨_, List.getElem?_eq_getElem hxn⟩
      have hgd : kj.getD x.n (secOf []) = old := by simp [List.getD, hold]
      have hstep : stepW ks (lastZ ks r.wait.length) (tornN torn) j kj x = kj.set x.n (tornS old x.s (tornN torn)) := by unfold stepW; rw [if_neg hkb, if_pos hlast, hgd]
      have hpart : splice (rowsC Sec.cells kj) (x.n * 64) ((x.s.b.map u8V).take (tornN torn)) = rowsC Sec.cells (kj.set x.n (tornS old x.s (tornN torn))) := by
        have := rowsC_part sec64 (j := 0) (ys := x.s.cells.take (tornN torn)) hold (by rw [List.length_take]; simp; omega) (torn_cells old x.s (tornN torn) ht64)
        rw [Nat.add_zero] at this
        exact this
      by_cases hjn : j < n
      · have hjI : (j : Int) < (n : Int) := by omega
        have hsb := (hb.sl (by omega)).le hF2
        obtain ⟨bk, bo, rfl⟩ := hsb.lit (by omega)
        have rb := hsb.at (getD_lt hkl hjn)
        rw [at1_lit, hkf] at rb
        simp (disch := first | omega | assumption | decide | (simp <;> omega) | fail) [facts, e0, e1, e2, e6, e8, hjI, rb, ← hlast]
        refine w_plan (P := Try.prog) (by simp [facts]) (opsP [0,1,2,4,7,8,9,11,12] (.both (opsP [3,5,6,10,13] .done) (opsP [5,3,6,10,13] .done))) ?_ ?_
        · decide +kernel
        simp (disch := first | omega | assumption | decide | (simp <;> omega) | fail) [facts, e0, e1, e2, e6, e8, hp2, l5, hxI, ht]
        constructor
        all_goals
          refine copy_own (e := 5) (s := 1) (n := 64) (ys := x.s.b.map u8V) (by simp [facts]) (by simp [facts]) (src_sl (e1 := 5) (z := .int .u8 0) (by simp [facts]) (by simp [facts]) (by simp [facts]) hsx) (by simp [facts]) (by intro k z e; cases e) (by simp [x.s.len]) (all_u8 _) hk2 (Nat.le_add_right _ _) (by rw [Nat.add_sub_cancel_left, hlk]; omega) ?_
          rw [Nat.add_sub_cancel_left, Nat.mul_one, Nat.min_eq_right ht64]
          rw [hpart]
          simp (disch := first | omega | assumption | decide | (simp <;> omega) | fail) [facts, e0, e1, e2, e6, e8]
          refine ⟨_, Heap.le_refl _, ⟨j + 1, _, by omega, by simp [e0], by simp [e1], by simp [e2], by simp [e6], by simp, own2.set hd1.kept _, by rw [hnext _ hstep]; exact hd1.setS _ (by simp)⟩, by simp [intOf, e8]; omega⟩
      · have hjI : ¬ (j : Int) < (n : Int) := by omega
        simp (disch := first | omega | assumption | decide | (simp <;> omega) | fail) [facts, e0, e1, e2, e6, e8, hjI, ← hlast]
        refine w_plan (P := Try.prog) (by simp [facts]) (opsP [0,1,2,4,7,8,9,11,12] (.both (opsP [3,5,6,10,13] .done) (opsP [5,3,6,10,13] .done))) ?_ ?_
        · decide +kernel
        simp (disch := first | omega | assumption | decide | (simp <;> omega) | fail) [facts, e0, e1, e2, e6, e8, hp2, l5, hxI, ht]
        constructor
        all_goals
          refine copy_own (e := 5) (s := 1) (n := 64) (ys := x.s.b.map u8V) (by simp [facts]) (by simp [facts]) (src_sl (e1 := 5) (z := .int .u8 0) (by simp [facts]) (by simp [facts]) (by simp [facts]) hsx) (by simp [facts]) (by intro k z e; cases e) (by simp [x.s.len]) (all_u8 _) hk2 (Nat.le_add_right _ _) (by rw [Nat.add_sub_cancel_left, hlk]; omega) ?_
          rw [Nat.add_sub_cancel_left, Nat.mul_one, Nat.min_eq_right ht64]
          rw [hpart]
          simp (disch := first | omega | assumption | decide | (simp <;> omega) | fail) [facts, e0, e1, e2, e6, e8]
          refine ⟨_, Heap.le_refl _, ⟨j + 1, _, by omega, by simp [e0], by simp [e1], by simp [e2], by simp [e6], by simp, own2.set hd1.kept _, by rw [hnext _ hstep]; exact hd1.setS _ (by simp)⟩, by simp [intOf, e8]; omega⟩
    · have hstep : stepW ks (lastZ ks r.wait.length) (tornN torn) j kj x = kj := by unfold stepW; rw [if_neg hkb, if_neg hlast]
      by_cases hjn : j < n
      · have hjI : (j : Int) < (n : Int) := by omega
        have hsb := (hb.sl (by omega)).le hF2
        obtain ⟨bk, bo, rfl⟩ := hsb.lit (by omega)
        have rb := hsb.at (getD_lt hkl hjn)
        rw [at1_lit, hkf] at rb
        simp (disch := first | omega | assumption | decide | (simp <;> omega) | fail) [facts, e0, e1, e2, e6, e8, hjI, rb, hlast]
        refine ⟨_, Heap.le_refl _, ⟨j + 1, _, by omega, by simp [e0], by simp [e1], by simp [e2], by simp [e6], by simp, own2, by rw [hnext _ hstep]; exact hd1⟩, by simp [intOf, e8]; omega⟩
      · have hjI : ¬ (j : Int) < (n : Int) := by omega
        simp (disch := first | omega | assumption | decide | (simp <;> omega) | fail) [facts, e0, e1, e2, e6, e8, hjI, hlast]
        refine ⟨_, Heap.le_refl _, ⟨j + 1, _, by omega, by simp [e0], by simp [e1], by simp [e2], by simp [e6], by simp, own2, by rw [hnext _ hstep]; exact hd1⟩, by simp [intOf, e8]; omega⟩
  · have hje : j = r.wait.length := by omega
    subst hje
    simp (disch := first | omega | assumption | decide | (simp <;> omega) | fail) [facts, e0, e1, e2, e6, e8, hp, upd_upd]
    have hres : rreopenZ r ks torn = ⟨kj, [], 0, false⟩ := by unfold rreopenZ; rw [hkj]
    rw [hres]
    exact ⟨_, Heap.le_refl _, _, own1.set hd1.row _, _, _, _, _, _, hd1.noWait (by omega)⟩
end
end Go.Proofs.Ytobkfpohdknggaa.GL
