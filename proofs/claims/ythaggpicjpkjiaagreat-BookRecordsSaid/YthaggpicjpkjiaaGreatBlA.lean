/- Layer 20: lists compared; books compared. -/
import Derived.Test.YthaggpicjpkjiaaGreatBnY
namespace Go.Proofs.YthaggpicjpkjiaaGreat.GL
open Go Go.RowKit
open St (Txn txnL txnV zeroT RightT OkT)
open Ca (S4 flat setV OkS)
set_option maxRecDepth 10000
set_option pp.deepTerms.threshold 8
set_option pp.maxSteps 3000
set_option linter.unusedSimpArgs false
set_option linter.unusedVariables false

theorem txns_c (a b : Option Addr) (n c1 c2 : Nat) (L : List Txn) (H : Heap) (h1 : SlA H a n 11 (rowsC txnL L)) (h2 : SlA H b n 11 (rowsC txnL L)) (hn : n ≤ 1000) :
    ECalls Tryz.prog 43 #[.slice a n c1, .slice b n c2] H fun v H' => v = .bool true ∧ H' = H := by
  refine ecalls_of_ewp (args := [_, _]) Tryz.func43 rfl rfl rfl (by simp [Tryz.ntmps43]) (by kernel_rfl) ?_
  have hl1 := h1.els txn11 (by decide)
  simp (disch := first | omega | assumption | decide | (simp <;> omega) | fail) [facts, ]
  refine w_loop (fun s => ∃ i : Nat, i ≤ n ∧ s.heap = H ∧ s.env 0 = .slice a n c1 ∧ s.env 1 = .slice b n c2 ∧ s.env 5 = .int .i64 i) (fun s => n - (intOf (s.env 5)).toNat) ?_ ?_
  · exact ⟨0, Nat.zero_le _, rfl, by simp, by simp, by simp⟩
  rintro ⟨env, G⟩ ⟨i, hi, hG, e0, e1, e5⟩
  simp only at hG e0 e1 e5
  subst hG
  by_cases hlt : i < n
  · have hltI : (i : Int) < (n : Int) := by omega
    obtain ⟨t, ht⟩ : ∃ t, L[i]? = some t := ⟨_, List.getElem?_eq_getElem (by omega)⟩
    obtain ⟨ba, oa, rfl⟩ := h1.lit (by omega)
    obtain ⟨bb, ob, rfl⟩ := h2.lit (by omega)
    have ra : rdNU (G ba) (oa + i * 11) 11 = some (txnL t) := h1.el txn11 ht (j := 0) (r := 11) (by decide) (by decide)
    have rb : rdNU (G bb) (ob + i * 11) 11 = some (txnL t) := h2.el txn11 ht (j := 0) (r := 11) (by decide) (by decide)
    obtain ⟨te, st, pan, am, sta, n0, n1, n2, n3, gi, ow⟩ := t
    simp only [txnL] at ra rb
    simp (disch := first | omega | assumption | decide | (simp <;> omega) | fail) [facts, e0, e1, e5, hltI]
    refine w_plan (P := Tryz.prog) (by simp [facts]) (opsP [0,1,2,3,4,5,6,7,8] .done) ?_ ?_
    · decide +kernel
    simp (disch := first | omega | assumption | decide | (simp <;> omega) | fail) [facts, e0, e1, e5, hltI, ra, rb]
    exact ⟨_, Heap.le_refl _, ⟨i + 1, by omega, rfl, by simp [e0], by simp [e1], by simp⟩, by simp [intOf, e5]; omega⟩
  · have hltI : ¬ (i : Int) < (n : Int) := by omega
    simp (disch := first | omega | assumption | decide | (simp <;> omega) | fail) [facts, e0, e1, e5, hltI]
/-- A book and the reference's, of the same plain book, beside each other. -/
structure Two20 (F A B H : Heap) (p m : Nat) (fv tv : Value) (M : List Txn) (q : Nat) (tv2 lv : Value) (W : List Tp) (b : Bz) : Prop where
  t : TwoO F A B H
  bk : BookR A p fv tv m M b.T
  rf : RefR B q tv2 lv W b.L
  pm : M.Perm b.L
  tm : tmsOf W = b.T
  ok : BOk b
def sameInv (F A B : Heap) (p q : Nat) (s : St) : Prop :=
  ∃ i : Nat, i ≤ 4 ∧ s.env 0 = .pointer (some ⟨p, 0, none⟩) ∧ s.env 1 = .pointer (some ⟨q, 0, none⟩) ∧ s.env 5 = .int .u16 i ∧ TwoO F A B s.heap
set_option maxHeartbeats 1600000 in
theorem same20_c {F A B H : Heap} {p m : Nat} {fv tv : Value} {M : List Txn} {q : Nat} {tv2 lv : Value} {W : List Tp} {b : Bz} (h : Two20 F A B H p m fv tv M q tv2 lv W b) :
    ECalls Tryz.prog 13 #[.pointer (some ⟨p, 0, none⟩), .pointer (some ⟨q, 0, none⟩)] H fun v H' => v = .bool true ∧ TwoO F A B H' := by
  refine ecalls_of_ewp (args := [_, _]) Tryz.func13 rfl rfl rfl (by simp [Tryz.ntmps13]) (by kernel_rfl) ?_
  obtain ⟨t0, hB, hR, hp, hW, hok⟩ := h
  have hL4 := hok.len
  have hT8 := hok.few
  have hWl : W.length = b.T.length := by rw [← hW]; exact (List.length_map ..).symm
  have hrow := hR.row
  simp (disch := first | omega | assumption | decide | (simp <;> omega) | fail) [facts, ]
  obtain ⟨I, hI⟩ : ∃ I : St → Prop, I = (fun s => s.env 0 = .pointer (some ⟨p, 0, none⟩) ∧ s.env 1 = .pointer (some ⟨q, 0, none⟩) ∧ s.env 17 = .bool false ∧ TwoO F A B s.heap) := ⟨_, rfl⟩
  refine w_cut I ?_ ?_
  · refine w_plan (P := Tryz.prog) (by simp [facts]) (opsP [0,2,3,4] (.both (opsP [1,5,6,7] .done) (opsP [5,1,6,7] .done))) ?_ ?_
    · decide +kernel
    have hr0 := t0.ble _ _ hrow
    simp (disch := first | omega | assumption | decide | (simp <;> omega) | fail) [facts, hr0]
    repeat' apply And.intro
    all_goals
      refine (all_c H p fv tv m M b.L b.T (hB.le t0.ale) hp hok.ord (by omega)).mono ?_
      rintro v H1 ⟨U, ow, hl⟩
      have t1 := t0.grow ow.all
      obtain ⟨a1, c1, rfl, hs1, _⟩ := hl.sl ow.le
      obtain ⟨a2, c2, rfl, hs2, _⟩ := hR.lst.sl t1.ble
      have hr1 := t1.ble _ _ hrow
      simp (disch := first | omega | assumption | decide | (simp <;> omega) | fail) [facts, hr1]
      refine (txns_c a1 a2 b.L.length c1 c2 b.L H1 hs1 hs2 (by omega)).mono ?_
      rintro v H2 ⟨rfl, rfl⟩
      simp (disch := first | omega | assumption | decide | (simp <;> omega) | fail) [facts, ]
      subst hI
      exact ⟨by simp, by simp, by simp, t1⟩
  rintro ⟨env, G⟩ hII
  subst hI
  obtain ⟨e0, e1, e17, tG⟩ := hII
  simp only at e0 e1 e17 tG
  simp (disch := first | omega | assumption | decide | (simp <;> omega) | fail) [facts, e17]
  refine w_loop (sameInv F A B p q) (fun st => 4 - (intOf (st.env 5)).toNat) ?_ ?_
  · exact ⟨0, by decide, by simp [e0], by simp [e1], by simp, tG⟩
  clear e0 e1 e17 tG
  rintro ⟨env, G⟩ ⟨i, hi, e0, e1, e5, t1⟩
  simp only at e0 e1 e5 t1
  by_cases hlt : i < 4
  · have hltI : (i : Int) < 4 := by omega
    have c1 := cassettes_c G p fv tv m M b.T (hB.le t1.ale) i (by omega) hT8
    obtain ⟨sz, hsz⟩ : ∃ sz, cassZ b.T i = .tuple #[.agg (flat sz).toArray, .bool (decide (i < b.T.length))] := ⟨_, rfl⟩
    rw [hsz] at c1
    have sl16 := flat16 sz
    have sl1 := flat1 sz
    have j16 : List.take 16 (flat sz) = flat sz := rfl
    have hspl : splice [.int .i64 0, .int .i64 0, .int .i64 0, .int .i64 0, .int .i64 0, .int .i64 0, .int .i64 0, .int .i64 0, .int .i64 0, .int .i64 0, .int .i64 0, .int .i64 0, .int .i64 0, .int .i64 0, .int .i64 0, .int .i64 0] 0 (flat sz) = flat sz := splice_all rfl
    simp (disch := first | omega | assumption | decide | (simp <;> omega) | fail) [facts, e0, e1, e5, hltI]
    refine c1.mono ?_
    rintro v G1 ⟨rfl, hle1⟩
    have t2 := t1.grow hle1
    simp (disch := first | omega | assumption | decide | (simp <;> omega) | fail) [facts, ]
    refine fresh_intro fun b6 hb6 => ?_
    have t3 := t2.grow (le_upd (.row true 0 (flat sz) 0) hb6)
    have r6 := upd_same G1 b6 (.row true 0 (flat sz) 0)
    simp (disch := first | omega | assumption | decide | (simp <;> omega) | fail) [facts, upd_upd, hspl]
    generalize upd G1 b6 _ = G2 at *
    have c2 := rcassettes_c G2 q tv2 lv W b.L (hR.le t3.ble) i (by omega) (by omega)
    rw [hW, hsz] at c2
    simp (disch := first | omega | assumption | decide | (simp <;> omega) | fail) [facts, e1, e5]
    refine c2.mono ?_
    rintro v G3 ⟨rfl, hle3⟩
    have t4 := t3.grow hle3
    replace r6 := hle3 _ _ r6
    simp (disch := first | omega | assumption | decide | (simp <;> omega) | fail) [facts, ]
    refine fresh_intro fun b8 hb8 => ?_
    have t5 := t4.grow (le_upd (.row true 0 (flat sz) 0) hb8)
    have r8 := upd_same G3 b8 (.row true 0 (flat sz) 0)
    replace r6 := upd_other (o := .row true 0 (flat sz) 0) hb8 r6
    simp (disch := first | omega | assumption | decide | (simp <;> omega) | fail) [facts, upd_upd, hspl]
    generalize upd G3 b8 _ = G4 at *
    have o2 := rout_c G4 q tv2 lv W b.L (hR.le t5.ble) i (by omega) (by omega)
    have l2 := rloads_c G4 q tv2 lv W b.L (hR.le t5.ble) i (by omega) (by omega)
    rw [hW] at o2 l2
    obtain ⟨ov, o1, o2⟩ : ∃ ov : Bool, (ECalls Tryz.prog 18 #[.pointer (some ⟨p, 0, none⟩), .int .u16 i] G4 fun v H' => v = .bool ov ∧ H' = G4) ∧ (ECalls Tryz.prog 45 #[.pointer (some ⟨q, 0, none⟩), .int .u16 i] G4 fun v H' => v = .bool ov ∧ H' = G4) :=
      ⟨_, out_c G4 p fv tv m M b.T (hB.le t5.ale) i (by omega) hT8, o2⟩
    obtain ⟨lz, l1, l2⟩ : ∃ lz : Int, (ECalls Tryz.prog 19 #[.pointer (some ⟨p, 0, none⟩), .int .u16 i] G4 fun v H' => v = .int .i64 lz ∧ H' = G4) ∧ (ECalls Tryz.prog 46 #[.pointer (some ⟨q, 0, none⟩), .int .u16 i] G4 fun v H' => v = .int .i64 lz ∧ H' = G4) :=
      ⟨_, loads_c G4 p fv tv m M b.T (hB.le t5.ale) i (by omega) hT8, l2⟩
    have p1 := bopen_c G4 p fv tv m M b.L b.T (hB.le t5.ale) hp hok.ord (by omega) i
    have heq : eqCells [.int, .int, .int, .int, .int, .int, .int, .int, .int, .int, .int, .int, .int, .int, .int, .int] (flat sz) (flat sz) = some true := by
      unfold flat
      simp [eqC_int, eqC_nil]
    obtain ⟨bz, hbz⟩ : ∃ bz, bz = decide (i < b.T.length) := ⟨_, rfl⟩
    rw [← hbz]
    simp (disch := first | omega | assumption | decide | (simp <;> omega) | fail) [facts, e0, e1, e5, r6, r8, j16, heq]
    refine o1.mono ?_
    rintro v H1 ⟨rfl, rfl⟩
    simp (disch := first | omega | assumption | decide | (simp <;> omega) | fail) [facts, e0, e1, e5]
    refine o2.mono ?_
    rintro v H1 ⟨rfl, rfl⟩
    simp (disch := first | omega | assumption | decide | (simp <;> omega) | fail) [facts, e0, e1, e5]
    refine l1.mono ?_
    rintro v H1 ⟨rfl, rfl⟩
    simp (disch := first | omega | assumption | decide | (simp <;> omega) | fail) [facts, e0, e1, e5]
    refine l2.mono ?_
    rintro v H1 ⟨rfl, rfl⟩
    simp (disch := first | omega | assumption | decide | (simp <;> omega) | fail) [facts, e0, e1, e5]
    refine p1.mono ?_
    rintro v H5 ⟨U, owU, lU⟩
    have t6 := t5.grow owU.all
    obtain ⟨a1, d1, rfl, s1, _⟩ := lU.sl owU.le
    have p2 := ropen_c H5 q tv2 lv W b.L (hR.le t6.ble) (by omega) i
    simp (disch := first | omega | assumption | decide | (simp <;> omega) | fail) [facts, e0, e1, e5]
    refine p2.mono ?_
    rintro v H6 ⟨U2, owU2, lU2⟩
    have t7 := t6.grow owU2.all
    obtain ⟨a2, d2, rfl, s2, _⟩ := lU2.sl owU2.le
    have hfl : (b.L.filter (keepB i)).length ≤ 1000 := Nat.le_trans (List.length_filter_le _ _) (by omega)
    simp (disch := first | omega | assumption | decide | (simp <;> omega) | fail) [facts, e0, e1, e5]
    refine (txns_c a1 a2 _ d1 d2 (b.L.filter (keepB i)) H6 (s1.le owU2.all) s2 hfl).mono ?_
    rintro v H7 ⟨rfl, rfl⟩
    simp (disch := first | omega | assumption | decide | (simp <;> omega) | fail) [facts, e0, e1, e5]
    exact ⟨_, Heap.le_refl _, ⟨i + 1, by omega, by simp [e0], by simp [e1], by simp, t7⟩, by simp [intOf, e5]; omega⟩
  · have hi4 : i = 4 := by omega
    subst hi4
    simp (disch := first | omega | assumption | decide | (simp <;> omega) | fail) [facts, e5]
    exact ⟨_, Heap.le_refl _, t1⟩
end Go.Proofs.YthaggpicjpkjiaaGreat.GL
