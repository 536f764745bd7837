/- Layer 3: the walk of DiskClones. -/
import Derived.Test.YtobkfpohdknggaaDiF
namespace Go.Proofs.Ytobkfpohdknggaa.GL
open Go Go.RowKit
set_option maxRecDepth 10000
set_option pp.deepTerms.threshold 8
set_option pp.maxSteps 3000
set_option linter.unusedSimpArgs false
set_option linter.unusedVariables false

theorem le_updN {H H1 : Heap} {b : Nat} (o : GObj) (hl : Heap.le H H1) (hb : H b = none) : Heap.le H (upd H1 b o) := fun i p e => by
  rw [upd_ne _ _ (ne_of_fresh hb e)]; exact hl i p e
theorem nw (ks : List Sec) (x : List Sec) : (⟨ks, x, [], -1, false⟩ : DZ).down = false := rfl
set_option maxHeartbeats 2000000 in
theorem diskClones_c (a1 : Option Addr) (n1 c1 : Nat) (bs1 : List UInt8) (a2 : Option Addr) (n2 c2 : Nat) (bs2 : List UInt8) (S : Nat) (a : Option Addr) (n c : Nat) (ks : List Bool) (torn : Int) (H : Heap) (h1 : ByA H a1 n1 bs1) (h2 : ByA H a2 n2 bs2) (hb : BoA H a n ks) (hS : S < 256) :
    ECalls Try.prog 4 #[.slice a1 n1 c1, .slice a2 n2 c2, .int .u8 S, .slice a n c, .int .i64 torn] H fun r _ => r = .bool true := by
  refine ecalls_of_ewp (args := [_, _, _, _, _]) Try.func4 rfl rfl rfl (by simp [Try.ntmps4]) (by kernel_rfl) ?_
  simp (disch := first | omega | assumption | decide | (simp <;> omega) | fail) [facts, ]
  refine (known3_c H).mono ?_
  rintro v H1 ⟨rfl, hle⟩
  by_cases hn1 : (100 : Int) < (n1 : Int)
  · simp (disch := first | omega | assumption | decide | (simp <;> omega) | fail) [facts, hn1]
    exact ⟨_, Heap.le_refl _⟩
  by_cases hn2 : (100 : Int) < (n2 : Int)
  · simp (disch := first | omega | assumption | decide | (simp <;> omega) | fail) [facts, hn1, hn2]
    exact ⟨_, Heap.le_refl _⟩
  by_cases hn : (20 : Int) < (n : Int)
  · simp (disch := first | omega | assumption | decide | (simp <;> omega) | fail) [facts, hn, hn1, hn2]
    exact ⟨_, Heap.le_refl _⟩
  obtain ⟨k, hk⟩ : ∃ k : Nat, (S : Int) % 4 = (k : Int) := ⟨S % 4, by omega⟩
  have hk4 : k < 4 := by omega
  simp (disch := first | omega | assumption | decide | (simp <;> omega) | fail) [facts, hn, hn1, hn2, hk]
  refine (diskNew_c H1 4).mono ?_
  rintro v H2 ⟨p, R1, rfl, ow1, d1⟩
  replace d1 : Dsk R1 p (newZ 4) := d1
  simp (disch := first | omega | assumption | decide | (simp <;> omega) | fail) [facts, hk]
  refine (diskWrite_c ow1.le d1 ow1.all ow1.off k (h1.le hle) (by omega) (by decide)).mono ?_
  rintro v H3 ⟨rfl, R3, ow3, d3⟩
  replace ow3 := ow1.trans ow3
  have hz : outZ (newZ 4) k = 0 := by simp [outZ, newZ]; omega
  rw [show writeE (newZ 4) k = 0 by unfold writeE; rw [hz]; rfl]
  have e3 : writeD (newZ 4) k bs1 = ⟨List.replicate 4 (secOf []), (List.replicate 4 (secOf [])).set k (secOf bs1), [⟨k, secOf bs1⟩], -1, false⟩ := by
    unfold writeD; rw [hz, if_neg (by decide), if_neg (by decide)]; rfl
  rw [e3] at d3
  simp (disch := first | omega | assumption | decide | (simp <;> omega) | fail) [facts, hk]
  refine (diskSync_c ow3.le d3 (by simp)).mono ?_
  rintro v H4 ⟨rfl, R4, ow4, d4⟩
  replace ow4 := ow3.trans ow4
  rw [show syncE ⟨List.replicate 4 (secOf []), (List.replicate 4 (secOf [])).set k (secOf bs1), [⟨k, secOf bs1⟩], -1, false⟩ = 0 from rfl]
  replace d4 : Dsk R4 p ⟨(List.replicate 4 (secOf [])).set k (secOf bs1), (List.replicate 4 (secOf [])).set k (secOf bs1), [], -1, false⟩ := d4
  generalize hL : (List.replicate 4 (secOf [])).set k (secOf bs1) = L at d4
  have hLl : L.length = 4 := by rw [← hL]; simp
  have hLk : L[k]? = some (secOf bs1) := by rw [← hL]; exact List.getElem?_set_self (by simpa using hk4)
  clear hL e3 d3 d1
  simp (disch := first | omega | assumption | decide | (simp <;> omega) | fail) [facts, hk]
  refine (diskClone_c ow4.le d4 (by simp)).mono ?_
  rintro v H5 ⟨p', R5, rfl, ow5, d5⟩
  have hd5 : Off R4 R5 := fun b o e => ow5.off b o (ow4.le _ _ e)
  have own5 := ow4.grow ow5.all
  have hF5 : Heap.le H1 H5 := own5.all
  have hoff5 : Off H1 R5 := fun b o e => ow5.off b o (ow4.all _ _ e)
  simp (disch := first | omega | assumption | decide | (simp <;> omega) | fail) [facts, hk]
  refine (diskWrite_c ow5.le d5 hF5 hoff5 k (h2.le hle) (by omega) (by simp)).mono ?_
  rintro v H6 ⟨rfl, R6, ow6, d6⟩
  obtain ⟨r46, hd6⟩ := ow6.frame own5.le hd5
  obtain ⟨hF6, hoff6⟩ := ow6.frame hF5 hoff5
  have hz2 : outZ ⟨L, L, [], -1, false⟩ k = 0 := by simp [outZ]; omega
  rw [show writeE ⟨L, L, [], -1, false⟩ k = 0 by unfold writeE; rw [hz2]; rfl]
  have e6 : writeD ⟨L, L, [], -1, false⟩ k bs2 = ⟨L, L.set k (secOf bs2), [⟨k, secOf bs2⟩], -1, false⟩ := by
    unfold writeD; rw [hz2, if_neg (by decide), if_neg (by simp [powZ])]; rfl
  rw [e6] at d6
  simp (disch := first | omega | assumption | decide | (simp <;> omega) | fail) [facts, hk]
  refine (diskSync_c ow6.le d6 (by simp)).mono ?_
  rintro v H7 ⟨rfl, R7, ow7, d7⟩
  obtain ⟨r47, hd7⟩ := ow7.frame r46 hd6
  obtain ⟨hF7, hoff7⟩ := ow7.frame hF6 hoff6
  rw [show syncE ⟨L, L.set k (secOf bs2), [⟨k, secOf bs2⟩], -1, false⟩ = 0 from rfl]
  replace d7 : Dsk R7 p' ⟨L.set k (secOf bs2), L.set k (secOf bs2), [], -1, false⟩ := d7
  clear d6 d5 e6
  obtain ⟨k2, hk2⟩ : ∃ k2 : Nat, ((k : Int) + 1) % 4 = (k2 : Int) := ⟨(k + 1) % 4, by omega⟩
  have hk24 : k2 < 4 ∧ k2 ≠ k := by omega
  have hoff47 : Off H1 R4 := ow4.off
  simp (disch := first | omega | assumption | decide | (simp <;> omega) | fail) [facts, hk, hk2]
  refine (diskWrite_c r47 d4 hF7 hoff47 k2 (h2.le hle) (by omega) (by simp)).mono ?_
  rintro v H8 ⟨rfl, R8, ow8, d8⟩
  obtain ⟨r78, hd8⟩ := ow8.frame ow7.le hd7.symm
  obtain ⟨hF8, hoff8⟩ := ow8.frame hF7 hoff47
  have hz3 : outZ ⟨L, L, [], -1, false⟩ k2 = 0 := by simp [outZ]; omega
  have e8 : writeD ⟨L, L, [], -1, false⟩ k2 bs2 = ⟨L, L.set k2 (secOf bs2), [⟨k2, secOf bs2⟩], -1, false⟩ := by
    unfold writeD; rw [hz3, if_neg (by decide), if_neg (by simp [powZ])]; rfl
  rw [e8] at d8
  simp (disch := first | omega | assumption | decide | (simp <;> omega) | fail) [facts, hk]
  refine (diskReopen_c ow8.le d8 hF8 hoff8 (hb.le hle) torn (by omega) (by simp)).mono ?_
  rintro v H9 ⟨R9, ow9, d9⟩
  obtain ⟨r79, hd9⟩ := ow9.frame r78 hd8
  obtain ⟨hF9, hoff9⟩ := ow9.frame hF8 hoff8
  generalize hst : reopenZ ⟨L, L.set k2 (secOf bs2), [⟨k2, secOf bs2⟩], -1, false⟩ ks torn = st at d9
  have hdn : st.down = false := by rw [← hst]; rfl
  have hnow : st.now[k]? = some (secOf bs1) := by
    rw [← hst]
    show (stepW ks (lastZ ks 1) (tornN torn) 0 L ⟨k2, secOf bs2⟩)[k]? = _
    unfold stepW
    split
    · rw [List.getElem?_set_ne hk24.2]; exact hLk
    · split
      · rw [List.getElem?_set_ne hk24.2]; exact hLk
      · exact hLk
  clear hst d8 e8
  simp (disch := first | omega | assumption | decide | (simp <;> omega) | fail) [facts, hk]
  refine fresh_intro fun b1 hb1 => ?_
  simp (disch := first | omega | assumption | decide | (simp <;> omega) | fail) [facts, hk]
  refine fresh_intro fun b2 hb2 => ?_
  simp (disch := first | omega | assumption | decide | (simp <;> omega) | fail) [facts, hk]
  have h12 : b1 ≠ b2 := (ne_of_none hb2 (upd_same _ _ _)).symm
  have hb2' : H9 b2 = none := le_of_none (le_upd _ hb1) hb2
  have hle10 := Heap.le_trans (le_upd (.row true 0 (rep 64 (.int .u8 0)) 0) hb1) (le_upd (.row true 0 (rep 64 (.int .u8 0)) 0) hb2)
  have g1 : upd (upd H9 b1 (.row true 0 (rep 64 (.int .u8 0)) 0)) b2 (.row true 0 (rep 64 (.int .u8 0)) 0) b1 = some (.row true 0 (rep 64 (.int .u8 0)) 0) := by rw [upd_ne _ _ h12, upd_same]
  have g2 := upd_same (upd H9 b1 (.row true 0 (rep 64 (.int .u8 0)) 0)) b2 (.row true 0 (rep 64 (.int .u8 0)) 0)
  generalize upd (upd H9 b1 (.row true 0 (rep 64 (.int .u8 0)) 0)) b2 (.row true 0 (rep 64 (.int .u8 0)) 0) = G at *
  have hl1 := h1.len
  have hl2 := h2.len
  subst hl1 hl2
  refine copy_own (e := 5) (s := 1) (n := bs1.length) (ys := bs1.map u8V) (by simp [facts]) (by simp [facts]) (src_by (e1 := 5) (z := .int .u8 0) (by simp [facts]) (by simp [facts]) (by simp [facts]) (h1.le (Heap.le_trans hle (Heap.le_trans hF9 hle10)))) (by simp [facts]) (by intro k z e; cases e) (by simp) (all_u8 bs1) g1 (Nat.le_refl _) (by simp) ?_
  rw [Nat.sub_self, Nat.mul_one, sec_copy]
  have hle11 := le_updN (.row true 0 (secOf bs1).cells 0) hle10 hb1
  have k1 := upd_same G b1 (.row true 0 (secOf bs1).cells 0)
  have k2 : upd G b1 (.row true 0 (secOf bs1).cells 0) b2 = some (.row true 0 (rep 64 (.int .u8 0)) 0) := by rw [upd_ne _ _ h12.symm]; exact g2
  generalize upd G b1 (.row true 0 (secOf bs1).cells 0) = G1 at *
  simp (disch := first | omega | assumption | decide | (simp <;> omega) | fail) [facts, hk]
  refine copy_own (e := 5) (s := 1) (n := bs2.length) (ys := bs2.map u8V) (by simp [facts]) (by simp [facts]) (src_by (e1 := 5) (z := .int .u8 0) (by simp [facts]) (by simp [facts]) (by simp [facts]) (h2.le (Heap.le_trans hle (Heap.le_trans hF9 hle11)))) (by simp [facts]) (by intro k z e; cases e) (by simp) (all_u8 bs2) k2 (Nat.le_refl _) (by simp) ?_
  rw [Nat.sub_self, Nat.mul_one, sec_copy]
  have hle12 := le_updN (.row true 0 (secOf bs2).cells 0) hle11 hb2'
  have j1 : upd G1 b2 (.row true 0 (secOf bs2).cells 0) b1 = some (.row true 0 (secOf bs1).cells 0) := by rw [upd_ne _ _ h12]; exact k1
  have j2 := upd_same G1 b2 (.row true 0 (secOf bs2).cells 0)
  generalize upd G1 b2 (.row true 0 (secOf bs2).cells 0) = G2 at *
  have hc7 : (⟨L.set k (secOf bs2), L.set k (secOf bs2), [], -1, false⟩ : DZ).now[k]? = some (secOf bs2) := List.getElem?_set_self (by omega)
  simp (disch := first | omega | assumption | decide | (simp <;> omega) | fail) [facts, hk]
  refine (diskRead_in (Heap.le_trans ow9.le hle12) d9 k hdn hnow).mono ?_
  rintro v G3 ⟨hle13, a3, c3, rfl, out1⟩
  obtain ⟨_, _, e, sl1⟩ := out1.sl
  simp only [Value.slice.injEq] at e
  obtain ⟨rfl, _, rfl⟩ := e
  simp (disch := first | omega | assumption | decide | (simp <;> omega) | fail) [facts, hk]
  refine (diskRead_in (Heap.le_trans r79 (Heap.le_trans hle12 hle13)) d7 k rfl hc7).mono ?_
  rintro v G4 ⟨hle14, a4, c4, rfl, out2⟩
  obtain ⟨_, _, e, sl2⟩ := out2.sl
  simp only [Value.slice.injEq] at e
  obtain ⟨rfl, _, rfl⟩ := e
  have i1 := (hle14 _ _ (hle13 _ _ j1))
  have i2 := (hle14 _ _ (hle13 _ _ j2))
  have s1 : SlA G4 (some ⟨b1, 0, none⟩) 64 1 ((secOf bs1).b.map u8V) := SlA.row i1 (Nat.le_refl _) (by simp [(secOf bs1).len]) (by simp) (by rw [Nat.sub_self, List.drop_zero]; exact sec_take _)
  have s2 : SlA G4 (some ⟨b2, 0, none⟩) 64 1 ((secOf bs2).b.map u8V) := SlA.row i2 (Nat.le_refl _) (by simp [(secOf bs2).len]) (by simp) (by rw [Nat.sub_self, List.drop_zero]; exact sec_take _)
  replace sl1 : SlA G4 a3 64 1 ((secOf bs1).b.map u8V) := sl1.le hle14
  replace sl2 : SlA G4 a4 64 1 ((secOf bs2).b.map u8V) := sl2
  simp (disch := first | omega | assumption | decide | (simp <;> omega) | fail) [facts, hk]
  refine w_plan (P := Try.prog) (by simp [facts]) (opsP [0,1,2,3,4,5,6,7,8,9,10,11,12,13,14,15,16,17,18] .done) ?_ ?_
  · decide +kernel
  simp (disch := first | omega | assumption | decide | (simp <;> omega) | fail) [facts, conv_bytes (P := Try.prog) (el := 5) (by simp [facts]) s1, conv_bytes (P := Try.prog) (el := 5) (by simp [facts]) s2, conv_bytes (P := Try.prog) (el := 5) (by simp [facts]) sl1, conv_bytes (P := Try.prog) (el := 5) (by simp [facts]) sl2]
  exact ⟨_, Heap.le_refl _⟩
end Go.Proofs.Ytobkfpohdknggaa.GL
