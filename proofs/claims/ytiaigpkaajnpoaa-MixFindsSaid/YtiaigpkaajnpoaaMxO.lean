/- Layer 17: the law that both find alike, walked. -/
import Derived.Test.YtiaigpkaajnpoaaMxN
namespace Go.Proofs.Ytiaigpkaajnpoaa.GL
open Go Go.RowKit
set_option maxRecDepth 10000
set_option pp.deepTerms.threshold 8
set_option pp.maxSteps 3000
set_option linter.unusedSimpArgs false
set_option linter.unusedVariables false

theorem splice_two {z F0 F1 : List Value} (hz : z.length = 16) (h0 : F0.length = 16) (h1 : F1.length = 16) : splice (splice (zeros z 2) 0 F0) 16 F1 = F0 ++ F1 := by
  have hl : (zeros z 2).length = 32 := by simp [zeros, List.replicate_succ, hz]
  unfold splice
  simp [h0, h1, hl]
  try rw [List.take_append_of_le_length (by omega), List.take_of_length_le (by omega)]
  try rw [List.drop_eq_nil_of_le (by simp; omega)]
  try simp
theorem flat_mk (d0 l0 g0 r0 d1 l1 g1 r1 d2 l2 g2 r2 d3 l3 g3 r3 : Int) : (some (.row true 0 [.int .i64 d0, .int .i64 l0, .int .i64 g0, .int .i64 r0, .int .i64 d1, .int .i64 l1, .int .i64 g1, .int .i64 r1, .int .i64 d2, .int .i64 l2, .int .i64 g2, .int .i64 r2, .int .i64 d3, .int .i64 l3, .int .i64 g3, .int .i64 r3] 0) : Option GObj) = some (.row true 0 (flat ⟨⟨d0, l0, g0, r0⟩, ⟨d1, l1, g1, r1⟩, ⟨d2, l2, g2, r2⟩, ⟨d3, l3, g3, r3⟩⟩) 0) := rfl
def Den (s : S4) : Prop := i64In s.a.d ∧ i64In s.b.d ∧ i64In s.c.d ∧ i64In s.e.d
theorem tdiv7 (z : Int) (h : i64In z) : i64In (z.tdiv 7) := by
  unfold i64In at *
  rcases Int.lt_or_le z 0 with hz | hz
  · have : z.tdiv 7 = -((-z) / 7) := by
      rw [← Int.neg_neg z, Int.neg_tdiv, Int.tdiv_eq_ediv_of_nonneg (by omega)]
      simp
    omega
  · rw [Int.tdiv_eq_ediv_of_nonneg hz]; omega
def fi0 (H : Heap) (a w : Int) (z0 z1 z2 z3 : Int) (s0 : S4) (b5 b7 b11 : Nat) (st : St) : Prop :=
  ∃ (i : Nat) (s1 : S4), i ≤ 4 ∧ Den s1 ∧ st.env 3 = .int .i64 a ∧ st.env 4 = .int .u16 w ∧ st.env 5 = .pointer (some ⟨b5, 0, none⟩) ∧ st.env 7 = .pointer (some ⟨b7, 0, none⟩) ∧ st.env 11 = .pointer (some ⟨b11, 0, none⟩) ∧ st.env 12 = .int .i64 i ∧ Heap.le H st.heap ∧
    st.heap b5 = some (.row true 0 (flat s0) 0) ∧ st.heap b7 = some (.row true 0 [.int .i64 z0, .int .i64 z1, .int .i64 z2, .int .i64 z3] 0) ∧ st.heap b11 = some (.row true 0 (flat s1) 0)
def fi1 (H : Heap) (a w : Int) (z0 z1 z2 z3 : Int) (F : List Value) (b7 bS : Nat) (st : St) : Prop :=
  ∃ j : Nat, j ≤ 2 ∧ st.env 3 = .int .i64 a ∧ st.env 4 = .int .u16 w ∧ st.env 7 = .pointer (some ⟨b7, 0, none⟩) ∧ st.env 51 = .slice (some ⟨bS, 0, none⟩) 2 2 ∧ st.env 52 = .int .i64 2 ∧ st.env 53 = .int .i64 j ∧ Heap.le H st.heap ∧
    st.heap b7 = some (.row true 0 [.int .i64 z0, .int .i64 z1, .int .i64 z2, .int .i64 z3] 0) ∧ st.heap bS = some (.row true 0 F 0)
def fiB (H : Heap) (a w : Int) (z0 z1 z2 z3 : Int) (F : List Value) (b7 bS j b14 : Nat) (FJ : List Value) (st : St) : Prop :=
  st.env 3 = .int .i64 a ∧ st.env 4 = .int .u16 w ∧ st.env 7 = .pointer (some ⟨b7, 0, none⟩) ∧ st.env 51 = .slice (some ⟨bS, 0, none⟩) 2 2 ∧ st.env 52 = .int .i64 2 ∧ st.env 53 = .int .i64 j ∧ st.env 14 = .pointer (some ⟨b14, 0, none⟩) ∧ Heap.le H st.heap ∧
    st.heap b7 = some (.row true 0 [.int .i64 z0, .int .i64 z1, .int .i64 z2, .int .i64 z3] 0) ∧ st.heap bS = some (.row true 0 F 0) ∧ st.heap b14 = some (.row true 0 FJ 0)
def fi2 (H : Heap) (a w : Int) (z0 z1 z2 z3 : Int) (F : List Value) (b7 bS j b14 : Nat) (FJ A : List Value) (b65 : Nat) (st : St) : Prop :=
  fiB H a w z0 z1 z2 z3 F b7 bS j b14 FJ st ∧ ∃ m : Nat, m ≤ 3 ∧ st.env 65 = .slice (some ⟨b65, 0, none⟩) 3 3 ∧ st.env 66 = .int .i64 3 ∧ st.env 67 = .int .i64 m ∧ st.heap b65 = some (.row true 0 A 0)
def fi3 (H : Heap) (a w : Int) (z0 z1 z2 z3 : Int) (F : List Value) (b7 bS j b14 : Nat) (FJ : List Value) (st : St) : Prop :=
  fiB H a w z0 z1 z2 z3 F b7 bS j b14 FJ st ∧ ∃ i : Nat, i ≤ 4 ∧ st.env 21 = .int .i64 i
set_option maxHeartbeats 4000000 in
theorem mixFinds_c (s0 : S4) (hd0 : Den s0) (k : Nat) (hk : k < 256) (z0 z1 z2 z3 : Int) (hz : allIn [z0, z1, z2, z3]) (a : Int) (ha : i64In a) (w : Nat) (hw : w < 65536) (H : Heap) :
    ECalls Try.prog 3 #[setV s0, .int .u8 k, notesV z0 z1 z2 z3, .int .i64 a, .int .u16 w] H fun v H' => v = .bool true ∧ Heap.le H H' := by
  refine ecalls_of_ewp (args := [_, _, _, _, _]) Try.func3 rfl rfl rfl (by simp [Try.ntmps3]) (by kernel_rfl) ?_
  have hf0 : (flat s0).length = 16 := rfl
  have ht0 : List.take 16 (flat s0) = flat s0 := rfl
  have ho0 : (flat s0).all (·.oneCell') = true := rfl
  obtain ⟨F0, hF0⟩ : ∃ F, F = flat s0 := ⟨_, rfl⟩
  have hi0 : i64In z0 := hz _ (by simp)
  have hi1 : i64In z1 := hz _ (by simp)
  have hi2 : i64In z2 := hz _ (by simp)
  have hi3 : i64In z3 := hz _ (by simp)
  have dv0 := tdiv7 z0 hi0
  have dv1 := tdiv7 z1 hi1
  have dv2 := tdiv7 z2 hi2
  have dv3 := tdiv7 z3 hi3
  unfold setV notesV
  rw [← hF0] at hf0 ht0 ho0 ⊢
  simp (disch := first | omega | assumption | decide | (simp <;> omega) | fail) [facts, ]
  refine fresh_intro fun b5 hb5 => ?_
  have hle := le_upd (.row true 0 F0 0) hb5
  have r5 := upd_same H b5 (.row true 0 F0 0)
  generalize upd H b5 (.row true 0 F0 0) = H1 at *
  clear hb5
  simp (disch := first | omega | assumption | decide | (simp <;> omega) | fail) [facts, ]
  refine fresh_intro fun b7 hb7 => ?_
  replace hle := Heap.le_trans hle (le_upd (.row true 0 [.int .i64 z0, .int .i64 z1, .int .i64 z2, .int .i64 z3] 0) hb7)
  replace r5 := upd_other (o := .row true 0 [.int .i64 z0, .int .i64 z1, .int .i64 z2, .int .i64 z3] 0) hb7 r5
  have r7 := upd_same H1 b7 (.row true 0 [.int .i64 z0, .int .i64 z1, .int .i64 z2, .int .i64 z3] 0)
  generalize upd H1 b7 (.row true 0 [.int .i64 z0, .int .i64 z1, .int .i64 z2, .int .i64 z3] 0) = H2 at *
  clear hb7
  simp (disch := first | omega | assumption | decide | (simp <;> omega) | fail) [facts, ]
  refine (known_c _).mono ?_
  rintro v H3 ⟨rfl, hle2⟩
  replace hle := Heap.le_trans hle hle2
  replace r5 := hle2 _ _ r5
  replace r7 := hle2 _ _ r7
  clear hle2
  simp (disch := first | omega | assumption | decide | (simp <;> omega) | fail) [facts, ]
  refine (cass_c k _ hk).mono ?_
  rintro v H4 ⟨⟨s1, rfl, hs1⟩, hle2⟩
  replace hle := Heap.le_trans hle hle2
  replace r5 := hle2 _ _ r5
  replace r7 := hle2 _ _ r7
  clear hle2
  have hd1 : Den s1 := by
    obtain ⟨⟨x1, x2, _⟩, ⟨y1, y2, _⟩, ⟨u1, u2, _⟩, ⟨v1, v2, _⟩⟩ := hs1
    unfold Den i64In; omega
  have hf1 : (flat s1).length = 16 := rfl
  have ho1 : (flat s1).all (·.oneCell') = true := rfl
  have hsp1 : splice (rep 16 (Value.int .i64 0)) 0 (flat s1) = flat s1 := rfl
  unfold setV
  simp (disch := first | omega | assumption | decide | (simp <;> omega) | fail) [facts, ]
  refine fresh_intro fun b11 hb11 => ?_
  simp (disch := first | omega | assumption | decide | (simp <;> omega) | fail) [facts, hf1, ho1, hsp1, upd_upd]
  have n5 : b5 ≠ b11 := ne_of_fresh hb11 r5
  have n7 : b7 ≠ b11 := ne_of_fresh hb11 r7
  have h11 : H b11 = none := le_of_none hle hb11
  replace hle := Heap.le_trans hle (le_upd (.row true 0 (flat s1) 0) hb11)
  replace r5 := upd_other (o := .row true 0 (flat s1) 0) hb11 r5
  replace r7 := upd_other (o := .row true 0 (flat s1) 0) hb11 r7
  have r11 := upd_same H4 b11 (.row true 0 (flat s1) 0)
  generalize hH5 : upd H4 b11 (.row true 0 (flat s1) 0) = H5 at *
  clear hH5
  refine w_loop (fi0 H a w z0 z1 z2 z3 s0 b5 b7 b11) (fun st => 4 - (intOf (st.env 12)).toNat) ?_ ?_
  · exact ⟨0, s1, by decide, hd1, by simp, by simp, by simp, by simp, by simp, by simp, hle, by rw [← hF0]; exact r5, r7, r11⟩
  clear hs1 hd1 hf1 ho1 hsp1 hle r5 r7 r11 hb11
  rintro ⟨env, G⟩ ⟨i, s1, hi, hd1, e3, e4, e5, e7, e11, e12, hle, r5, r7, r11⟩
  simp only at e3 e4 e5 e7 e11 e12 hle r5 r7 r11
  by_cases hi4 : i < 4
  · obtain ⟨jj, hjj⟩ : ∃ jj, jj = i + 1 := ⟨_, rfl⟩
    have hk4 : i = 0 ∨ i = 1 ∨ i = 2 ∨ i = 3 := by omega
    have r11' := r11
    unfold flat at r11'
    unfold i64In at dv0 dv1 dv2 dv3
    rcases hk4 with rfl | rfl | rfl | rfl
    all_goals
      simp (disch := first | omega | assumption | decide | (simp <;> omega) | fail) [facts, e3, e4, e5, e7, e11, e12, r7]
      refine (placeM_c _ 6 (by decide) (by decide) _).mono ?_
      rintro v G1 ⟨rfl, rfl⟩
      simp (disch := first | omega | assumption | decide | (simp <;> omega) | fail) [facts, e3, e4, e5, e7, e11, e12, r7, r11', upd_ne]
      refine (placeM_c _ 3 (by decide) (by decide) _).mono ?_
      rintro v G2 ⟨rfl, rfl⟩
      simp (disch := first | omega | assumption | decide | (simp <;> omega) | fail) [facts, e3, e4, e5, e7, e11, e12, r7, r11', upd_ne, upd_upd]
      refine ⟨_, Heap.le_refl _, ⟨jj, ⟨⟨_, _, _, _⟩, ⟨_, _, _, _⟩, ⟨_, _, _, _⟩, ⟨_, _, _, _⟩⟩, by omega, ?_, by simp [e3], by simp [e4], by simp [e5], by simp [e7], by simp [e11], by simp; omega, le_updN _ hle h11, (upd_ne _ _ n5).trans r5, (upd_ne _ _ n7).trans r7, (upd_same _ _ _).trans (flat_mk _ _ _ _ _ _ _ _ _ _ _ _ _ _ _ _)⟩, by simp [intOf, e12]⟩
      exact hd1
  have hiI : ¬ (i : Int) < 4 := by omega
  rw [← hF0] at r5
  have hf1 : (flat s1).length = 16 := rfl
  have ht1 : List.take 16 (flat s1) = flat s1 := rfl
  have ho1 : (flat s1).all (·.oneCell') = true := rfl
  have hF : ∀ j, j < 2 → ∃ sj : S4, List.take 16 (List.drop (j * 16) (F0 ++ flat s1)) = flat sj ∧ Den sj := by
    intro j hj
    have hj : j = 0 ∨ j = 1 := by omega
    rcases hj with rfl | rfl
    · refine ⟨s0, ?_, hd0⟩
      rw [Nat.zero_mul, List.drop_zero, hF0]; rfl
    · refine ⟨s1, ?_, hd1⟩
      rw [hF0]; rfl
  have hFl : (F0 ++ flat s1).length = 32 := by rw [hF0]; rfl
  have hzl : (splice (zeros (rep 16 (Value.int .i64 0)) 2) 0 F0).length = 32 := by rw [splice_length _ _ _ (by rw [hf0]; decide)]; rfl
  clear hF0
  generalize flat s1 = F1 at *
  simp (disch := first | omega | assumption | decide | (simp <;> omega) | fail) [facts, e3, e4, e5, e7, e11, e12, hiI, r5, r11, hf0, ht0, hf1, ht1, ho0, ho1, hzl]
  refine fresh_intro fun bS hbS => ?_
  rw [splice_two rfl hf0 hf1]
  replace r7 := upd_other (o := .row true 0 (F0 ++ F1) 0) hbS r7
  have rS := upd_same G bS (.row true 0 (F0 ++ F1) 0)
  replace hle := Heap.le_trans hle (le_upd (.row true 0 (F0 ++ F1) 0) hbS)
  generalize upd G bS (.row true 0 (F0 ++ F1) 0) = G1 at *
  clear r5 r11 hbS hzl
  generalize F0 ++ F1 = F at *
  simp (disch := first | omega | assumption | decide | (simp <;> omega) | fail) [facts, ]
  refine w_loop (fi1 H a w z0 z1 z2 z3 F b7 bS) (fun st => 2 - (intOf (st.env 53)).toNat) ?_ ?_
  · exact ⟨0, by decide, by simp [e3], by simp [e4], by simp [e7], by simp, by simp, by simp, hle, r7, rS⟩
  clear e3 e4 e5 e7 e11 e12 hle r7 rS hi4 hiI hi hd1
  rintro ⟨env, G2⟩ ⟨j, hj, e3, e4, e7, e51, e52, e53, hle, r7, rS⟩
  simp only at e3 e4 e7 e51 e52 e53 hle r7 rS
  by_cases hj2 : j < 2
  case neg =>
    have hj2I : ¬ (j : Int) < 2 := by omega
    simp (disch := first | omega | assumption | decide | (simp <;> omega) | fail) [facts, e3, e4, e7, e51, e52, e53, hj2I]
    exact ⟨_, Heap.le_refl _, hle⟩
  have hj2I : (j : Int) < 2 := by omega
  obtain ⟨sj, hsj, hdj⟩ := hF j hj2
  have cF := fun a' ha' H => find_c sj a' ha' H
  have cR := fun a' ha' H => findR_c sj a' ha' H
  obtain ⟨⟨dj0, lj0, gj0, rj0⟩, ⟨dj1, lj1, gj1, rj1⟩, ⟨dj2, lj2, gj2, rj2⟩, ⟨dj3, lj3, gj3, rj3⟩⟩ := sj
  unfold Den at hdj
  simp only at hdj
  have hda : allIn [dj0, dj1, dj2, dj3] := in4 hdj.1 hdj.2.1 hdj.2.2.1 hdj.2.2.2
  have cW := fun H => worthM_c ⟨⟨dj0, lj0, gj0, rj0⟩, ⟨dj1, lj1, gj1, rj1⟩, ⟨dj2, lj2, gj2, rj2⟩, ⟨dj3, lj3, gj3, rj3⟩⟩ z0 z1 z2 z3 H hz hda
  have cV := fun H => worth17_c ⟨⟨dj0, lj0, gj0, rj0⟩, ⟨dj1, lj1, gj1, rj1⟩, ⟨dj2, lj2, gj2, rj2⟩, ⟨dj3, lj3, gj3, rj3⟩⟩ z0 z1 z2 z3 H hz hda
  unfold setV flat at cF cR cW cV
  unfold notesV at cW cV
  unfold flat at hsj
  simp only at hsj cF cR cW cV
  obtain ⟨FJ, hFJ⟩ : ∃ FJ : List Value, FJ = [.int .i64 dj0, .int .i64 lj0, .int .i64 gj0, .int .i64 rj0, .int .i64 dj1, .int .i64 lj1, .int .i64 gj1, .int .i64 rj1, .int .i64 dj2, .int .i64 lj2, .int .i64 gj2, .int .i64 rj2, .int .i64 dj3, .int .i64 lj3, .int .i64 gj3, .int .i64 rj3] := ⟨_, rfl⟩
  have hlJ : FJ.length = 16 := by rw [hFJ]; rfl
  have hoJ : FJ.all (·.oneCell') = true := by rw [hFJ]; rfl
  have htJ : List.take 16 FJ = FJ := List.take_of_length_le (by omega)
  have hspJ : splice (rep 16 (Value.int .i64 0)) 0 FJ = FJ := by rw [hFJ]; rfl
  rw [← hFJ] at hsj cF cR cW cV
  obtain ⟨w5, hw50⟩ : ∃ w5, w5 = w % 50 := ⟨_, rfl⟩
  have hw5 : (w : Int) % 50 = (w5 : Int) := by omega
  have hw5l : w5 < 50 := by omega
  clear hw50
  simp (disch := first | omega | assumption | decide | (simp <;> omega) | fail) [facts, e3, e4, e7, e51, e52, e53, hj2I, rS, hFl, hsj]
  refine fresh_intro fun b14 hb14 => ?_
  simp (disch := first | omega | assumption | decide | (simp <;> omega) | fail) [facts, hlJ, hoJ, hspJ, upd_upd]
  replace r7 := upd_other (o := .row true 0 FJ 0) hb14 r7
  replace rS := upd_other (o := .row true 0 FJ 0) hb14 rS
  have r14 := upd_same G2 b14 (.row true 0 FJ 0)
  replace hle := Heap.le_trans hle (le_upd (.row true 0 FJ 0) hb14)
  generalize upd G2 b14 (.row true 0 FJ 0) = G3 at *
  clear hb14
  simp (disch := first | omega | assumption | decide | (simp <;> omega) | fail) [facts, e3, e4, e7, e51, e52, e53, hw5]
  refine fresh_intro fun b65 hb65 => ?_
  obtain ⟨A, hA⟩ : ∃ A : List Value, A = [.int .i64 a, .int .i64 ((w : Int) * 100), .int .i64 ((w5 : Int) * 500)] := ⟨_, rfl⟩
  rw [← hA]
  replace r7 := upd_other (o := .row true 0 A 0) hb65 r7
  replace rS := upd_other (o := .row true 0 A 0) hb65 rS
  replace r14 := upd_other (o := .row true 0 A 0) hb65 r14
  have r65 := upd_same G3 b65 (.row true 0 A 0)
  replace hle := Heap.le_trans hle (le_upd (.row true 0 A 0) hb65)
  generalize upd G3 b65 (.row true 0 A 0) = G4 at *
  clear hb65
  simp (disch := first | omega | assumption | decide | (simp <;> omega) | fail) [facts, ]
  refine w_loop (fi2 H a w z0 z1 z2 z3 F b7 bS j b14 FJ A b65) (fun st => 3 - (intOf (st.env 67)).toNat) ?_ ?_
  · exact ⟨⟨by simp [e3], by simp [e4], by simp [e7], by simp [e51], by simp [e52], by simp [e53], by simp, hle, r7, rS, r14⟩, 0, by decide, by simp, by simp, by simp, r65⟩
  clear e3 e4 e7 e51 e52 e53 hle r7 rS r14 r65
  rintro ⟨env, G5⟩ ⟨⟨e3, e4, e7, e51, e52, e53, e14, hle, r7, rS, r14⟩, m, hm, e65, e66, e67, r65⟩
  simp only at e3 e4 e7 e51 e52 e53 e14 hle r7 rS r14 e65 e66 e67 r65
  by_cases hm3 : m < 3
  · have hm3I : (m : Int) < 3 := by omega
    obtain ⟨amt, hamt, hai⟩ : ∃ amt : Int, A[m]? = some (.int .i64 amt) ∧ i64In amt := by
      have : m = 0 ∨ m = 1 ∨ m = 2 := by omega
      rcases this with rfl | rfl | rfl
      · exact ⟨a, by rw [hA]; rfl, ha⟩
      · exact ⟨(w : Int) * 100, by rw [hA]; rfl, by unfold i64In; omega⟩
      · exact ⟨(w5 : Int) * 500, by rw [hA]; rfl, by unfold i64In; omega⟩
    have hAl : A.length = 3 := by rw [hA]; rfl
    obtain ⟨_, hamt'⟩ := List.getElem?_eq_some_iff.1 hamt
    simp (disch := first | omega | assumption | decide | (simp <;> omega) | fail) [facts, e3, e4, e7, e51, e52, e53, e14, e65, e66, e67, r14, r65, hm3I, hAl, hamt, hamt', hlJ, htJ]
    refine (cF amt hai _).mono ?_
    rintro v G6 ⟨x, e, rfl, hf, hle2⟩
    obtain ⟨hx4, _⟩ := hf.four
    obtain ⟨x0, x1, x2, x3, rfl⟩ := lit4 hx4
    have nv : notesL [x0, x1, x2, x3] = .agg #[.int .i64 x0, .int .i64 x1, .int .i64 x2, .int .i64 x3] := rfl
    rw [nv]
    replace hle := Heap.le_trans hle hle2
    replace r7 := hle2 _ _ r7
    replace rS := hle2 _ _ rS
    replace r14 := hle2 _ _ r14
    replace r65 := hle2 _ _ r65
    clear hle2
    simp (disch := first | omega | assumption | decide | (simp <;> omega) | fail) [facts, ]
    refine fresh_intro fun b17 hb17 => ?_
    simp (disch := first | omega | assumption | decide | (simp <;> omega) | fail) [facts, upd_upd]
    replace hle := Heap.le_trans hle (le_upd (.row true 0 [.int .i64 x0, .int .i64 x1, .int .i64 x2, .int .i64 x3] 0) hb17)
    replace r7 := upd_other (o := .row true 0 [.int .i64 x0, .int .i64 x1, .int .i64 x2, .int .i64 x3] 0) hb17 r7
    replace rS := upd_other (o := .row true 0 [.int .i64 x0, .int .i64 x1, .int .i64 x2, .int .i64 x3] 0) hb17 rS
    replace r14 := upd_other (o := .row true 0 [.int .i64 x0, .int .i64 x1, .int .i64 x2, .int .i64 x3] 0) hb17 r14
    replace r65 := upd_other (o := .row true 0 [.int .i64 x0, .int .i64 x1, .int .i64 x2, .int .i64 x3] 0) hb17 r65
    have r17 := upd_same G6 b17 (.row true 0 [.int .i64 x0, .int .i64 x1, .int .i64 x2, .int .i64 x3] 0)
    generalize upd G6 b17 (.row true 0 [.int .i64 x0, .int .i64 x1, .int .i64 x2, .int .i64 x3] 0) = G7 at *
    clear hb17
    simp (disch := first | omega | assumption | decide | (simp <;> omega) | fail) [facts, e14, r14, hlJ, htJ]
    refine (cR amt hai _).mono ?_
    rintro v G8 ⟨y, f, rfl, hg, hle2⟩
    obtain ⟨rfl, rfl⟩ := hf.one hg
    rw [nv]
    replace hle := Heap.le_trans hle hle2
    replace r7 := hle2 _ _ r7
    replace rS := hle2 _ _ rS
    replace r14 := hle2 _ _ r14
    replace r65 := hle2 _ _ r65
    replace r17 := hle2 _ _ r17
    clear hle2
    simp (disch := first | omega | assumption | decide | (simp <;> omega) | fail) [facts, ]
    refine fresh_intro fun b19 hb19 => ?_
    simp (disch := first | omega | assumption | decide | (simp <;> omega) | fail) [facts, upd_upd]
    replace hle := Heap.le_trans hle (le_upd (.row true 0 [.int .i64 x0, .int .i64 x1, .int .i64 x2, .int .i64 x3] 0) hb19)
    replace r7 := upd_other (o := .row true 0 [.int .i64 x0, .int .i64 x1, .int .i64 x2, .int .i64 x3] 0) hb19 r7
    replace rS := upd_other (o := .row true 0 [.int .i64 x0, .int .i64 x1, .int .i64 x2, .int .i64 x3] 0) hb19 rS
    replace r14 := upd_other (o := .row true 0 [.int .i64 x0, .int .i64 x1, .int .i64 x2, .int .i64 x3] 0) hb19 r14
    replace r65 := upd_other (o := .row true 0 [.int .i64 x0, .int .i64 x1, .int .i64 x2, .int .i64 x3] 0) hb19 r65
    replace r17 := upd_other (o := .row true 0 [.int .i64 x0, .int .i64 x1, .int .i64 x2, .int .i64 x3] 0) hb19 r17
    have r19 := upd_same G8 b19 (.row true 0 [.int .i64 x0, .int .i64 x1, .int .i64 x2, .int .i64 x3] 0)
    generalize upd G8 b19 (.row true 0 [.int .i64 x0, .int .i64 x1, .int .i64 x2, .int .i64 x3] 0) = G9 at *
    clear hb19
    simp (disch := first | omega | assumption | decide | (simp <;> omega) | fail) [facts, e3, e4, e7, e51, e52, e53, e14, e65, e66, e67, r17, r19]
    exact ⟨_, Heap.le_refl _, ⟨⟨by simp [e3], by simp [e4], by simp [e7], by simp [e51], by simp [e52], by simp [e53], by simp [e14], hle, r7, rS, r14⟩, m + 1, by omega, by simp [e65], by simp [e66], by simp, r65⟩, by simp [intOf, e67]; omega⟩
  have hm3I : ¬ (m : Int) < 3 := by omega
  simp (disch := first | omega | assumption | decide | (simp <;> omega) | fail) [facts, e3, e4, e7, e51, e52, e53, e14, e65, e66, e67, hm3I]
  refine w_loop (fi3 H a w z0 z1 z2 z3 F b7 bS j b14 FJ) (fun st => 4 - (intOf (st.env 21)).toNat) ?_ ?_
  · exact ⟨⟨by simp [e3], by simp [e4], by simp [e7], by simp [e51], by simp [e52], by simp [e53], by simp [e14], hle, r7, rS, r14⟩, 0, by decide, by simp⟩
  clear e3 e4 e7 e51 e52 e53 hle r7 rS r14 r65 e65 e66 e67 e14
  rintro ⟨env, G6⟩ ⟨⟨e3, e4, e7, e51, e52, e53, e14, hle, r7, rS, r14⟩, i, hi, e21⟩
  simp only at e3 e4 e7 e51 e52 e53 e14 hle r7 rS r14 e21
  by_cases hi4 : i < 4
  · have hi4I : (i : Int) < 4 := by omega
    obtain ⟨cd, cl', cg, cr, hcell⟩ : ∃ cd cl' cg cr : Int, List.take 4 (List.drop (i * 4) FJ) = [.int .i64 cd, .int .i64 cl', .int .i64 cg, .int .i64 cr] := by
      have : i = 0 ∨ i = 1 ∨ i = 2 ∨ i = 3 := by omega
      rw [hFJ]
      rcases this with rfl | rfl | rfl | rfl <;> exact ⟨_, _, _, _, rfl⟩
    have cL := fun H => left_c cd cl' cg cr H
    have cM := fun H => leftR_c cd cl' cg cr H
    unfold cassV at cL cM
    simp (disch := first | omega | assumption | decide | (simp <;> omega) | fail) [facts, e3, e4, e7, e51, e52, e53, e14, e21, hi4I]
    refine w_plan (by simp [facts]) (opsP [0,1,4,5] (.both (opsP [2] (.both (opsP [3,6,7,8] .done) (opsP [6,3,7,8] .done))) (opsP [6,2,3,7,8] .done))) (by decide +kernel) ?_
    simp (disch := first | omega | assumption | decide | (simp <;> omega) | fail) [facts, e3, e4, e7, e51, e52, e53, e14, e21, r14, hlJ, hcell]
    repeat' apply And.intro
    all_goals
      refine (cL _).mono ?_
      rintro v G7 ⟨rfl, hle2⟩
      have k14 := hle2 _ _ r14
      simp (disch := first | omega | assumption | decide | (simp <;> omega) | fail) [facts, e3, e4, e7, e51, e52, e53, e14, e21, k14, hlJ, hcell]
      refine (cM _).mono ?_
      rintro v G8 ⟨rfl, hle3⟩
      simp (disch := first | omega | assumption | decide | (simp <;> omega) | fail) [facts, e3, e4, e7, e51, e52, e53, e14, e21]
      exact ⟨_, Heap.le_refl _, ⟨⟨by simp [e3], by simp [e4], by simp [e7], by simp [e51], by simp [e52], by simp [e53], by simp [e14], Heap.le_trans hle (Heap.le_trans hle2 hle3), hle3 _ _ (hle2 _ _ r7), hle3 _ _ (hle2 _ _ rS), hle3 _ _ (hle2 _ _ r14)⟩, i + 1, by omega, by simp⟩, by simp [intOf, e21]; omega⟩
  have hi4I : ¬ (i : Int) < 4 := by omega
  obtain ⟨WV, hWV⟩ : ∃ v, v = worthV [z0, z1, z2, z3] [dj0, dj1, dj2, dj3] := ⟨_, rfl⟩
  obtain ⟨W1, W2, hW⟩ : ∃ (x : Int) (b : Bool), WV = .tuple #[.int .i64 x, .bool b] := by
    rw [hWV]; unfold worthV totV
    split
    · split
      · exact ⟨_, _, rfl⟩
      · exact ⟨_, _, rfl⟩
    · exact ⟨_, _, rfl⟩
  rw [← hWV, hW] at cW cV
  simp (disch := first | omega | assumption | decide | (simp <;> omega) | fail) [facts, e3, e4, e7, e51, e52, e53, e14, e21, hi4I, r14, r7, hlJ, htJ]
  refine (cW _).mono ?_
  rintro v G7 ⟨rfl, hle2⟩
  replace hle := Heap.le_trans hle hle2
  replace r7 := hle2 _ _ r7
  replace rS := hle2 _ _ rS
  replace r14 := hle2 _ _ r14
  clear hle2
  simp (disch := first | omega | assumption | decide | (simp <;> omega) | fail) [facts, e3, e4, e7, e51, e52, e53, e14, e21, hi4I, r14, r7, hlJ, htJ]
  refine (cV _).mono ?_
  rintro v G8 ⟨rfl, hle2⟩
  replace hle := Heap.le_trans hle hle2
  replace r7 := hle2 _ _ r7
  replace rS := hle2 _ _ rS
  clear hle2
  simp (disch := first | omega | assumption | decide | (simp <;> omega) | fail) [facts, e3, e4, e7, e51, e52, e53, e14, e21]
  exact ⟨_, Heap.le_refl _, ⟨j + 1, by omega, by simp [e3], by simp [e4], by simp [e7], by simp [e51], by simp [e52], by simp, hle, r7, rS⟩, by simp [intOf, e53]; omega⟩
end Go.Proofs.Ytiaigpkaajnpoaa.GL
