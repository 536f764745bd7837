/- Layer 5: cut after cut, opening after opening. -/
import Derived.Test.YtnmbmccigpljnaaJoU
namespace Go.Proofs.Ytnmbmccigpljnaa.GL
open Go Go.RowKit
set_option maxRecDepth 10000
set_option pp.deepTerms.threshold 8
set_option pp.maxSteps 3000
set_option linter.unusedSimpArgs false
set_option linter.unusedVariables false

theorem JH.used_le {F RL RD H : Heap} {p pd : Nat} {d : DZ} {l : LZ} {rs : List RZ} {c m : Nat} (j : JH F RL RD H p pd d l rs c m) : l.used ≤ m / 2 := by
  have h1 := chosen_used d.now
  rw [j.jn.len] at h1
  rw [j.jn.used]; exact h1
def agnInv (F0 : Heap) (pd a0 n0 c0 k n2 c2 : Nat) (A0 A2 : Option Addr) (torn : Int) (st : St) : Prop :=
  ∃ (i p L cp : Nat) (a : Option Addr) (F RL RD : Heap) (d : DZ) (l : LZ) (rs : List RZ), i ≤ n0 ∧ st.env 0 = .slice A0 n0 c0 ∧ st.env 1 = .int .u8 k ∧ st.env 2 = .slice A2 n2 c2 ∧ st.env 3 = .int .i64 torn ∧ st.env 9 = .pointer (some ⟨pd, 0, none⟩) ∧ st.env 10 = .pointer (some ⟨p, 0, none⟩) ∧ st.env 13 = .slice a L cp ∧ st.env 14 = .int .i64 i ∧
    JH F RL RD st.heap p pd d l rs i 600 ∧ Heap.le F0 F ∧ rs.length = L ∧ L ≤ i ∧ SlA F a L 17 (rowsC RZ.cells rs) ∧ L ≤ cp ∧ l.used ≤ 2 * i
set_option maxHeartbeats 4000000 in
theorem jagain_law (A0 : Option Addr) (n0 c0 : Nat) (zs : List UInt8) (k : Nat) (A2 : Option Addr) (n2 c2 : Nat) (ks : List Bool) (torn : Int) (hk : k < 256) (H : Heap) (h0 : SlA H A0 n0 1 (zs.map u8V)) (h2 : BoA H A2 n2 ks) :
    ECalls Try.prog 8 #[.slice A0 n0 c0, .int .u8 k, .slice A2 n2 c2, .int .i64 torn] H fun v _ => v = .bool true := by
  refine ecalls_of_ewp (args := [_, _, _, _]) Try.func8 rfl rfl rfl (by simp [Try.ntmps8]) (by kernel_rfl) ?_
  simp (disch := first | omega | assumption | decide | (simp <;> omega) | fail) [facts, ]
  refine (known_c H).mono ?_
  rintro v H1 ⟨rfl, hl1⟩
  by_cases h12 : 12 < (n0 : Int)
  · simp (disch := first | omega | assumption | decide | (simp <;> omega) | fail) [facts, h12]
    exact ⟨_, Heap.le_refl _⟩
  by_cases hk40 : 40 < (n2 : Int)
  · simp (disch := first | omega | assumption | decide | (simp <;> omega) | fail) [facts, h12, hk40]
    exact ⟨_, Heap.le_refl _⟩
  simp (disch := first | omega | assumption | decide | (simp <;> omega) | fail) [facts, h12, hk40]
  refine (newJ 600 (by decide) (by decide) H1).mono ?_
  rintro v H2 ⟨pd, RD, rfl, j2⟩
  simp (disch := first | omega | assumption | decide | (simp <;> omega) | fail) [facts, ]
  refine (openN j2 (by decide) rfl (by decide)).mono ?_
  rintro v H3 ⟨p, a3', cp3, F3, RL, l, rfl, hF3, j3, _, _, hu3⟩
  have hu0 : l.used = 0 := by rw [hu3]; exact newJn_used 600
  simp (disch := first | omega | assumption | decide | (simp <;> omega) | fail) [facts, ]
  refine w_loop (agnInv H1 pd 0 n0 c0 k n2 c2 A0 A2 torn) (fun st => n0 - (intOf (st.env 14)).toNat) ?_ ?_
  · exact ⟨0, p, 0, 0, none, F3, RL, RD, _, l, [], Nat.zero_le _, by simp, by simp, by simp, by simp, by simp, by simp, by simp, by simp, j3, hF3, rfl, Nat.le_refl _, SlA.nil _ _, Nat.le_refl _, by omega⟩
  clear j3 j2 hu3 hu0 hF3
  rintro ⟨env, G⟩ ⟨i, p, L, cp, a, F4, RL4, RD4, d4, l4, rs, hi, e0, e1, e2, e3, e9, e10, e13, e14, j4, hF4, hL, hLi, s4, hcp, hu4⟩
  simp only at e0 e1 e2 e3 e9 e10 e13 e14 j4
  by_cases hlt : i < n0
  case neg =>
    have hltI : ¬ (i : Int) < (n0 : Int) := by omega
    simp (disch := first | omega | assumption | decide | (simp <;> omega) | fail) [facts, e0, e1, e2, e3, e9, e10, e13, e14, hltI]
    refine (lenN j4 hL).mono ?_
    rintro v H5 ⟨rfl, rfl⟩
    simp (disch := first | omega | assumption | decide | (simp <;> omega) | fail) [facts, e0, e1, e2, e3, e9, e10, e13, e14]
    exact ⟨_, Heap.le_refl _⟩
  have hltI : (i : Int) < (n0 : Int) := by omega
  have i8I : IntKind.wrap .u8 (i : Int) = (i : Int) := by rw [IntKind.wrap_u8]; omega
  obtain ⟨k1, hk1⟩ : ∃ q, q = (k + i) % 256 := ⟨_, rfl⟩
  have k1I : IntKind.wrap .u8 ((k : Int) + (i : Int)) = (k1 : Int) := by rw [IntKind.wrap_u8]; omega
  obtain ⟨r, hr⟩ : ∃ r, r = recS k1 k i 9 := ⟨_, rfl⟩
  have hrg : r.good := by rw [hr]; exact recS_good _ _ _ _ hk (by omega)
  have hrl := framesB_one_le hrg
  have hs1 : secsN (framesB [r]).length ≤ 2 := secsN_of (by omega) (by decide)
  have hc := fun H => rec_c k1 k i 9 (by omega) hk (by omega) (by omega) H r hr
  have h0l : zs.length = n0 := by simpa using h0.len
  obtain ⟨z, hz⟩ : ∃ z, zs[i]? = some z := ⟨_, List.getElem?_eq_getElem (by omega)⟩
  obtain ⟨w, hw⟩ : ∃ q : Nat, q = z.toNat % 8 := ⟨_, rfl⟩
  have wI : (z.toNat : Int) % 8 = (w : Int) := by omega
  obtain ⟨b0, o0, rfl⟩ := h0.lit (by omega)
  simp (disch := first | omega | assumption | decide | (simp <;> omega) | fail) [facts, e0, e1, e2, e3, e9, e10, e13, e14, hltI, i8I, k1I]
  refine (hc _).mono ?_
  rintro v H5 ⟨rfl, hl5⟩
  simp (disch := first | omega | assumption | decide | (simp <;> omega) | fail) [facts, e0, e1, e2, e3, e9, e10, e13, e14]
  refine fresh_intro fun b6 hb6 => ?_
  simp (disch := first | omega | assumption | decide | (simp <;> omega) | fail) [facts, upd_upd]
  generalize e6' : upd _ b6 _ = H6 at *
  obtain ⟨j6, hF6, q6, r6, hl6⟩ := (j4.grow hl5).box hb6 e6'
  generalize upd F4 b6 _ = F6 at *
  have hz6 := ((h0.le hl1).le (Heap.le_trans hF4 (Heap.le_trans hF6 j6.two.fle))).at hz
  rw [at1_lit] at hz6
  have hltN : i < n0 := hlt
  simp (disch := first | omega | assumption | decide | (simp <;> omega) | fail) [facts, e0, e1, e2, e3, e9, e10, e13, e14, hltI, hz6, wI]
  refine (cutJ j6 ((w : Int) + 1) (by omega) (by omega)).mono ?_
  rintro v H7 ⟨RD7, d7, j7⟩
  have r7 := j7.two.fle _ _ q6
  simp (disch := first | omega | assumption | decide | (simp <;> omega) | fail) [facts, e0, e1, e2, e3, e9, e10, e13, e14, r7]
  refine fresh_intro fun b8 hb8 => ?_
  rw [spl_rec r]
  generalize e8' : upd _ b8 _ = H8 at *
  obtain ⟨j8, hF8, q8, r8, hl8⟩ := j7.box hb8 e8'
  generalize upd F6 b8 _ = F8 at *
  have hbo := (h2.le hl1).le (Heap.le_trans hF4 (Heap.le_trans hF6 hF8))
  have hh8 := j8.jn.half
  simp (disch := first | omega | assumption | decide | (simp <;> omega) | fail) [facts, e0, e1, e2, e3, e9, e10, e13, e14]
  refine (addJ j8 (rec_row q8) (by simpa using hrg) (by decide) (by decide) (by omega) (by omega)).mono ?_
  rintro v H9 ⟨RL9, RD9, d9, l9, e9', rfl, hh⟩
  have hre : ECalls Try.prog 22 #[.pointer (some ⟨pd, 0, none⟩), .slice A2 n2 c2, .int .i64 torn] H9 fun _ H' => ∃ RD9 d9 rs2, JD F8 RD9 H' pd d9 rs2 (i + 1) 600 ∧ (chosen d9.now).used ≤ 2 * (i + 1) ∧ (((e9' = 0 ∨ e9' = 22) ∧ rs2 = rs ++ [r]) ∨ (e9' = 22 ∧ rs2 = rs)) := by
    rcases hh with ⟨rfl, h2, _, h4, _⟩ | ⟨_, _, _, h3⟩ | ⟨rfl, h2⟩
    · refine (reopenJ h2.disk hbo torn (by omega)).mono ?_
      rintro v H' ⟨RD', d', h, hnow, hl⟩
      refine ⟨RD', d', _, h, ?_, .inl ⟨.inl rfl, rfl⟩⟩
      rw [hnow, ← h2.jn.used, h4]
      unfold secA
      rw [if_neg (by simp)]
      omega
    · omega
    · refine (reopenC h2 (by omega) hbo torn (by omega)).mono ?_
      rintro v H' ⟨RD', d', h | h, hl, hu⟩
      · exact ⟨RD', d', _, h, by omega, .inr ⟨rfl, rfl⟩⟩
      · exact ⟨RD', d', _, h, by omega, .inl ⟨.inr rfl, rfl⟩⟩
  clear hh
  simp (disch := first | omega | assumption | decide | (simp <;> omega) | fail) [facts, e0, e1, e2, e3, e9, e10, e13, e14]
  refine hre.mono ?_
  rintro v H10 ⟨RD10, d10, rs2, j10, hu10, hrs⟩
  obtain ⟨L2, hL2⟩ : ∃ L, rs2.length = L := ⟨_, rfl⟩
  have hL2b : L2 ≤ L + 1 := by
    rcases hrs with ⟨_, h⟩ | ⟨_, h⟩
    · rw [← hL2, h]; simp [hL]
    · rw [← hL2, h]; omega
  have he9 : e9' = 0 ∨ e9' = 22 := by
    rcases hrs with ⟨h, _⟩ | ⟨h, _⟩
    · exact h
    · exact .inr h
  simp (disch := first | omega | assumption | decide | (simp <;> omega) | fail) [facts, e0, e1, e2, e3, e9, e10, e13, e14]
  refine (openN j10 (by omega) hL2 (by omega)).mono ?_
  rintro v H11 ⟨p11, a11, c11, F11, RL11, l11, rfl, hF11, j11, s11, hc11, hu11⟩
  have hF411 := Heap.le_trans hF6 (Heap.le_trans hF8 hF11)
  have q11 := j11.two.fle _ _ (hF11 _ _ (hF8 _ _ q6))
  clear hre
  have hpick : ((¬ e9' = 0) ∧ ¬ e9' = 22) = False := by
    apply eq_false
    omega
  rcases hrs with ⟨h9, rfl⟩ | ⟨rfl, rfl⟩
  · rcases h9 with rfl | rfl
    all_goals
      simp (disch := first | omega | assumption | decide | (simp <;> omega) | fail) [facts, e0, e1, e2, e3, e9, e10, e13, e14]
      refine w_plan (by simp [facts]) (opsP [0,1,2,3,4,5,6,7,8,9] .done) (by decide +kernel) ?_
      simp (disch := first | omega | assumption | decide | (simp <;> omega) | fail) [facts, e0, e1, e2, e3, e9, e10, e13, e14, q11]
      refine fresh_intro fun b12 hb12 => ?_
      rw [spl_rec r]
      generalize e12' : upd _ b12 _ = H12 at *
      obtain ⟨j12, hF12, q12, r12, hl12⟩ := j11.box hb12 e12'
      generalize upd F11 b12 _ = F12 at *
      have s4' := s4.le (Heap.le_trans hF411 hF12)
      simp (disch := first | omega | assumption | decide | (simp <;> omega) | fail) [facts, e0, e1, e2, e3, e9, e10, e13, e14]
      refine app_recs s4' j12.two.fle (rec_row r12) (by omega) ?_
      intro a13 c13 H13 B13 ow13 s13 hc13
      obtain ⟨j13, hF13, _⟩ := j12.join ow13
      have s11' := s11.le (Heap.le_trans hF12 hF13)
      simp (disch := first | omega | assumption | decide | (simp <;> omega) | fail) [facts, e0, e1, e2, e3, e9, e10, e13, e14]
      refine (recs_c a11 a13 L2 (L + 1) c11 c13 (rs ++ [r]) (rs ++ [r]) H13 (s11'.le j13.two.fle) (s13.le j13.two.fle) (by omega)).mono ?_
      rintro v H14 ⟨rfl, rfl⟩
      simp (disch := first | omega | assumption | decide | (simp <;> omega) | fail) [facts, e0, e1, e2, e3, e9, e10, e13, e14]
      exact ⟨_, Heap.le_refl _, ⟨i + 1, p11, L2, c11, a11, _, RL11, RD10, d10, l11, rs ++ [r], by omega, by simp [e0], by simp [e1], by simp [e2], by simp [e3], by simp [e9], by simp, by simp, by simp, j13, Heap.le_trans hF4 (Heap.le_trans hF411 (Heap.le_trans hF12 hF13)), hL2, by omega, s11', hc11, by omega⟩, by simp [intOf, e14]; omega⟩
  · have hne : ¬ rs2 = rs2 ++ [r] := fun e => by
      have := congrArg List.length e
      simp at this
    have hLe : L2 = L := by omega
    subst hLe
    simp (disch := first | omega | assumption | decide | (simp <;> omega) | fail) [facts, e0, e1, e2, e3, e9, e10, e13, e14]
    refine w_plan (by simp [facts]) (opsP [0,1,2,3,4,5,6,7,8,9] .done) (by decide +kernel) ?_
    simp (disch := first | omega | assumption | decide | (simp <;> omega) | fail) [facts, e0, e1, e2, e3, e9, e10, e13, e14, q11]
    refine fresh_intro fun b12 hb12 => ?_
    rw [spl_rec r]
    generalize e12' : upd _ b12 _ = H12 at *
    obtain ⟨j12, hF12, q12, r12, hl12⟩ := j11.box hb12 e12'
    generalize upd F11 b12 _ = F12 at *
    have s4' := s4.le (Heap.le_trans hF411 hF12)
    simp (disch := first | omega | assumption | decide | (simp <;> omega) | fail) [facts, e0, e1, e2, e3, e9, e10, e13, e14]
    refine app_recs s4' j12.two.fle (rec_row r12) (by omega) ?_
    intro a13 c13 H13 B13 ow13 s13 hc13
    obtain ⟨j13, hF13, _⟩ := j12.join ow13
    have s11' := s11.le (Heap.le_trans hF12 hF13)
    simp (disch := first | omega | assumption | decide | (simp <;> omega) | fail) [facts, e0, e1, e2, e3, e9, e10, e13, e14]
    have hr1 := recs_c a11 a13 L2 (L2 + 1) c11 c13 rs2 (rs2 ++ [r]) H13 (s11'.le j13.two.fle) (s13.le j13.two.fle) (by omega)
    rw [decide_eq_false hne] at hr1
    refine hr1.mono ?_
    rintro v H14 ⟨rfl, rfl⟩
    simp (disch := first | omega | assumption | decide | (simp <;> omega) | fail) [facts, e0, e1, e2, e3, e9, e10, e13, e14]
    refine (recs_c a11 a L2 L2 c11 cp rs2 rs2 H14 (s11'.le j13.two.fle) ((s4'.le hF13).le j13.two.fle) (by omega)).mono ?_
    rintro v H15 ⟨rfl, rfl⟩
    simp (disch := first | omega | assumption | decide | (simp <;> omega) | fail) [facts, e0, e1, e2, e3, e9, e10, e13, e14]
    exact ⟨_, Heap.le_refl _, ⟨i + 1, p11, L2, c11, a11, _, RL11, RD10, d10, l11, rs2, by omega, by simp [e0], by simp [e1], by simp [e2], by simp [e3], by simp [e9], by simp, by simp, by simp, j13, Heap.le_trans hF4 (Heap.le_trans hF411 (Heap.le_trans hF12 hF13)), hL2, by omega, s11', hc11, by omega⟩, by simp [intOf, e14]; omega⟩
end Go.Proofs.Ytnmbmccigpljnaa.GL
