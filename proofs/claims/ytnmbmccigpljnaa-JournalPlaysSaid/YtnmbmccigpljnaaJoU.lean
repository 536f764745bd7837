/- Layer 5: wherever the power goes while records are added. -/
import Derived.Test.YtnmbmccigpljnaaJoT
namespace Go.Proofs.Ytnmbmccigpljnaa.GL
open Go Go.RowKit
set_option maxRecDepth 10000
set_option pp.deepTerms.threshold 8
set_option pp.maxSteps 3000
set_option linter.unusedSimpArgs false
set_option linter.unusedVariables false

theorem SlA.tlR {H : Heap} {a : Option Addr} {n c l : Nat} {xs : List RZ} (h : SlA H a n 17 (rowsC RZ.cells xs)) (hl : l ≤ n) (hc : n ≤ c) : SlA H (if c = l then a else a.map (fun x => x.add (l * 17))) (n - l) 17 (rowsC RZ.cells (xs.drop l)) := by
  split
  · rename_i e
    have hn : n = l := by omega
    subst hn
    have hx := h.els rz17 (by decide)
    rw [List.drop_of_length_le (by omega), Nat.sub_self]
    exact ⟨h.plain, fun h0 => absurd h0 (Nat.lt_irrefl _), by simp [rowsC], fun k hk => by simp at hk, fun k m hm hk => by simp at hk; omega⟩
  · have := h.drop (m := l) hl
    rw [rowsC_drop rz17] at this
    exact this
set_option maxHeartbeats 4000000 in
theorem jcuts_law (n k cut : Nat) (a3 : Option Addr) (n3 c3 : Nat) (ks : List Bool) (torn : Int) (more : Nat) (hn : n < 256) (hk : k < 256) (hcu : cut < 256) (hmo : more < 256) (H : Heap) (h3 : BoA H a3 n3 ks) :
    ECalls Try.prog 7 #[.int .u8 n, .int .u8 k, .int .u8 cut, .slice a3 n3 c3, .int .i64 torn, .int .u8 more] H fun v _ => v = .bool true := by
  refine ecalls_of_ewp (args := [_, _, _, _, _, _]) Try.func7 rfl rfl rfl (by simp [Try.ntmps7]) (by kernel_rfl) ?_
  obtain ⟨q1, hq1⟩ : ∃ q, q = n % 12 := ⟨_, rfl⟩
  have q1I : (n : Int) % 12 = (q1 : Int) := by omega
  obtain ⟨q0, hq0⟩ : ∃ q, q = more % 8 := ⟨_, rfl⟩
  have q0I : (more : Int) % 8 = (q0 : Int) := by omega
  obtain ⟨q2, hq2⟩ : ∃ q, q = q0 + 1 := ⟨_, rfl⟩
  have q2I : (q0 : Int) + 1 = (q2 : Int) := by omega
  obtain ⟨cc, hcc⟩ : ∃ q, q = cut % 20 := ⟨_, rfl⟩
  have ccI : (cut : Int) % 20 = (cc : Int) := by omega
  obtain ⟨k1, hk1⟩ : ∃ q, q = (k + 1) % 256 := ⟨_, rfl⟩
  have k1I : IntKind.wrap .u8 ((k : Int) + 1) = (k1 : Int) := by rw [IntKind.wrap_u8]; omega
  have ga := madeZ_good (n := q1) hk (by omega)
  have gb := madeZ_good (n := q2) (k := k1) (by omega) (by omega)
  have la := secs_made (n := q1) hk (by omega)
  have lb := secs_made (n := q2) (k := k1) (by omega) (by omega)
  have na := madeZ_len q1 k
  have nb := madeZ_len q2 k1
  simp (disch := first | omega | assumption | decide | (simp <;> omega) | fail) [facts, ]
  refine (known_c H).mono ?_
  rintro v H1 ⟨rfl, hl1⟩
  by_cases hk40 : 40 < (n3 : Int)
  · simp (disch := first | omega | assumption | decide | (simp <;> omega) | fail) [facts, hk40]
    exact ⟨_, Heap.le_refl _⟩
  simp (disch := first | omega | assumption | decide | (simp <;> omega) | fail) [facts, hk40]
  refine (newJ 300 (by decide) (by decide) H1).mono ?_
  rintro v H2 ⟨pd, RD, rfl, j2⟩
  simp (disch := first | omega | assumption | decide | (simp <;> omega) | fail) [facts, ]
  refine (openN j2 (by decide) rfl (by decide)).mono ?_
  rintro v H3 ⟨p, a3', cp3, F3, RL, l, rfl, hF3, j3, _, _, hu3⟩
  have hu0 : l.used = 0 := by rw [hu3]; exact newJn_used 300
  have hh3 := j3.jn.half
  simp (disch := first | omega | assumption | decide | (simp <;> omega) | fail) [facts, q1I, q0I, q2I, k1I]
  refine (madeJ j3 q1 k (by omega) hk).mono ?_
  rintro v H4 ⟨F4, a4, c4, rfl, hF4, j4, s4, hc4⟩
  simp (disch := first | omega | assumption | decide | (simp <;> omega) | fail) [facts, q1I, q0I, q2I, k1I]
  refine (madeJ j4 q2 k1 (by omega) (by omega)).mono ?_
  rintro v H5 ⟨F5, a5, c5, rfl, hF5, j5, s5, hc5⟩
  have s4' := s4.le hF5
  have hbo := (h3.le hl1).le (Heap.le_trans hF3 (Heap.le_trans hF4 hF5))
  generalize madeZ q1 k = xs at *
  generalize madeZ q2 k1 = ys at *
  simp (disch := first | omega | assumption | decide | (simp <;> omega) | fail) [facts, ]
  refine (addJ j5 s4' ga (by omega) hc4 (by decide) (by simp)).mono ?_
  rintro v H6 ⟨RL6, RD6, d6, l6, e6, rfl, hh⟩
  have hsx : secA xs ≤ 50 := by
    unfold secA; split
    · omega
    · exact secsN_of (by omega) (by decide)
  obtain ⟨rfl, j6, hl6, hu6⟩ : e6 = 0 ∧ JH F5 RL6 RD6 H6 p pd d6 l6 xs 1 300 ∧ l6.half = l.half ∧ l6.used ≤ 50 := by
    rcases hh with ⟨h1, h2, h3, h4, _⟩ | ⟨_, _, _, h3⟩ | ⟨_, _, _, _, h3, _⟩
    · exact ⟨h1, h2, h3, by omega⟩
    · have := secsN_of (n := (framesB xs).length) (k := 100) (by omega) (by decide)
      omega
    · rw [newZ_left] at h3; omega
  clear hh
  simp (disch := first | omega | assumption | decide | (simp <;> omega) | fail) [facts, ccI]
  refine (cutJ j6 ((cc : Int) + 1) (by omega) (by omega)).mono ?_
  rintro v H7 ⟨RD7, d7, j7⟩
  simp (disch := first | omega | assumption | decide | (simp <;> omega) | fail) [facts, ]
  refine (addJ j7 s5 gb (by omega) hc5 (by decide) (by omega)).mono ?_
  rintro v H8 ⟨RL8, RD8, d8, l8, e8, rfl, hh⟩
  have hre : ECalls Try.prog 22 #[.pointer (some ⟨pd, 0, none⟩), .slice a3 n3 c3, .int .i64 torn] H8 fun _ H' => ∃ RD9 d9 rs2, JD F5 RD9 H' pd d9 rs2 2 300 ∧ d9.left = -1 ∧ (chosen d9.now).used ≤ 100 ∧ ((e8 = 0 ∧ rs2 = xs ++ ys) ∨ (e8 = 22 ∧ (rs2 = xs ∨ rs2 = xs ++ ys))) := by
    have hsy : secsN (framesB ys).length ≤ 50 := secsN_of (by omega) (by decide)
    have hsy2 : secA ys ≤ 50 := by unfold secA; split <;> omega
    rcases hh with ⟨rfl, h2, _, h4, _⟩ | ⟨_, _, _, h3⟩ | ⟨rfl, h2⟩
    · refine (reopenJ h2.disk hbo torn (by omega)).mono ?_
      rintro v H' ⟨RD', d', h, hnow, hl⟩
      exact ⟨RD', d', _, h, hl, by rw [hnow, ← h2.jn.used, h4]; omega, .inl ⟨rfl, rfl⟩⟩
    · have := secsN_of (n := (framesB ys).length) (k := 50) (by omega) (by decide)
      omega
    · refine (reopenC h2 (by decide) hbo torn (by omega)).mono ?_
      rintro v H' ⟨RD', d', h | h, hl, hu⟩
      · exact ⟨RD', d', _, h, hl, by omega, .inr ⟨rfl, .inl rfl⟩⟩
      · exact ⟨RD', d', _, h, hl, by omega, .inr ⟨rfl, .inr rfl⟩⟩
  clear hh
  simp (disch := first | omega | assumption | decide | (simp <;> omega) | fail) [facts, ]
  refine hre.mono ?_
  rintro v H9 ⟨RD9, d9, rs2, j9, hd9, hu9, hrs⟩
  obtain ⟨L, hL⟩ : ∃ L, rs2.length = L := ⟨_, rfl⟩
  have hlen : (xs ++ ys).length = q1 + q2 := by rw [List.length_append, na, nb]
  have hLq : q1 ≤ L ∧ L ≤ q1 + q2 := by
    rcases hrs with ⟨_, h⟩ | ⟨_, h | h⟩
    · rw [← hL, h, hlen]; omega
    · rw [← hL, h, na]; omega
    · rw [← hL, h, hlen]; omega
  have hp1 : xs <+: rs2 := by
    rcases hrs with ⟨_, h⟩ | ⟨_, h | h⟩
    · rw [h]; exact List.prefix_append _ _
    · rw [h]; exact List.prefix_refl _
    · rw [h]; exact List.prefix_append _ _
  have hp2 : rs2.drop q1 <+: ys := by
    rcases hrs with ⟨_, h⟩ | ⟨_, h | h⟩
    · rw [h, ← na, List.drop_left]; exact List.prefix_refl _
    · rw [h, ← na, List.drop_length]; exact List.nil_prefix
    · rw [h, ← na, List.drop_left]; exact List.prefix_refl _
  have he8 : (e8 = 0 ∧ L = q1 + q2) ∨ e8 = 22 := by
    rcases hrs with ⟨h0, h⟩ | ⟨h0, _⟩
    · exact .inl ⟨h0, by rw [← hL, h, hlen]⟩
    · exact .inr h0
  clear hre hrs
  simp (disch := first | omega | assumption | decide | (simp <;> omega) | fail) [facts, ]
  refine (openN j9 (by decide) hL (by omega)).mono ?_
  rintro v H10 ⟨p10, a10, c10, F10, RL10, l10, rfl, hF10, j10, s10, hc10, hu10⟩
  have b1 := begins_c a4 a10 q1 L c4 c10 xs rs2 H10 ((s4'.le hF10).le j10.two.fle) (s10.le j10.two.fle) (by omega) hc10
  rw [decide_eq_true hp1] at b1
  have b2 := begins_c _ a5 (L - q1) q2 (c10 - q1) c5 (rs2.drop q1) ys H10 ((s10.le j10.two.fle).tlR (l := q1) (by omega) hc10) ((s5.le hF10).le j10.two.fle) (by omega) hc5
  rw [decide_eq_true hp2] at b2
  have hq1L : (q1 : Int) ≤ (L : Int) := by omega
  have hh10 := j10.jn.half
  obtain ⟨g, hg⟩ : ∃ r, r = recS 3 3 3 3 := ⟨_, rfl⟩
  have hgg : g.good := by rw [hg]; exact recS_good _ _ _ _ (by decide) (by decide)
  have hgl := framesB_one_le hgg
  have hrec := fun H => rec_c 3 3 3 3 (by decide) (by decide) (by decide) (by decide) H g hg
  have hLI : e8 = 0 → (L : Int) = (q1 : Int) + (q2 : Int) := by omega
  rcases he8 with ⟨rfl, hLe⟩ | rfl
  all_goals
    simp only [forall_const, Int.reduceEq, false_implies] at hLI
    simp (disch := first | omega | assumption | decide | (simp <;> omega) | fail) [facts, ]
    refine b1.mono ?_
    rintro v H11 ⟨rfl, rfl⟩
    simp (disch := first | omega | assumption | decide | (simp <;> omega) | fail) [facts, hq1L]
    refine b2.mono ?_
    rintro v H12 ⟨rfl, rfl⟩
    simp (disch := first | omega | assumption | decide | (simp <;> omega) | fail) [facts, hLI]
    refine (hrec _).mono ?_
    rintro v H13 ⟨rfl, hl13⟩
    simp (disch := first | omega | assumption | decide | (simp <;> omega) | fail) [facts, ]
    refine fresh_intro fun b14 hb14 => ?_
    simp (disch := first | omega | assumption | decide | (simp <;> omega) | fail) [facts, upd_upd]
    generalize e14 : upd _ b14 _ = H14 at *
    obtain ⟨j14, hF14, q14, r14, hl14⟩ := (j10.grow hl13).box hb14 e14
    generalize upd F10 b14 _ = F14 at *
    refine fresh_intro fun b15 hb15 => ?_
    rw [spl_rec g]
    generalize e15 : upd _ b15 _ = H15 at *
    obtain ⟨j15, hF15, q15, r15, hl15⟩ := j14.box hb15 e15
    generalize upd F14 b15 _ = F15 at *
    simp (disch := first | omega | assumption | decide | (simp <;> omega) | fail) [facts, ]
    refine (addJ j15 (rec_row q15) (by simpa using hgg) (by decide) (by decide) (by decide) (by omega)).mono ?_
    rintro v H16 ⟨RL16, RD16, d16, l16, e16, rfl, hh⟩
    obtain ⟨rfl, j16⟩ : e16 = 0 ∧ JH F15 RL16 RD16 H16 p10 pd d16 l16 (rs2 ++ [g]) 3 300 := by
      rcases hh with ⟨h1, h2, _⟩ | ⟨_, _, _, h3⟩ | ⟨_, _, _, _, h3, _⟩
      · exact ⟨h1, h2⟩
      · have := secsN_of (n := (framesB [g]).length) (k := 2) (by omega) (by decide)
        omega
      · omega
    clear hh
    simp (disch := first | omega | assumption | decide | (simp <;> omega) | fail) [facts, ]
    refine (openN j16.disk (by decide) (n := L + 1) (by simp [hL]) (by omega)).mono ?_
    rintro v H17 ⟨p17, a17, c17, F17, RL17, l17, rfl, hF17, j17, s17, hc17, _⟩
    obtain ⟨b17, o17, rfl⟩ := s17.lit (by omega)
    have q14' := j17.two.fle _ _ (hF17 _ _ (hF15 _ _ q14))
    have s10' := (s10.le (Heap.le_trans hF14 (Heap.le_trans hF15 hF17))).le j17.two.fle
    have s17' := s17.le j17.two.fle
    have hel := s17'.el rz17 (k := L) (x := g) (by rw [List.getElem?_append_right (by omega), hL, Nat.sub_self]; rfl) (j := 0) (r := 17) (by decide) (by decide)
    rw [List.drop_zero, List.take_of_length_le (by rw [rz17]; decide), Nat.add_zero] at hel
    have hq := rec_eq g g
    unfold recKs at hq
    unfold RZ.cells at hel hq
    have b3 := begins_c a10 (some ⟨b17, o17, none⟩) L (L + 1) c10 c17 rs2 (rs2 ++ [g]) H17 s10' s17' (by omega) hc17
    rw [decide_eq_true (List.prefix_append _ _)] at b3
    obtain ⟨L1, hL1⟩ : ∃ x, x = L + 1 := ⟨_, rfl⟩
    have hL1I : (L : Int) + 1 = (L1 : Int) := by omega
    have hLlt : (L : Int) < (L1 : Int) := by omega
    rw [← hL1] at b3 hc17 ⊢
    simp (disch := first | omega | assumption | decide | (simp <;> omega) | fail) [facts, ]
    refine w_plan (by simp [facts]) (opsP [0,1,2,3,4,5,6,7,8,9,10,11,12,13,14,15,16,17,18,19] (.both (opsP [20,21,22,23,24] .done) (opsP [21,20,22,23,24] .done))) (by decide +kernel) ?_
    simp (disch := first | omega | assumption | decide | (simp <;> omega) | fail) [facts, hL1I]
    refine b3.mono ?_
    rintro v H18 ⟨rfl, rfl⟩
    simp (disch := first | omega | assumption | decide | (simp <;> omega) | fail) [facts, hLlt, q14', hel, hq]
    exact ⟨_, Heap.le_refl _⟩
end Go.Proofs.Ytnmbmccigpljnaa.GL
