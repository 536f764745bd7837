/- Layer 5: what is put in the place of all. -/
import Derived.Test.YtnmbmccigpljnaaJoP
namespace Go.Proofs.Ytnmbmccigpljnaa.GL
open Go Go.RowKit
set_option maxRecDepth 10000
set_option pp.deepTerms.threshold 8
set_option pp.maxSteps 3000
set_option linter.unusedSimpArgs false
set_option linter.unusedVariables false

section
variable {F RL RD H : Heap} {p pd : Nat} {d : DZ} {l : LZ} {rs news : List RZ} {c m : Nat}
theorem madeJ (j : JH F RL RD H p pd d l rs c m) (n k : Nat) (hn : n < 256) (hk : k < 256) :
    ECalls Try.prog 14 #[.int .u8 n, .int .u8 k] H fun v H' => ∃ F' a cp, v = .slice a n cp ∧ Heap.le F F' ∧ JH F' RL RD H' p pd d l rs c m ∧ SlA F' a n 17 (rowsC RZ.cells (madeZ n k)) ∧ n ≤ cp := by
  refine (made_c n k hn hk H).mono ?_
  rintro v H' ⟨B, ow, lst⟩
  obtain ⟨j1, h1, h2⟩ := j.join ow
  obtain ⟨a, cp, rfl, hs, hcp⟩ := lst.sl h2
  exact ⟨_, a, cp, rfl, h1, j1, hs, hcp⟩
end
theorem secsN_of {n k : Nat} (h : n ≤ k * 51) (hk : 0 < k) : secsN n ≤ k := by unfold secsN; omega
theorem secs_made {n k : Nat} (hk : k < 256) (hn : n ≤ 256) : (framesB (madeZ n k)).length ≤ 61 * n := by
  have := framesB_61 (madeZ_good (n := n) hk hn)
  rw [madeZ_len] at this; exact this
theorem app_recs {F H : Heap} {K : Kont} {a ax : Option Addr} {m n cx : Nat} {xs ys : List RZ} (h : SlA F a m 17 (rowsC RZ.cells xs)) (hF : Heap.le F H) (hx : SlA H ax n 17 (rowsC RZ.cells ys)) (hsm : m + n ≤ 100000)
    (hK : ∀ a' c' H' B, Own H (fun _ => none) H' B → SlA (joinH B F) a' (m + n) 17 (rowsC RZ.cells (xs ++ ys)) → m + n ≤ c' → K (.slice a' (m + n) c') H') : eApp Try.prog 27 27 (.slice a m m) (.slice ax n cx) H K := by
  have hyl := hx.els rz17 (by decide)
  refine app_whole (e := 42) (s := 17) (nbs := 136) (z := .agg #[.int .i64 0, .int .u16 0, .int .u32 0, .string ByteArray.empty, .int .i64 0, .int .i64 0, .int .i64 0, .int .i64 0, .int .i64 0, .int .i64 0, .int .i64 0, .int .i64 0, .int .i64 0, .int .i64 0, .int .i64 0, .int .i64 0, .int .i64 0]) (n := n) (ys := rowsC RZ.cells ys) (by simp [facts]) (by simp [facts]) (by simp [facts]) (by simp [facts]) rfl (by decide) h hF
    (src_sl (e1 := 42) (z := .agg #[.int .i64 0, .int .u16 0, .int .u32 0, .string ByteArray.empty, .int .i64 0, .int .i64 0, .int .i64 0, .int .i64 0, .int .i64 0, .int .i64 0, .int .i64 0, .int .i64 0, .int .i64 0, .int .i64 0, .int .i64 0, .int .i64 0, .int .i64 0]) (by simp [facts]) (by simp [facts]) (by simp [facts]) hx) (by rw [rowsC_len rz17, hyl]) (rows_one ys) (by omega) ?_
  intro a' c' H' B ow hs hc
  rw [← rows_app] at hs
  refine hK a' c' H' B ow ?_ hc
  rcases hs with hs | hs
  · exact hs.le (join_left B F)
  · exact hs.le (join_right fun b o e => ow.off b o (hF _ _ e))
set_option maxHeartbeats 4000000 in
theorem jreplaces_law (n m k more : Nat) (hn : n < 256) (hm : m < 256) (hk : k < 256) (hmo : more < 256) (H : Heap) :
    ECalls Try.prog 4 #[.int .u8 n, .int .u8 m, .int .u8 k, .int .u8 more] H fun v _ => v = .bool true := by
  refine ecalls_of_ewp (args := [_, _, _, _]) Try.func4 rfl rfl rfl (by simp [Try.ntmps4]) (by kernel_rfl) ?_
  obtain ⟨q1, hq1⟩ : ∃ q, q = n % 20 := ⟨_, rfl⟩
  have q1I : (n : Int) % 20 = (q1 : Int) := by omega
  obtain ⟨q2, hq2⟩ : ∃ q, q = m % 20 := ⟨_, rfl⟩
  have q2I : (m : Int) % 20 = (q2 : Int) := by omega
  obtain ⟨q3, hq3⟩ : ∃ q, q = more % 10 := ⟨_, rfl⟩
  have q3I : (more : Int) % 10 = (q3 : Int) := by omega
  obtain ⟨k1, hk1⟩ : ∃ q, q = (k + 1) % 256 := ⟨_, rfl⟩
  have k1I : IntKind.wrap .u8 ((k : Int) + 1) = (k1 : Int) := by rw [IntKind.wrap_u8]; omega
  obtain ⟨k2, hk2⟩ : ∃ q, q = (k + 2) % 256 := ⟨_, rfl⟩
  have k2I : IntKind.wrap .u8 ((k : Int) + 2) = (k2 : Int) := by rw [IntKind.wrap_u8]; omega
  have ga := madeZ_good (n := q1) hk (by omega)
  have gb := madeZ_good (n := q2) (k := k1) (by omega) (by omega)
  have gc := madeZ_good (n := q3) (k := k2) (by omega) (by omega)
  have la := secs_made (n := q1) hk (by omega)
  have lb := secs_made (n := q2) (k := k1) (by omega) (by omega)
  have lc := secs_made (n := q3) (k := k2) (by omega) (by omega)
  have na := madeZ_len q1 k
  have nb := madeZ_len q2 k1
  have nc := madeZ_len q3 k2
  simp (disch := first | omega | assumption | decide | (simp <;> omega) | fail) [facts, ]
  refine (known_c H).mono ?_
  rintro v H1 ⟨rfl, hl1⟩
  simp (disch := first | omega | assumption | decide | (simp <;> omega) | fail) [facts, ]
  refine (newJ 400 (by decide) (by decide) H1).mono ?_
  rintro v H2 ⟨pd, RD, rfl, j2⟩
  simp (disch := first | omega | assumption | decide | (simp <;> omega) | fail) [facts, ]
  refine (openJ j2 (by decide) (by decide)).mono ?_
  rintro v H3 ⟨p, a3, cp3, F3, RL, l, rfl, hF3, j3, _, _, hu3⟩
  have hu0 : l.used = 0 := by rw [hu3]; exact newJn_used 400
  have hh3 := j3.jn.half
  simp (disch := first | omega | assumption | decide | (simp <;> omega) | fail) [facts, q1I, q2I, q3I, k1I, k2I]
  refine (madeJ j3 q1 k (by omega) hk).mono ?_
  rintro v H4 ⟨F4, a4, c4, rfl, hF4, j4, s4, hc4⟩
  simp (disch := first | omega | assumption | decide | (simp <;> omega) | fail) [facts, q1I, q2I, q3I, k1I, k2I]
  refine (madeJ j4 q2 k1 (by omega) (by omega)).mono ?_
  rintro v H5 ⟨F5, a5, c5, rfl, hF5, j5, s5, hc5⟩
  simp (disch := first | omega | assumption | decide | (simp <;> omega) | fail) [facts, q1I, q2I, q3I, k1I, k2I]
  refine (madeJ j5 q3 k2 (by omega) (by omega)).mono ?_
  rintro v H6 ⟨F6, a6, c6, rfl, hF6, j6, s6, hc6⟩
  have s4' := s4.le (Heap.le_trans hF5 hF6)
  have s5' := s5.le hF6
  simp (disch := first | omega | assumption | decide | (simp <;> omega) | fail) [facts, ]
  refine (addJ j6 s4' ga (by omega) hc4 (by decide) (by simp)).mono ?_
  rintro v H7 ⟨RL7, RD7, d7, l7, e7, rfl, hh⟩
  obtain ⟨rfl, j7, hl7, hd7⟩ : e7 = 0 ∧ JH F6 RL7 RD7 H7 p pd d7 l7 (madeZ q1 k) 1 400 ∧ l7.half = l.half ∧ d7.left ≤ 0 := by
    rcases hh with ⟨h1, h2, h3, _, h5⟩ | ⟨_, _, _, h3⟩ | ⟨_, _, _, _, h3, _⟩
    · exact ⟨h1, h2, h3, by rw [h5 (by rw [newZ_left]; decide), newZ_left]; decide⟩
    · have := secsN_of (n := (framesB (madeZ q1 k)).length) (k := 100) (by omega) (by decide)
      omega
    · rw [newZ_left] at h3; omega
  clear hh
  simp (disch := first | omega | assumption | decide | (simp <;> omega) | fail) [facts, ]
  refine (replJ j7 s5' gb (by omega) hc5 (by decide)).mono ?_
  rintro v H8 ⟨RL8, RD8, d8, l8, e8, rfl, hh⟩
  obtain ⟨rfl, j8, hl8, hu8, hd8⟩ : e8 = 0 ∧ JH F6 RL8 RD8 H8 p pd d8 l8 (madeZ q2 k1) 2 400 ∧ l8.half = l7.half ∧ l8.used = secsN (framesB (madeZ q2 k1)).length ∧ d8.left ≤ 0 := by
    rcases hh with ⟨h1, h2, h3, h4, h5⟩ | ⟨_, _, h3⟩ | ⟨_, _, _, _, h3, _⟩
    · exact ⟨h1, h2, h3, h4, by rw [h5 hd7]; exact hd7⟩
    · have := secsN_of (n := (framesB (madeZ q2 k1)).length) (k := 100) (by omega) (by decide)
      omega
    · omega
  clear hh
  simp (disch := first | omega | assumption | decide | (simp <;> omega) | fail) [facts, ]
  refine (lenJ j8).mono ?_
  rintro v H9 ⟨rfl, rfl⟩
  simp (disch := first | omega | assumption | decide | (simp <;> omega) | fail) [facts, nb]
  refine (addJ j8 s6 gc (by omega) hc6 (by decide) (by omega)).mono ?_
  rintro v H10 ⟨RL10, RD10, d10, l10, e10, rfl, hh⟩
  obtain ⟨rfl, j10⟩ : e10 = 0 ∧ JH F6 RL10 RD10 H10 p pd d10 l10 (madeZ q2 k1 ++ madeZ q3 k2) 3 400 := by
    rcases hh with ⟨h1, h2, h3, _, h5⟩ | ⟨_, _, _, h3⟩ | ⟨_, _, _, _, h3, _⟩
    · exact ⟨h1, h2⟩
    · have h8 := secsN_of (n := (framesB (madeZ q2 k1)).length) (k := 50) (by omega) (by decide)
      have h9 := secsN_of (n := (framesB (madeZ q3 k2)).length) (k := 50) (by omega) (by decide)
      omega
    · omega
  clear hh
  simp (disch := first | omega | assumption | decide | (simp <;> omega) | fail) [facts, ]
  obtain ⟨L, hLL⟩ : ∃ L, L = q2 + q3 := ⟨_, rfl⟩
  have hlen : (madeZ q2 k1 ++ madeZ q3 k2).length = L := by rw [List.length_append, nb, nc, hLL]
  refine (openN j10.disk (by decide) hlen (by omega)).mono ?_
  rintro v H11 ⟨p11, a11, cp11, F11, RL11, l11, rfl, hF11, j11, s11, hc11, _⟩
  simp (disch := first | omega | assumption | decide | (simp <;> omega) | fail) [facts, ]
  refine app_recs (s5'.le hF11) j11.two.fle (s6.le (Heap.le_trans hF11 j11.two.fle)) (by omega) ?_
  intro a12 c12 H12 B12 ow12 s12 hc12
  obtain ⟨j12, hF12, _⟩ := j11.join ow12
  rw [← hLL] at s12 hc12 ⊢
  simp (disch := first | omega | assumption | decide | (simp <;> omega) | fail) [facts, ]
  refine (recs_c a11 a12 L L cp11 c12 _ _ H12 ((s11.le hF12).le j12.two.fle) (s12.le j12.two.fle) (by omega)).mono ?_
  rintro v H13 ⟨rfl, rfl⟩
  simp (disch := first | omega | assumption | decide | (simp <;> omega) | fail) [facts, ]
  refine (lenN j12 hlen).mono ?_
  rintro v H14 ⟨rfl, rfl⟩
  simp (disch := first | omega | assumption | decide | (simp <;> omega) | fail) [facts, ]
  exact ⟨_, Heap.le_refl _⟩
end Go.Proofs.Ytnmbmccigpljnaa.GL
