/- Layer 5: how much room there is. -/
import Derived.Test.YtnmbmccigpljnaaJoQ
namespace Go.Proofs.Ytnmbmccigpljnaa.GL
open Go Go.RowKit
set_option maxRecDepth 10000
set_option pp.deepTerms.threshold 8
set_option pp.maxSteps 3000
set_option linter.unusedSimpArgs false
set_option linter.unusedVariables false

theorem sizeJ {F RL RD H : Heap} {p pd : Nat} {d : DZ} {l : LZ} {rs xs : List RZ} {c m : Nat} (j : JH F RL RD H p pd d l rs c m) {a : Option Addr} {n cp : Nat} (hs : SlA F a n 17 (rowsC RZ.cells xs)) (hg : ∀ r ∈ xs, r.good) (hn : n ≤ 100000) (z : Nat) (hz : (framesB xs).length = z) :
    ECalls Try.prog 15 #[.slice a n cp] H fun v H' => v = .int .i64 z ∧ JH F RL RD H' p pd d l rs c m := by
  subst hz
  exact (size_c a n cp xs H (hs.le j.two.fle) hg hn).mono fun v H' h => ⟨h.1, j.grow h.2⟩
theorem JH.mono {F RL RD H : Heap} {p pd : Nat} {d : DZ} {l : LZ} {rs : List RZ} {c c' m : Nat} (j : JH F RL RD H p pd d l rs c m) (h : c ≤ c') : JH F RL RD H p pd d l rs c' m := ⟨j.two, j.log, j.dsk, j.jn.mono h⟩
theorem SlA.one {H : Heap} {b o n k : Nat} {xs : List RZ} {r : RZ} (h : SlA H (some ⟨b, o, none⟩) n 17 (rowsC RZ.cells xs)) (hr : xs[k]? = some r) (hk : k < n) : SlA H (some ⟨b, o + k * 17, none⟩) 1 17 (rowsC RZ.cells [r]) := by
  have h1 := (h.drop (m := k) (by omega)).take (m := 1) (by omega)
  rw [rowsC_drop rz17, rowsC_take rz17] at h1
  have e : (xs.drop k).take 1 = [r] := by
    obtain ⟨hlt, he⟩ := List.getElem?_eq_some_iff.1 hr
    rw [List.drop_eq_getElem_cons hlt, he]; rfl
  rw [e] at h1
  have e2 : (some (⟨b, o, none⟩ : Addr)).map (·.add (k * 17)) = some ⟨b, o + k * 17, none⟩ := by
    by_cases h0 : k = 0
    · subst h0; rfl
    · have h1 : ¬ k * 17 = 0 := by omega
      simp [Addr.add, h1]
  rw [e2] at h1
  exact h1
def roomInv (F : Heap) (p pd : Nat) (a : Option Addr) (n cp m : Nat) (st : St) : Prop :=
  ∃ (k : Nat) (F' RL RD : Heap) (d : DZ) (l : LZ) (rs : List RZ), k ≤ n ∧ st.env 11 = .pointer (some ⟨p, 0, none⟩) ∧ st.env 14 = .slice a n cp ∧ st.env 15 = .int .i64 rs.length ∧ st.env 16 = .int .i64 k ∧ JH F' RL RD st.heap p pd d l rs k m ∧ Heap.le F F' ∧ d.left ≤ 0 ∧ rs.length ≤ k
set_option maxHeartbeats 4000000 in
theorem jroom_law (sec n k : Nat) (rep : Bool) (hsec : sec < 65536) (hn : n < 256) (hk : k < 256) (H : Heap) :
    ECalls Try.prog 3 #[.int .u16 sec, .int .u8 n, .int .u8 k, .bool rep] H fun v _ => v = .bool true := by
  refine ecalls_of_ewp (args := [_, _, _, _]) Try.func3 rfl rfl rfl (by simp [Try.ntmps3]) (by kernel_rfl) ?_
  obtain ⟨q, hq⟩ : ∃ q, q = n % 50 := ⟨_, rfl⟩
  have qI : (n : Int) % 50 = (q : Int) := by omega
  obtain ⟨s0, hs0⟩ : ∃ q, q = sec % 500 := ⟨_, rfl⟩
  have s0I : (sec : Int) % 500 = (s0 : Int) := by omega
  obtain ⟨s, hs⟩ : ∃ q, q = s0 + 8 := ⟨_, rfl⟩
  have sI : (s0 : Int) + 8 = (s : Int) := by omega
  have gq := madeZ_good (n := q) hk (by omega)
  have nq := madeZ_len q k
  have hz61 := secs_made (n := q) hk (by omega)
  obtain ⟨z, hz⟩ : ∃ z, z = (framesB (madeZ q k)).length := ⟨_, rfl⟩
  rw [← hz] at hz61
  simp (disch := first | omega | assumption | decide | (simp <;> omega) | fail) [facts, ]
  refine (known_c H).mono ?_
  rintro v H1 ⟨rfl, hl1⟩
  simp (disch := first | omega | assumption | decide | (simp <;> omega) | fail) [facts, s0I, sI]
  refine (newJ s (by omega) (by omega) H1).mono ?_
  rintro v H2 ⟨pd, RD, rfl, j2⟩
  simp (disch := first | omega | assumption | decide | (simp <;> omega) | fail) [facts, ]
  refine (openN j2 (by decide) rfl (by decide)).mono ?_
  rintro v H3 ⟨p, a3, cp3, F3, RL, l, rfl, hF3, j3, _, _, hu3⟩
  have hu0 : l.used = 0 := by rw [hu3]; exact newJn_used s
  have hh3 := j3.jn.half
  have hfr := fun H (j : JH F3 RL RD H p pd (newZ s) l [] 0 s) => freeJ j
  obtain ⟨fr, hfre⟩ : ∃ fr, fr = (l.half - l.used) * 51 := ⟨_, rfl⟩
  rw [← hfre] at hfr
  have f1 : ¬ (fr : Int) < 16 * (s : Int) - 256 := by omega
  have f2 : ¬ (fr : Int) < 0 := by omega
  simp (disch := first | omega | assumption | decide | (simp <;> omega) | fail) [facts, ]
  refine (hfr _ j3).mono ?_
  rintro v H4 ⟨rfl, rfl⟩
  simp (disch := first | omega | assumption | decide | (simp <;> omega) | fail) [facts, f1]
  refine (hfr _ j3).mono ?_
  rintro v H5 ⟨rfl, rfl⟩
  simp (disch := first | omega | assumption | decide | (simp <;> omega) | fail) [facts, f2, qI]
  refine (madeJ j3 q k (by omega) hk).mono ?_
  rintro v H6 ⟨F6, a6, c6, rfl, hF6, j6, s6, hc6⟩
  generalize madeZ q k = xs at *
  simp (disch := first | omega | assumption | decide | (simp <;> omega) | fail) [facts, ]
  refine (sizeJ j6 s6 gq (by omega) z hz.symm).mono ?_
  rintro v H7 ⟨rfl, j7⟩
  by_cases hbig : 16 * (s : Int) - 256 < (z : Int)
  · simp (disch := first | omega | assumption | decide | (simp <;> omega) | fail) [facts, hbig]
    exact ⟨_, Heap.le_refl _⟩
  simp (disch := first | omega | assumption | decide | (simp <;> omega) | fail) [facts, hbig]
  cases rep with
  | true =>
    simp (disch := first | omega | assumption | decide | (simp <;> omega) | fail) [facts, ]
    refine (replJ j7 s6 gq (by omega) hc6 (by decide)).mono ?_
    rintro v H8 ⟨RL8, RD8, d8, l8, e8, rfl, hh⟩
    obtain ⟨rfl, j8, hl8, hu8⟩ : e8 = 0 ∧ JH F6 RL8 RD8 H8 p pd d8 l8 xs 1 s ∧ l8.half = l.half ∧ l8.used = secsN z := by
      rw [← hz] at hh
      rcases hh with ⟨h1, h2, h3, h4, h5⟩ | ⟨_, _, h3⟩ | ⟨_, _, _, _, h3, _⟩
      · exact ⟨h1, h2, h3, h4⟩
      · unfold secsN at h3; omega
      · rw [newZ_left] at h3; omega
    clear hh
    simp (disch := first | omega | assumption | decide | (simp <;> omega) | fail) [facts, ]
    refine (lenN j8 nq).mono ?_
    rintro v H9 ⟨rfl, rfl⟩
    have hfr8 := freeJ j8
    obtain ⟨fr8, hfre8⟩ : ∃ fr, fr = (l8.half - l8.used) * 51 := ⟨_, rfl⟩
    rw [← hfre8] at hfr8
    simp (disch := first | omega | assumption | decide | (simp <;> omega) | fail) [facts, ]
    refine hfr8.mono ?_
    rintro v H10 ⟨rfl, rfl⟩
    simp (disch := first | omega | assumption | decide | (simp <;> omega) | fail) [facts, ]
    refine (sizeJ j8 s6 gq (by omega) z hz.symm).mono ?_
    rintro v H11 ⟨rfl, j11⟩
    have f3 : 16 * (s : Int) - 256 - (z : Int) ≤ (fr8 : Int) := by unfold secsN at hu8; omega
    simp (disch := first | omega | assumption | decide | (simp <;> omega) | fail) [facts, f3]
    exact ⟨_, Heap.le_refl _⟩
  | false =>
    simp (disch := first | omega | assumption | decide | (simp <;> omega) | fail) [facts, ]
    refine w_loop (roomInv F6 p pd a6 q c6 s) (fun st => q - (intOf (st.env 16)).toNat) ?_ ?_
    · exact ⟨0, F6, RL, RD, _, l, [], Nat.zero_le _, by simp, by simp, by simp, by simp, j7, Heap.le_refl _, by rw [newZ_left]; decide, Nat.le_refl _⟩
    clear j7 j6 j3 j2 hfr
    rintro ⟨env, G⟩ ⟨i, F8, RL8, RD8, d8, l8, rs, hi, e11, e14, e15, e16, j8, hF8, hd8, hrs⟩
    simp only at e11 e14 e15 e16 j8
    by_cases hlt : i < q
    case neg =>
      obtain rfl : i = q := by omega
      have hltI : ¬ (i : Int) < (i : Int) := by omega
      simp (disch := first | omega | assumption | decide | (simp <;> omega) | fail) [facts, e11, e14, e15, e16, hltI]
      refine (lenJ j8).mono ?_
      rintro v H9 ⟨rfl, rfl⟩
      simp (disch := first | omega | assumption | decide | (simp <;> omega) | fail) [facts, e11, e14, e15, e16]
      exact ⟨_, Heap.le_refl _⟩
    have hltI : (i : Int) < (q : Int) := by omega
    have hfr8 := freeJ j8
    obtain ⟨fr8, hfre8⟩ : ∃ fr, fr = (l8.half - l8.used) * 51 := ⟨_, rfl⟩
    rw [← hfre8] at hfr8
    obtain ⟨r, hr⟩ : ∃ r, xs[i]? = some r := ⟨_, List.getElem?_eq_getElem (by omega)⟩
    have hrg := gq r (List.mem_of_getElem? hr)
    obtain ⟨bb, oo, rfl⟩ := s6.lit (by omega)
    have s8 := s6.le (Heap.le_trans hF8 j8.two.fle)
    have hel := s8.el rz17 hr (j := 0) (r := 17) (by decide) (by decide)
    rw [List.drop_zero, List.take_of_length_le (by rw [rz17]; decide), Nat.add_zero] at hel
    unfold RZ.cells at hel
    simp (disch := first | omega | assumption | decide | (simp <;> omega) | fail) [facts, e11, e14, e15, e16, hltI]
    refine hfr8.mono ?_
    rintro v H9 ⟨rfl, rfl⟩
    simp (disch := first | omega | assumption | decide | (simp <;> omega) | fail) [facts, e11, e14, e15, e16, hel]
    refine fresh_intro fun b9 hb9 => ?_
    rw [spl_rec r]
    generalize e9 : upd _ b9 _ = H10 at *
    obtain ⟨j10, hF10, q10, r10, hl10⟩ := j8.box hb9 e9
    generalize upd F8 b9 _ = F10 at *
    simp (disch := first | omega | assumption | decide | (simp <;> omega) | fail) [facts, ]
    refine (addJ j10 (rec_row q10) (by simpa using hrg) (by decide) (by decide) (by omega) (by omega)).mono ?_
    rintro v H11 ⟨RL11, RD11, d11, l11, e11', rfl, hh⟩
    have hfree0 : ¬ (fr8 : Int) < 0 := by omega
    rcases hh with ⟨rfl, h2, h3, h4, h5⟩ | ⟨rfl, h2, h3, h4⟩ | ⟨_, _, _, _, h3, _⟩
    · simp (disch := first | omega | assumption | decide | (simp <;> omega) | fail) [facts, e11, e14, e15, e16, hfree0]
      exact ⟨_, Heap.le_refl _, ⟨i + 1, F10, RL11, RD11, d11, l11, rs ++ [r], by omega, by simp [e11], by simp [e14], by simp, by simp, h2, Heap.le_trans hF8 hF10, by rw [h5 hd8]; exact hd8, by simp; omega⟩, by simp [intOf, e16]; omega⟩
    · have hcz : ¬ (c6 = i) := by omega
      have s11 := ((s6.le (Heap.le_trans hF8 hF10)).one hr hlt)
      obtain ⟨z1, hz1⟩ : ∃ z, (framesB [r]).length = z := ⟨_, rfl⟩
      have hnf : ¬ (z1 : Int) ≤ (fr8 : Int) := by
        have h42 := (framesB_one_le hrg).1
        rw [hz1] at h4 h42
        unfold secsN at h4
        omega
      simp (disch := first | omega | assumption | decide | (simp <;> omega) | fail) [facts, e11, e14, e15, e16, hfree0, hcz]
      refine (sizeJ h2 s11 (by simpa using hrg) (by decide) z1 hz1).mono ?_
      rintro v H12 ⟨rfl, j12⟩
      simp (disch := first | omega | assumption | decide | (simp <;> omega) | fail) [facts, e11, e14, e15, e16, hnf]
      exact ⟨_, Heap.le_refl _, ⟨i + 1, F10, RL11, RD11, d8, l8, rs, by omega, by simp [e11], by simp [e14], by simp [e15], by simp, j12.mono (by omega), Heap.le_trans hF8 hF10, hd8, by omega⟩, by simp [intOf, e16]; omega⟩
    · omega
end Go.Proofs.Ytnmbmccigpljnaa.GL
