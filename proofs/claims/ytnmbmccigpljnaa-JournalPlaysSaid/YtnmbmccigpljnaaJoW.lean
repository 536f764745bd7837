/- Layer 5: any script of records, crashes, openings. -/
import Derived.Test.YtnmbmccigpljnaaJoV
namespace Go.Proofs.Ytnmbmccigpljnaa.GL
open Go Go.RowKit
set_option maxRecDepth 10000
set_option pp.deepTerms.threshold 8
set_option pp.maxSteps 3000
set_option linter.unusedSimpArgs false
set_option linter.unusedVariables false

structure A5Z where
  w : Nat
  n : Nat
  k : Nat
  ks : List Bool
  ka : Option Addr
  kc : Nat
def A5Z.cells (x : A5Z) : List Value := [.int .u8 x.w, .int .u8 x.n, .int .u8 x.k, .slice x.ka x.ks.length x.kc]
theorem a54 (x : A5Z) : x.cells.length = 4 := rfl
structure A5Ok (M : Heap) (x : A5Z) : Prop where
  w : x.w < 256
  n : x.n < 256
  k : x.k < 256
  ks : BoA M x.ka x.ks.length x.ks
theorem A5Ok.le {M M' : Heap} {x : A5Z} (h : A5Ok M x) (hl : Heap.le M M') : A5Ok M' x := ⟨h.w, h.n, h.k, h.ks.le hl⟩
theorem a5_is {M : Heap} {cs : List Value} (h : Fits M [.int .u8, .int .u8, .int .u8, .bools] cs) : ∃ x : A5Z, A5Ok M x ∧ cs = x.cells := by
  obtain ⟨v0, r0, rfl, ⟨w, rfl, hw⟩, h1⟩ := h.cons
  obtain ⟨v1, r1, rfl, ⟨s, rfl, hs⟩, h2⟩ := h1.cons
  obtain ⟨v2, r2, rfl, ⟨n, rfl, hn⟩, h3⟩ := h2.cons
  obtain ⟨v4, r4, rfl, ⟨a', k', c', ks, rfl, _, _, hk⟩, h5⟩ := h3.cons
  have := h5.nil
  subst this
  have hw' := (u8_wf w).1 hw
  have hs' := (u8_wf s).1 hs
  have hn' := (u8_wf n).1 hn
  have hl2 := hk.len
  subst hl2
  refine ⟨⟨w.toNat, s.toNat, n.toNat, ks, a', c'⟩, ⟨by show w.toNat < 256; omega, by show s.toNat < 256; omega, by show n.toNat < 256; omega, hk⟩, ?_⟩
  simp only [A5Z.cells]
  rw [Int.toNat_of_nonneg hw'.1, Int.toNat_of_nonneg hs'.1, Int.toNat_of_nonneg hn'.1]
theorem a5s_of {M : Heap} {xs : List Value} {n : Nat} (hl : xs.length = n * 4) (h : ∀ i, i < n → Fits M [.int .u8, .int .u8, .int .u8, .bools] ((xs.drop (i * 4)).take 4)) : ∃ L : List A5Z, xs = rowsC A5Z.cells L ∧ ∀ x ∈ L, A5Ok M x := by
  obtain ⟨L, e, _, hL⟩ := rows_list a54 hl fun i hi => a5_is (h i hi)
  exact ⟨L, e, hL⟩
/-- What a call may have left under way. -/
def Pend (F RD H : Heap) (pd : Nat) (d : DZ) (rs next : List RZ) (c m : Nat) : Prop :=
  JD F RD H pd d rs (c + 1) m ∨ ∃ d0 u, Cutoff F RD H pd d0 d rs next c m u
section
variable {F RD H : Heap} {pd : Nat} {d : DZ} {rs next : List RZ} {c m : Nat}
theorem Pend.fle (j : Pend F RD H pd d rs next c m) : Heap.le F H := by
  rcases j with j | ⟨d0, u, j⟩
  · exact j.two.fle
  · exact j.1.fle
theorem Pend.grow {H' : Heap} (j : Pend F RD H pd d rs next c m) (hl : Heap.le H H') : Pend F RD H' pd d rs next c m := by
  rcases j with j | ⟨d0, u, j⟩
  · exact .inl (j.grow hl)
  · exact .inr ⟨d0, u, j.1.grow hl, j.2⟩
theorem Pend.sectors (j : Pend F RD H pd d rs next c m) : ∃ w : Nat, w ≤ 4096 ∧ ECalls Try.prog 25 #[.pointer (some ⟨pd, 0, none⟩)] H fun v H' => v = .int .i64 w ∧ H' = H := by
  have key : ∀ {A B : Heap}, Dsk RD pd d → TwoO F A RD H → ∃ w : Nat, w ≤ 4096 ∧ ECalls Try.prog 25 #[.pointer (some ⟨pd, 0, none⟩)] H fun v H' => v = .int .i64 w ∧ H' = H := fun {A B} hd t => by
    refine ⟨d.kept.length, ?_, diskSectors_c t.ble hd⟩
    obtain ⟨_, _, _, _, _, _, _, _, _, hd'⟩ := hd
    exact hd'.few
  rcases j with j | ⟨d0, u, j⟩
  · exact key (B := F) j.dsk j.two
  · exact key (B := F) j.2.1 j.1
theorem reopenP (j : Pend F RD H pd d rs next c m) (hc : c < 255) {a : Option Addr} {n cp : Nat} {ks : List Bool} (hb : BoA F a n ks) (torn : Int) (hn : n ≤ 1000000) :
    ECalls Try.prog 22 #[.pointer (some ⟨pd, 0, none⟩), .slice a n cp, .int .i64 torn] H fun _ H' => ∃ RD' d' rs2, JD F RD' H' pd d' rs2 (c + 1) m ∧ (rs2 = rs ∨ rs2 = next) := by
  rcases j with j | ⟨d0, u, j⟩
  · refine (reopenJ j hb torn hn).mono ?_
    rintro v H' ⟨RD', d', h, _⟩
    exact ⟨RD', d', _, h, .inl rfl⟩
  · refine (reopenC j hc hb torn hn).mono ?_
    rintro v H' ⟨RD', d', h | h, _⟩
    · exact ⟨RD', d', _, h, .inl rfl⟩
    · exact ⟨RD', d', _, h, .inr rfl⟩
end
theorem JD.mono {F RD H : Heap} {pd : Nat} {d : DZ} {rs : List RZ} {c c' m : Nat} (j : JD F RD H pd d rs c m) (h : c ≤ c') : JD F RD H pd d rs c' m := ⟨j.two, j.dsk, j.jd.mono h⟩
def plInv5 (F0 : Heap) (pd n0 c0 m : Nat) (A0 : Option Addr) (st : St) : Prop :=
  ∃ (i p L cp : Nat) (a : Option Addr) (F RL RD : Heap) (d : DZ) (l : LZ) (rs : List RZ), i ≤ n0 ∧ st.env 0 = .slice A0 n0 c0 ∧ st.env 5 = .pointer (some ⟨pd, 0, none⟩) ∧ st.env 6 = .pointer (some ⟨p, 0, none⟩) ∧ st.env 9 = .slice a L cp ∧ st.env 10 = .int .i64 i ∧
    JH F RL RD st.heap p pd d l rs i m ∧ Heap.le F0 F ∧ rs.length = L ∧ L ≤ 5 * i ∧ SlA F a L 17 (rowsC RZ.cells rs) ∧ L ≤ cp
def plMid (F0 : Heap) (pd n0 c0 m i b11 : Nat) (A0 : Option Addr) (x : A5Z) (st : St) : Prop :=
  ∃ (L cp : Nat) (a : Option Addr) (F RD : Heap) (d : DZ) (rs : List RZ), st.env 0 = .slice A0 n0 c0 ∧ st.env 5 = .pointer (some ⟨pd, 0, none⟩) ∧ st.env 9 = .slice a L cp ∧ st.env 10 = .int .i64 i ∧ st.env 11 = .pointer (some ⟨b11, 0, none⟩) ∧
    Heap.le F0 F ∧ F b11 = some (.row true 0 x.cells 0) ∧ rs.length = L ∧ L ≤ 5 * i + 5 ∧ SlA F a L 17 (rowsC RZ.cells rs) ∧ L ≤ cp ∧
    ((st.env 13 = .bool false ∧ ∃ p RL l, st.env 6 = .pointer (some ⟨p, 0, none⟩) ∧ JH F RL RD st.heap p pd d l rs (i + 1) m) ∨
     (st.env 13 = .bool true ∧ L ≤ 5 * i ∧ ∃ (rep : Bool) (n12 c12 : Nat) (a12 : Option Addr) (next : List RZ), st.env 14 = .bool rep ∧ st.env 12 = .slice a12 n12 c12 ∧ SlA F a12 n12 17 (rowsC RZ.cells next) ∧ n12 ≤ c12 ∧ n12 ≤ 5 ∧ Pend F RD st.heap pd d rs (if rep = true then next else rs ++ next) i m))
set_option maxHeartbeats 8000000 in
theorem jplays_law (A0 : Option Addr) (n0 c0 : Nat) (xs : List A5Z) (sec : Nat) (hsec : sec < 65536) (H : Heap) (h0 : SlA H A0 n0 4 (rowsC A5Z.cells xs)) (hx : ∀ x ∈ xs, A5Ok H x) :
    ECalls Try.prog 9 #[.slice A0 n0 c0, .int .u16 sec] H fun v _ => v = .bool true := by
  refine ecalls_of_ewp (args := [_, _]) Try.func9 rfl rfl rfl (by simp [Try.ntmps9]) (by kernel_rfl) ?_
  have hlen : xs.length = n0 := h0.els a54 (by decide)
  obtain ⟨s0, hs0⟩ : ∃ q, q = sec % 300 := ⟨_, rfl⟩
  have s0I : (sec : Int) % 300 = (s0 : Int) := by omega
  obtain ⟨m, hm⟩ : ∃ q, q = s0 + 20 := ⟨_, rfl⟩
  have mI : (s0 : Int) + 20 = (m : Int) := by omega
  simp (disch := first | omega | assumption | decide | (simp <;> omega) | fail) [facts, ]
  refine (known_c H).mono ?_
  rintro v H1 ⟨rfl, hl1⟩
  by_cases h30 : 30 < (n0 : Int)
  · simp (disch := first | omega | assumption | decide | (simp <;> omega) | fail) [facts, h30]
    exact ⟨_, Heap.le_refl _⟩
  simp (disch := first | omega | assumption | decide | (simp <;> omega) | fail) [facts, h30, s0I, mI]
  refine (newJ m (by omega) (by omega) H1).mono ?_
  rintro v H2 ⟨pd, RD, rfl, j2⟩
  simp (disch := first | omega | assumption | decide | (simp <;> omega) | fail) [facts, ]
  refine (openN j2 (by decide) rfl (by decide)).mono ?_
  rintro v H3 ⟨p, a3', cp3, F3, RL, l, rfl, hF3, j3, _, _, hu3⟩
  simp (disch := first | omega | assumption | decide | (simp <;> omega) | fail) [facts, ]
  refine w_loop (plInv5 H1 pd n0 c0 m A0) (fun st => n0 - (intOf (st.env 10)).toNat) ?_ ?_
  · exact ⟨0, p, 0, 0, none, F3, RL, RD, _, l, [], Nat.zero_le _, by simp, by simp, by simp, by simp, by simp, j3, hF3, rfl, Nat.le_refl _, SlA.nil _ _, Nat.le_refl _⟩
  clear j3 j2 hu3 hF3
  rintro ⟨env, G⟩ ⟨i, p, L, cp, a, F4, RL4, RD4, d4, l4, rs, hi, e0, e5, e6, e9, e10, j4, hF4, hL, hLi, s4, hcp⟩
  simp only at e0 e5 e6 e9 e10 j4
  by_cases hlt : i < n0
  case neg =>
    have hltI : ¬ (i : Int) < (n0 : Int) := by omega
    simp (disch := first | omega | assumption | decide | (simp <;> omega) | fail) [facts, e0, e5, e6, e9, e10, hltI]
    refine (openN j4.disk (by omega) hL (by omega)).mono ?_
    rintro v H5 ⟨p5, a5, c5, F5, RL5, l5, rfl, hF5, j5, s5, hc5, _⟩
    have hdn := j5.jn.calm.up
    have hdc := diskDown_c j5.two.ble j5.dsk
    rw [hdn] at hdc
    simp (disch := first | omega | assumption | decide | (simp <;> omega) | fail) [facts, e0, e5, e6, e9, e10]
    refine hdc.mono ?_
    rintro v H6 ⟨rfl, rfl⟩
    simp (disch := first | omega | assumption | decide | (simp <;> omega) | fail) [facts, e0, e5, e6, e9, e10]
    refine (recs_c a5 a L L c5 cp rs rs H6 (s5.le j5.two.fle) ((s4.le hF5).le j5.two.fle) (by omega)).mono ?_
    rintro v H7 ⟨rfl, rfl⟩
    simp (disch := first | omega | assumption | decide | (simp <;> omega) | fail) [facts, e0, e5, e6, e9, e10]
    exact ⟨_, Heap.le_refl _⟩
  have hltI : (i : Int) < (n0 : Int) := by omega
  obtain ⟨x, hxi⟩ : ∃ x, xs[i]? = some x := ⟨_, List.getElem?_eq_getElem (by omega)⟩
  have hxo := (hx x (List.mem_of_getElem? hxi)).le hl1
  obtain ⟨b0, o0, rfl⟩ := h0.lit (by omega)
  have rx : rdNU (G b0) (o0 + i * 4) 4 = some [.int .u8 x.w, .int .u8 x.n, .int .u8 x.k, .slice x.ka x.ks.length x.kc] :=
    (h0.le (Heap.le_trans hl1 (Heap.le_trans hF4 j4.two.fle))).el a54 hxi (j := 0) (r := 4) (by decide) (by decide)
  simp (disch := first | omega | assumption | decide | (simp <;> omega) | fail) [facts, e0, e5, e6, e9, e10, hltI, rx]
  refine fresh_intro fun b11 hb11 => ?_
  simp (disch := first | omega | assumption | decide | (simp <;> omega) | fail) [facts, upd_upd]
  generalize e11' : upd _ b11 _ = G2 at *
  obtain ⟨j5, hF5, q5, r5, hl5⟩ := j4.box hb11 e11'
  generalize upd F4 b11 _ = F5 at *
  by_cases h40 : (40 : Int) < (x.ks.length : Int)
  · simp (disch := first | omega | assumption | decide | (simp <;> omega) | fail) [facts, e0, e5, e6, e9, e10, r5, h40]
    exact ⟨_, Heap.le_refl _⟩
  obtain ⟨w, hw⟩ : ∃ w : Nat, w = x.w % 10 := ⟨_, rfl⟩
  have wI : (x.w : Int) % 10 = (w : Int) := by omega
  simp (disch := first | omega | assumption | decide | (simp <;> omega) | fail) [facts, e0, e5, e6, e9, e10, r5, h40, wI]
  have hwI : ∀ k : Nat, ((w : Int) = (k : Int)) ↔ w = k := fun k => by omega
  refine cond_cutB (plMid F4 pd n0 c0 m i b11 (some ⟨b0, o0, none⟩) x) ?_ ?_
  · by_cases h6 : (w : Int) = 6
    · -- all in the place of all
      obtain ⟨q, hq⟩ : ∃ q : Nat, q = x.n % 6 := ⟨_, rfl⟩
      have qI : (x.n : Int) % 6 = (q : Int) := by omega
      have gq := madeZ_good (n := q) hxo.k (by omega)
      have nq := madeZ_len q x.k
      simp (disch := first | omega | assumption | decide | (simp <;> omega) | fail) [facts, e0, e5, e6, e9, e10, r5, h6, qI]
      refine (madeJ j5 q x.k (by omega) hxo.k).mono ?_
      rintro v H6 ⟨F6, a6, c6, rfl, hF6, j6, s6, hc6⟩
      generalize madeZ q x.k = ys at *
      obtain ⟨z, hz⟩ : ∃ z, z = (framesB ys).length := ⟨_, rfl⟩
      have hz61 := framesB_61 gq
      rw [nq, ← hz] at hz61
      have q11 := hF6 _ _ q5
      have hF46 := Heap.le_trans hF5 hF6
      have hh6 := j6.jn.half
      simp (disch := first | omega | assumption | decide | (simp <;> omega) | fail) [facts, e0, e5, e6, e9, e10]
      refine (replJ j6 s6 gq (by omega) hc6 (by omega)).mono ?_
      rintro v H7 ⟨RL7, RD7, d7, l7, e7, rfl, hh⟩
      rw [← hz] at hh
      rcases hh with ⟨rfl, h2, _⟩ | ⟨rfl, h2, h3⟩ | ⟨rfl, h2⟩
      · have hsz := size_c a6 q c6 ys H7 (s6.le h2.two.fle) gq (by omega)
        rw [← hz] at hsz
        simp (disch := first | omega | assumption | decide | (simp <;> omega) | fail) [facts, e0, e5, e6, e9, e10]
        refine hsz.mono ?_
        rintro v H8 ⟨rfl, hl8⟩
        have j8 := h2.grow hl8
        obtain ⟨wd, hwd, hsec8⟩ := (show Pend F6 RD7 H8 pd d7 ys ys (i + 1) m from .inl (j8.mono (by omega)).disk).sectors
        simp (disch := first | omega | assumption | decide | (simp <;> omega) | fail) [facts, e0, e5, e6, e9, e10]
        refine hsec8.mono ?_
        rintro v H9 ⟨rfl, rfl⟩
        simp (disch := first | omega | assumption | decide | (simp <;> omega) | fail) [facts, e0, e5, e6, e9, e10]
        by_cases hzw : (z : Int) ≤ 16 * (wd : Int) - 256
        all_goals
          simp (disch := first | omega | assumption | decide | (simp <;> omega) | fail) [facts, e0, e5, e6, e9, e10, hzw]
          exact ⟨q, c6, a6, F6, RD7, d7, ys, by simp [e0], by simp [e5], by simp, by simp [e10], by simp, hF46, q11, nq, by omega, s6, hc6, .inl ⟨by simp, p, RL7, l7, by simp [e6], j8.mono (by omega)⟩⟩
      · have hsz := size_c a6 q c6 ys H7 (s6.le h2.two.fle) gq (by omega)
        rw [← hz] at hsz
        simp (disch := first | omega | assumption | decide | (simp <;> omega) | fail) [facts, e0, e5, e6, e9, e10]
        refine hsz.mono ?_
        rintro v H8 ⟨rfl, hl8⟩
        have j8 := h2.grow hl8
        have hsec8 := diskSectors_c j8.two.ble j8.dsk
        rw [j8.jn.calm.same, j8.jn.len] at hsec8
        have hzw : ¬ (z : Int) ≤ 16 * (m : Int) - 256 := by unfold secsN at h3; omega
        simp (disch := first | omega | assumption | decide | (simp <;> omega) | fail) [facts, e0, e5, e6, e9, e10]
        refine hsec8.mono ?_
        rintro v H9 ⟨rfl, rfl⟩
        simp (disch := first | omega | assumption | decide | (simp <;> omega) | fail) [facts, e0, e5, e6, e9, e10, hzw]
        exact ⟨L, cp, a, F6, RD7, _, rs, by simp [e0], by simp [e5], by simp [e9], by simp [e10], by simp, hF46, q11, hL, by omega, s4.le hF46, hcp, .inl ⟨by simp, p, RL7, l4, by simp [e6], j8.mono (by omega)⟩⟩
      · have hP : Pend F6 RD7 H7 pd d7 rs ys i m := .inr ⟨_, _, h2⟩
        have hsz := size_c a6 q c6 ys H7 (s6.le hP.fle) gq (by omega)
        rw [← hz] at hsz
        simp (disch := first | omega | assumption | decide | (simp <;> omega) | fail) [facts, e0, e5, e6, e9, e10]
        refine hsz.mono ?_
        rintro v H8 ⟨rfl, hl8⟩
        have hP8 := hP.grow hl8
        obtain ⟨wd, hwd, hsec8⟩ := hP8.sectors
        simp (disch := first | omega | assumption | decide | (simp <;> omega) | fail) [facts, e0, e5, e6, e9, e10]
        refine hsec8.mono ?_
        rintro v H9 ⟨rfl, rfl⟩
        simp (disch := first | omega | assumption | decide | (simp <;> omega) | fail) [facts, e0, e5, e6, e9, e10]
        by_cases hzw : (z : Int) ≤ 16 * (wd : Int) - 256
        all_goals
          simp (disch := first | omega | assumption | decide | (simp <;> omega) | fail) [facts, e0, e5, e6, e9, e10, hzw]
          exact ⟨L, cp, a, F6, RD7, d7, rs, by simp [e0], by simp [e5], by simp [e9], by simp [e10], by simp, hF46, q11, hL, by omega, s4.le hF46, hcp, .inr ⟨by simp, hLi, true, q, c6, a6, ys, by simp, by simp, s6, hc6, by omega, hP8⟩⟩
    by_cases h7 : (w : Int) = 7
    · simp (disch := first | omega | assumption | decide | (simp <;> omega) | fail) [facts, e0, e5, e6, e9, e10, r5, h6, h7]
      exact ⟨L, cp, a, F5, RD4, d4, rs, by simp [e0], by simp [e5], by simp [e9], by simp [e10], by simp, hF5, q5, hL, by omega, s4.le hF5, hcp, .inr ⟨by simp, hLi, false, 0, 0, none, [], by simp, by simp, SlA.nil _ _, Nat.le_refl _, by omega, .inl (j5.disk.mono (by omega))⟩⟩
    by_cases h8 : (w : Int) = 8
    · obtain ⟨q, hq⟩ : ∃ q : Nat, q = x.n % 14 := ⟨_, rfl⟩
      have qI : (x.n : Int) % 14 = (q : Int) := by omega
      simp (disch := first | omega | assumption | decide | (simp <;> omega) | fail) [facts, e0, e5, e6, e9, e10, r5, h6, h7, h8, qI]
      refine (cutJ j5 ((q : Int) + 1) (by omega) (by omega)).mono ?_
      rintro v H6 ⟨RD6, d6, j6⟩
      simp (disch := first | omega | assumption | decide | (simp <;> omega) | fail) [facts, e0, e5, e6, e9, e10]
      exact ⟨_, Heap.le_refl _, ⟨i + 1, p, L, cp, a, F5, RL4, RD6, d6, l4, rs, by omega, by simp [e0], by simp [e5], by simp [e6], by simp [e9], by simp, j6.mono (by omega), Heap.le_trans hF4 hF5, hL, by omega, s4.le hF5, hcp⟩, by simp [intOf, e10]; omega⟩
    by_cases h9 : (w : Int) = 9
    · simp (disch := first | omega | assumption | decide | (simp <;> omega) | fail) [facts, e0, e5, e6, e9, e10, r5, h6, h7, h8, h9]
      refine (reopenJ j5.disk ((hxo.le (Heap.le_trans hF4 hF5)).ks) _ (by omega)).mono ?_
      rintro v H6 ⟨RD6, d6, j6, _, _⟩
      simp (disch := first | omega | assumption | decide | (simp <;> omega) | fail) [facts, e0, e5, e6, e9, e10]
      exact ⟨L, cp, a, F5, RD6, d6, rs, by simp [e0], by simp [e5], by simp [e9], by simp [e10], by simp, hF5, q5, hL, by omega, s4.le hF5, hcp, .inr ⟨by simp, hLi, false, 0, 0, none, [], by simp, by simp, SlA.nil _ _, Nat.le_refl _, by omega, .inl (j6.mono (by omega))⟩⟩
    obtain ⟨q, hq⟩ : ∃ q : Nat, q = x.n % 4 := ⟨_, rfl⟩
    have qI : (x.n : Int) % 4 = (q : Int) := by omega
    have gq := madeZ_good (n := q) hxo.k (by omega)
    have nq := madeZ_len q x.k
    simp (disch := first | omega | assumption | decide | (simp <;> omega) | fail) [facts, e0, e5, e6, e9, e10, r5, h6, h7, h8, h9, qI]
    refine (madeJ j5 q x.k (by omega) hxo.k).mono ?_
    rintro v H6 ⟨F6, a6, c6, rfl, hF6, j6, s6, hc6⟩
    generalize madeZ q x.k = ys at *
    obtain ⟨z, hz⟩ : ∃ z, z = (framesB ys).length := ⟨_, rfl⟩
    have hz61 := framesB_61 gq
    rw [nq, ← hz] at hz61
    have q11 := hF6 _ _ q5
    have hF46 := Heap.le_trans hF5 hF6
    have hfr := freeJ j6
    obtain ⟨fr, hfre⟩ : ∃ fr, fr = (l4.half - l4.used) * 51 := ⟨_, rfl⟩
    rw [← hfre] at hfr
    simp (disch := first | omega | assumption | decide | (simp <;> omega) | fail) [facts, e0, e5, e6, e9, e10]
    refine hfr.mono ?_
    rintro v H7 ⟨rfl, rfl⟩
    simp (disch := first | omega | assumption | decide | (simp <;> omega) | fail) [facts, e0, e5, e6, e9, e10]
    refine (addJ j6 s6 gq (by omega) hc6 (by omega) (by omega)).mono ?_
    rintro v H8 ⟨RL8, RD8, d8, l8, e8, rfl, hh⟩
    rw [← hz] at hh
    rcases hh with ⟨rfl, h2, _⟩ | ⟨rfl, h2, hne, h3⟩ | ⟨rfl, h2⟩
    · simp (disch := first | omega | assumption | decide | (simp <;> omega) | fail) [facts, e0, e5, e6, e9, e10]
      refine app_recs (s4.le hF46) h2.two.fle (s6.le h2.two.fle) (by omega) ?_
      intro a9 c9 H9 B9 ow9 s9 hc9
      obtain ⟨j9, hF9, _⟩ := h2.join ow9
      have hsz := size_c a6 q c6 ys H9 ((s6.le hF9).le j9.two.fle) gq (by omega)
      rw [← hz] at hsz
      simp (disch := first | omega | assumption | decide | (simp <;> omega) | fail) [facts, e0, e5, e6, e9, e10]
      refine hsz.mono ?_
      rintro v H10 ⟨rfl, hl10⟩
      have j10 := j9.grow hl10
      by_cases hzw : (z : Int) ≤ (fr : Int)
      all_goals
        have hzw' := hzw
        simp only [Int.ofNat_le] at hzw'
        simp (disch := first | omega | assumption | decide | (simp <;> omega) | fail) [facts, e0, e5, e6, e9, e10, hzw, hzw']
        exact ⟨L + q, c9, a9, _, RD8, d8, rs ++ ys, by simp [e0], by simp [e5], by simp, by simp [e10], by simp, Heap.le_trans hF46 hF9, hF9 _ _ q11, by simp [hL, nq], by omega, s9, hc9, .inl ⟨by simp, p, RL8, l8, by simp [e6], j10⟩⟩
    · have hsz := size_c a6 q c6 ys H8 (s6.le h2.two.fle) gq (by omega)
      rw [← hz] at hsz
      have hy0 : 0 < q := by
        rcases Nat.eq_zero_or_pos q with h | h
        · exact absurd (List.eq_nil_of_length_eq_zero (by rw [nq, h])) hne
        · exact h
      have h42 := framesB_ge gq
      rw [nq, ← hz] at h42
      have hzw : ¬ (z : Int) ≤ (fr : Int) := by unfold secsN at h3; omega
      have hzw' : ¬ z ≤ fr := by omega
      simp (disch := first | omega | assumption | decide | (simp <;> omega) | fail) [facts, e0, e5, e6, e9, e10]
      refine hsz.mono ?_
      rintro v H9 ⟨rfl, hl9⟩
      simp (disch := first | omega | assumption | decide | (simp <;> omega) | fail) [facts, e0, e5, e6, e9, e10, hzw, hzw']
      exact ⟨L, cp, a, F6, RD8, _, rs, by simp [e0], by simp [e5], by simp [e9], by simp [e10], by simp, hF46, q11, hL, by omega, s4.le hF46, hcp, .inl ⟨by simp, p, RL8, l4, by simp [e6], (h2.grow hl9).mono (by omega)⟩⟩
    · have hP : Pend F6 RD8 H8 pd d8 rs (rs ++ ys) i m := .inr ⟨_, _, h2⟩
      have hsz := size_c a6 q c6 ys H8 (s6.le hP.fle) gq (by omega)
      rw [← hz] at hsz
      simp (disch := first | omega | assumption | decide | (simp <;> omega) | fail) [facts, e0, e5, e6, e9, e10]
      refine hsz.mono ?_
      rintro v H9 ⟨rfl, hl9⟩
      simp (disch := first | omega | assumption | decide | (simp <;> omega) | fail) [facts, e0, e5, e6, e9, e10]
      by_cases hzw : (z : Int) ≤ (fr : Int)
      all_goals
        have hzw' := hzw
        simp only [Int.ofNat_le] at hzw'
        simp (disch := first | omega | assumption | decide | (simp <;> omega) | fail) [facts, e0, e5, e6, e9, e10, hzw, hzw']
        exact ⟨L, cp, a, F6, RD8, d8, rs, by simp [e0], by simp [e5], by simp [e9], by simp [e10], by simp, hF46, q11, hL, by omega, s4.le hF46, hcp, .inr ⟨by simp, hLi, false, q, c6, a6, ys, by simp, by simp, s6, hc6, by omega, hP.grow hl9⟩⟩
  · clear e0 e5 e6 e9 e10
    rintro ⟨env, G⟩ ⟨L1, cp1, a1, F6, RD6, d6, rs1, e0, e5, e9, e10, e11, hF6, q6, hL1, hL1b, s6, hcp1, hcase⟩
    simp only at e0 e5 e9 e10 e11
    rcases hcase with ⟨e13, p6, RL6, l6, e6, j6⟩ | ⟨e13, hL1c, rep, n12, c12, a12, next, e14, e12, s12, hc12, hn12, hP⟩
    · simp only at e13 e6 j6
      simp (disch := first | omega | assumption | decide | (simp <;> omega) | fail) [facts, e0, e5, e6, e9, e10, e11, e13]
      refine (lenN j6 hL1).mono ?_
      rintro v H7 ⟨rfl, rfl⟩
      simp (disch := first | omega | assumption | decide | (simp <;> omega) | fail) [facts, e0, e5, e6, e9, e10, e11, e13]
      exact ⟨_, Heap.le_refl _, ⟨i + 1, p6, L1, cp1, a1, F6, RL6, RD6, d6, l6, rs1, by omega, by simp [e0], by simp [e5], by simp [e6], by simp [e9], by simp, j6, Heap.le_trans hF4 hF6, hL1, by omega, s6, hcp1⟩, by simp [intOf, e10]; omega⟩
    · simp only at e13 e14 e12 hP
      have r6 := hP.fle _ _ q6
      unfold A5Z.cells at r6
      simp (disch := first | omega | assumption | decide | (simp <;> omega) | fail) [facts, e0, e5, e9, e10, e11, e13, r6]
      refine (reopenP hP (by omega) ((hxo.le (Heap.le_trans hF4 hF6)).ks) _ (by omega)).mono ?_
      rintro v H7 ⟨RD7, d7, rs2, j7, hrs2⟩
      obtain ⟨L2, hL2⟩ : ∃ L, rs2.length = L := ⟨_, rfl⟩
      have hl12 : next.length = n12 := s12.els rz17 (by decide)
      have hL2b : L2 ≤ 5 * i + 5 := by
        rcases hrs2 with h | h
        · rw [← hL2, h]; omega
        · rw [← hL2, h]
          split
          · omega
          · rw [List.length_append]; omega
      simp (disch := first | omega | assumption | decide | (simp <;> omega) | fail) [facts, e0, e5, e9, e10, e11, e13]
      refine (openN j7 (by omega) hL2 (by omega)).mono ?_
      rintro v H8 ⟨p8, a8, c8, F8, RL8, l8, rfl, hF8, j8, s8, hc8, _⟩
      have s8' := s8.le j8.two.fle
      have s6' := (s6.le hF8).le j8.two.fle
      have s12' := (s12.le hF8).le j8.two.fle
      have hLen := lenN j8 hL2
      cases rep with
      | true =>
        simp only [if_true] at hrs2
        have r1 := recs_c a8 a1 L2 L1 c8 cp1 rs2 rs1 H8 s8' s6' (by omega)
        have r2 := recs_c a8 a12 L2 n12 c8 c12 rs2 next H8 s8' s12' (by omega)
        by_cases he : rs2 = rs1
        · rw [decide_eq_true he] at r1
          simp (disch := first | omega | assumption | decide | (simp <;> omega) | fail) [facts, e0, e5, e9, e10, e11, e13, e14, e12]
          refine r1.mono ?_
          rintro v H9 ⟨rfl, rfl⟩
          simp (disch := first | omega | assumption | decide | (simp <;> omega) | fail) [facts, e0, e5, e9, e10, e11, e13, e14, e12]
          refine hLen.mono ?_
          rintro v H10 ⟨rfl, rfl⟩
          simp (disch := first | omega | assumption | decide | (simp <;> omega) | fail) [facts, e0, e5, e9, e10, e11, e13, e14, e12]
          exact ⟨_, Heap.le_refl _, ⟨i + 1, p8, L2, c8, a8, F8, RL8, RD7, d7, l8, rs2, by omega, by simp [e0], by simp [e5], by simp, by simp, by simp, j8, Heap.le_trans hF4 (Heap.le_trans hF6 hF8), hL2, by omega, s8, hc8⟩, by simp [intOf, e10]; omega⟩
        · have he2 : rs2 = next := hrs2.resolve_left he
          rw [decide_eq_false he] at r1
          rw [decide_eq_true he2] at r2
          simp (disch := first | omega | assumption | decide | (simp <;> omega) | fail) [facts, e0, e5, e9, e10, e11, e13, e14, e12]
          refine r1.mono ?_
          rintro v H9 ⟨rfl, rfl⟩
          simp (disch := first | omega | assumption | decide | (simp <;> omega) | fail) [facts, e0, e5, e9, e10, e11, e13, e14, e12]
          refine r2.mono ?_
          rintro v H10 ⟨rfl, rfl⟩
          simp (disch := first | omega | assumption | decide | (simp <;> omega) | fail) [facts, e0, e5, e9, e10, e11, e13, e14, e12]
          refine hLen.mono ?_
          rintro v H11 ⟨rfl, rfl⟩
          simp (disch := first | omega | assumption | decide | (simp <;> omega) | fail) [facts, e0, e5, e9, e10, e11, e13, e14, e12]
          exact ⟨_, Heap.le_refl _, ⟨i + 1, p8, L2, c8, a8, F8, RL8, RD7, d7, l8, rs2, by omega, by simp [e0], by simp [e5], by simp, by simp, by simp, j8, Heap.le_trans hF4 (Heap.le_trans hF6 hF8), hL2, by omega, s8, hc8⟩, by simp [intOf, e10]; omega⟩
      | false =>
        simp only [Bool.false_eq_true, if_false] at hrs2
        have hp1 : rs1 <+: rs2 := by
          rcases hrs2 with h | h
          · rw [h]; exact List.prefix_refl _
          · rw [h]; exact List.prefix_append _ _
        have hp2 : rs2.drop L1 <+: next := by
          rcases hrs2 with h | h
          · rw [h, ← hL1, List.drop_length]; exact List.nil_prefix
          · rw [h, ← hL1, List.drop_left]; exact List.prefix_refl _
        have hLL : L1 ≤ L2 := by rw [← hL1, ← hL2]; exact hp1.length_le
        have hLLI : (L1 : Int) ≤ (L2 : Int) := by omega
        have b1 := begins_c a1 a8 L1 L2 cp1 c8 rs1 rs2 H8 s6' s8' (by omega) hc8
        rw [decide_eq_true hp1] at b1
        have b2 := begins_c _ a12 (L2 - L1) n12 (c8 - L1) c12 (rs2.drop L1) next H8 (s8'.tlR (l := L1) (by omega) hc8) s12' (by omega) hc12
        rw [decide_eq_true hp2] at b2
        simp (disch := first | omega | assumption | decide | (simp <;> omega) | fail) [facts, e0, e5, e9, e10, e11, e13, e14, e12]
        refine b1.mono ?_
        rintro v H9 ⟨rfl, rfl⟩
        simp (disch := first | omega | assumption | decide | (simp <;> omega) | fail) [facts, e0, e5, e9, e10, e11, e13, e14, e12, hLLI]
        refine b2.mono ?_
        rintro v H10 ⟨rfl, rfl⟩
        simp (disch := first | omega | assumption | decide | (simp <;> omega) | fail) [facts, e0, e5, e9, e10, e11, e13, e14, e12]
        refine hLen.mono ?_
        rintro v H11 ⟨rfl, rfl⟩
        simp (disch := first | omega | assumption | decide | (simp <;> omega) | fail) [facts, e0, e5, e9, e10, e11, e13, e14, e12]
        exact ⟨_, Heap.le_refl _, ⟨i + 1, p8, L2, c8, a8, F8, RL8, RD7, d7, l8, rs2, by omega, by simp [e0], by simp [e5], by simp, by simp, by simp, j8, Heap.le_trans hF4 (Heap.le_trans hF6 hF8), hL2, by omega, s8, hc8⟩, by simp [intOf, e10]; omega⟩
end Go.Proofs.Ytnmbmccigpljnaa.GL
