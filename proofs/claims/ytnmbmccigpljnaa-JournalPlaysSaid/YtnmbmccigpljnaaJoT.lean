/- Layer 5: opened again it tells the same; a record that is not right changes nothing. -/
import Derived.Test.YtnmbmccigpljnaaJoS
namespace Go.Proofs.Ytnmbmccigpljnaa.GL
open Go Go.RowKit
set_option maxRecDepth 10000
set_option pp.deepTerms.threshold 8
set_option pp.maxSteps 3000
set_option linter.unusedSimpArgs false
set_option linter.unusedVariables false

theorem rec_of {M : Heap} {k : Array Value} (h : Fits M ([.int .i64, .int .u16, .int .u32, .str, .int .i64, .int .i64, .int .i64, .int .i64, .int .i64, .int .i64, .int .i64, .int .i64, .int .i64, .int .i64, .int .i64, .int .i64, .int .i64]) k.toList) : ∃ r : RZ, k = #[.int .i64 r.kind, .int .u16 r.t, .int .u32 r.s, .string r.pan, .int .i64 r.am, .int .i64 r.ns.a, .int .i64 r.ns.b, .int .i64 r.ns.c, .int .i64 r.ns.d, .int .i64 r.rs.a, .int .i64 r.rs.b, .int .i64 r.rs.c, .int .i64 r.rs.d, .int .i64 r.ls.a, .int .i64 r.ls.b, .int .i64 r.ls.c, .int .i64 r.ls.d] ∧ r.wf ∧ r.pan.size ≤ maxLen := by
  obtain ⟨l⟩ := k
  simp only at h
  obtain ⟨v0, q0, rfl, ⟨kd, rfl, wkd⟩, g0⟩ := h.cons
  obtain ⟨v1, q1, rfl, ⟨t, rfl, wt⟩, g1⟩ := g0.cons
  obtain ⟨v2, q2, rfl, ⟨s, rfl, ws⟩, g2⟩ := g1.cons
  obtain ⟨v3, q3, rfl, ⟨pan, rfl, wpan⟩, g3⟩ := g2.cons
  obtain ⟨v4, q4, rfl, ⟨am, rfl, wam⟩, g4⟩ := g3.cons
  obtain ⟨v5, q5, rfl, ⟨n0, rfl, wn0⟩, g5⟩ := g4.cons
  obtain ⟨v6, q6, rfl, ⟨n1, rfl, wn1⟩, g6⟩ := g5.cons
  obtain ⟨v7, q7, rfl, ⟨n2, rfl, wn2⟩, g7⟩ := g6.cons
  obtain ⟨v8, q8, rfl, ⟨n3, rfl, wn3⟩, g8⟩ := g7.cons
  obtain ⟨v9, q9, rfl, ⟨r0, rfl, wr0⟩, g9⟩ := g8.cons
  obtain ⟨v10, q10, rfl, ⟨r1, rfl, wr1⟩, g10⟩ := g9.cons
  obtain ⟨v11, q11, rfl, ⟨r2, rfl, wr2⟩, g11⟩ := g10.cons
  obtain ⟨v12, q12, rfl, ⟨r3, rfl, wr3⟩, g12⟩ := g11.cons
  obtain ⟨v13, q13, rfl, ⟨l0, rfl, wl0⟩, g13⟩ := g12.cons
  obtain ⟨v14, q14, rfl, ⟨l1, rfl, wl1⟩, g14⟩ := g13.cons
  obtain ⟨v15, q15, rfl, ⟨l2, rfl, wl2⟩, g15⟩ := g14.cons
  obtain ⟨v16, q16, rfl, ⟨l3, rfl, wl3⟩, g16⟩ := g15.cons
  obtain rfl := g16.nil
  refine ⟨⟨kd, t, s, pan, am, ⟨n0, n1, n2, n3⟩, ⟨r0, r1, r2, r3⟩, ⟨l0, l1, l2, l3⟩⟩, rfl, ⟨?_, ?_⟩, wpan⟩
  · exact (u16_wf t).1 wt
  · exact (u32_wf s).1 ws

theorem rec_row2 {H : Heap} {b : Nat} {g x : RZ} (h : H b = some (.row true 0 (rowsC RZ.cells [g, x]) 0)) : SlA H (some ⟨b, 0, none⟩) 2 17 (rowsC RZ.cells [g, x]) := SlA.row h (Nat.le_refl _) rfl (Nat.le_refl 34) rfl
/-- Frames of records of which one is not right. -/
theorem jframes_bad (a : Option Addr) (n c q : Nat) (rs : List RZ) (bad : RZ) (H : Heap) (h : SlA H a n 17 (rowsC RZ.cells rs)) (hg : ∀ r ∈ rs.take q, r.good) (hq : rs[q]? = some bad) (hb : bad.right = false) (hp : bad.pan.size ≤ 140737488351232) (hn : n ≤ 100000) :
    ECalls Try.prog 31 #[.slice a n c] H fun v H' => v = .tuple #[.slice none 0 0, .int .i64 27] ∧ Heap.le H H' := by
  refine ecalls_of_ewp (args := [_]) Try.func31 rfl rfl rfl (by simp [Try.ntmps31]) (by kernel_rfl) ?_
  have hlen := h.els rz17 (by decide)
  have hql : q < rs.length := (List.getElem?_eq_some_iff.1 hq).1
  simp (disch := first | omega | assumption | decide | (simp <;> omega) | fail) [facts, ]
  refine w_loop (fun st => frmsInv H a n c rs st ∧ (intOf (st.env 11)).toNat ≤ q) (fun st => n - (intOf (st.env 11)).toNat) ?_ ?_
  · exact ⟨⟨0, fun _ => none, .slice none 0 0, Nat.zero_le _, by simp, by simp, by simp, by simp, by simp, by simp, Own.nil (Heap.le_refl H), LstR.nil _ _⟩, by simp [intOf]⟩
  rintro ⟨env, G⟩ ⟨⟨k, B, v, hk, e2, e3, e4, e9, e10, e11, own, lb⟩, hkq⟩
  simp only at e2 e3 e4 e9 e10 e11 own hkq
  rw [e11] at hkq
  simp only [intOf, Int.toNat_natCast] at hkq
  have hlt : k < n := by omega
  have hltI : (k : Int) < (n : Int) := by omega
  obtain ⟨r, hr⟩ : ∃ r, rs[k]? = some r := ⟨_, List.getElem?_eq_getElem (by omega)⟩
  have hrm := List.mem_of_getElem? hr
  have hsn := framesB_snoc rs hr
  obtain ⟨bb, oo, rfl⟩ := h.lit (by omega)
  have hG : Heap.le H G := own.all
  have hel := (h.le hG).el rz17 hr (j := 0) (r := 17) (by decide) (by decide)
  rw [List.drop_zero, List.take_of_length_le (by rw [rz17]; decide), Nat.add_zero] at hel
  unfold RZ.cells at hel
  by_cases hkq2 : k = q
  · subst hkq2
    rw [hq] at hr
    cases hr
    have hput := fun H => fput_no bad H hb hp
    simp (disch := first | omega | assumption | decide | (simp <;> omega) | fail) [facts, e2, e3, e4, e9, e10, e11, hltI, hel]
    refine fresh_intro fun b6 hb6 => ?_
    simp (disch := first | omega | assumption | decide | (simp <;> omega) | fail) [facts, upd_upd]
    generalize e9' : upd G b6 _ = G1 at *
    have hl1 : Heap.le G G1 := by rw [← e9']; exact le_upd _ hb6
    refine (hput _).mono ?_
    rintro w G2 ⟨rfl, hl2⟩
    simp (disch := first | omega | assumption | decide | (simp <;> omega) | fail) [facts, e2, e3, e4, e9, e10, e11]
    exact ⟨_, Heap.le_refl _, Heap.le_trans hG (Heap.le_trans hl1 hl2)⟩
  have hrt : r ∈ rs.take q := List.mem_of_getElem? (i := k) (by rw [List.getElem?_take, if_pos (by omega)]; exact hr)
  have hgr := hg r hrt
  have hfl := framesB_take_le (rs.take q) (fun r hr => by have := (putB_len (hg r hr).1).2; omega) k
  rw [List.take_take, Nat.min_eq_left (by omega)] at hfl
  have hrl : (putB r).length ≤ 300 := by have := (putB_len hgr.1).2; omega
  have hput := fun H => fput_c r H hgr.1 hgr.2
  simp (disch := first | omega | assumption | decide | (simp <;> omega) | fail) [facts, e2, e3, e4, e9, e10, e11, hltI, hel]
  refine fresh_intro fun b6 hb6 => ?_
  simp (disch := first | omega | assumption | decide | (simp <;> omega) | fail) [facts, upd_upd]
  replace own := own.grow (le_upd (.row true 0 [.int .i64 r.kind, .int .u16 r.t, .int .u32 r.s, .string r.pan, .int .i64 r.am, .int .i64 r.ns.a, .int .i64 r.ns.b, .int .i64 r.ns.c, .int .i64 r.ns.d, .int .i64 r.rs.a, .int .i64 r.rs.b, .int .i64 r.rs.c, .int .i64 r.rs.d, .int .i64 r.ls.a, .int .i64 r.ls.b, .int .i64 r.ls.c, .int .i64 r.ls.d] 0) hb6)
  generalize upd G b6 _ = G1 at *
  refine (hput _).mono ?_
  rintro w G2 ⟨sv, R, rfl, own2, lb2⟩
  replace own := own.grow own2.all
  simp (disch := first | omega | assumption | decide | (simp <;> omega) | fail) [facts, e2, e3, e4, e9, e10, e11]
  refine app_b lb own (LB.sv (show LB R sv (putB r) from lb2) own2.le) (by omega) ?_
  intro v' G3 B' own3 lb3 _
  rw [← hsn] at lb3
  simp (disch := first | omega | assumption | decide | (simp <;> omega) | fail) [facts, e2, e3, e4, e9, e10, e11]
  exact ⟨_, Heap.le_refl _, ⟨⟨k + 1, B', v', by omega, by simp [e2], by simp [e3], by simp, by simp [e9], by simp [e10], by simp, own3, lb3⟩, by simp [intOf]; omega⟩, by simp [intOf, e11]; omega⟩
theorem jadd_bad {a : Option Addr} {n c q p : Nat} {rs : List RZ} {bad : RZ} {H : Heap} (h : SlA H a n 17 (rowsC RZ.cells rs)) (hg : ∀ r ∈ rs.take q, r.good) (hq : rs[q]? = some bad) (hb : bad.right = false) (hp : bad.pan.size ≤ 140737488351232) (hn : n ≤ 100000) :
    ECalls Try.prog 18 #[.pointer (some ⟨p, 0, none⟩), .slice a n c] H fun v H' => v = .int .i64 27 ∧ Heap.le H H' := by
  refine ecalls_of_ewp (args := [_, _]) Try.func18 rfl rfl rfl (by simp [Try.ntmps18]) (by kernel_rfl) ?_
  simp (disch := first | omega | assumption | decide | (simp <;> omega) | fail) [facts, ]
  refine (jframes_bad a n c q rs bad H h hg hq hb hp hn).mono ?_
  rintro v H' ⟨rfl, hl⟩
  simp (disch := first | omega | assumption | decide | (simp <;> omega) | fail) [facts, ]
  exact ⟨_, Heap.le_refl _, hl⟩
set_option maxHeartbeats 4000000 in
theorem jtwice_law (n k : Nat) (a2 : Option Addr) (n2 c2 : Nat) (ks : List Bool) (torn : Int) (x : RZ) (hw : x.wf) (hpx : x.pan.size ≤ maxLen) (hn : n < 256) (hk : k < 256) (H : Heap) (h2 : BoA H a2 n2 ks) :
    ECalls Try.prog 6 #[.int .u8 n, .int .u8 k, .slice a2 n2 c2, .int .i64 torn, .agg #[.int .i64 x.kind, .int .u16 x.t, .int .u32 x.s, .string x.pan, .int .i64 x.am, .int .i64 x.ns.a, .int .i64 x.ns.b, .int .i64 x.ns.c, .int .i64 x.ns.d, .int .i64 x.rs.a, .int .i64 x.rs.b, .int .i64 x.rs.c, .int .i64 x.rs.d, .int .i64 x.ls.a, .int .i64 x.ls.b, .int .i64 x.ls.c, .int .i64 x.ls.d]] H fun v _ => v = .bool true := by
  refine ecalls_of_ewp (args := [_, _, _, _, _]) Try.func6 rfl rfl rfl (by simp [Try.ntmps6]) (by kernel_rfl) ?_
  obtain ⟨q, hq⟩ : ∃ q, q = n % 20 := ⟨_, rfl⟩
  have qI : (n : Int) % 20 = (q : Int) := by omega
  have gq := madeZ_good (n := q) hk (by omega)
  have nq := madeZ_len q k
  have hz61 := secs_made (n := q) hk (by omega)
  simp (disch := first | omega | assumption | decide | (simp <;> omega) | fail) [facts, ]
  refine fresh_intro fun b9 hb9 => ?_
  have hH0 := le_upd (.row true 0 [.int .i64 x.kind, .int .u16 x.t, .int .u32 x.s, .string x.pan, .int .i64 x.am, .int .i64 x.ns.a, .int .i64 x.ns.b, .int .i64 x.ns.c, .int .i64 x.ns.d, .int .i64 x.rs.a, .int .i64 x.rs.b, .int .i64 x.rs.c, .int .i64 x.rs.d, .int .i64 x.ls.a, .int .i64 x.ls.b, .int .i64 x.ls.c, .int .i64 x.ls.d] 0) hb9
  have r9 := upd_same H b9 (.row true 0 [.int .i64 x.kind, .int .u16 x.t, .int .u32 x.s, .string x.pan, .int .i64 x.am, .int .i64 x.ns.a, .int .i64 x.ns.b, .int .i64 x.ns.c, .int .i64 x.ns.d, .int .i64 x.rs.a, .int .i64 x.rs.b, .int .i64 x.rs.c, .int .i64 x.rs.d, .int .i64 x.ls.a, .int .i64 x.ls.b, .int .i64 x.ls.c, .int .i64 x.ls.d] 0)
  generalize upd H b9 _ = H0 at *
  simp (disch := first | omega | assumption | decide | (simp <;> omega) | fail) [facts, ]
  refine (known_c H0).mono ?_
  rintro v H1 ⟨rfl, hl1⟩
  have r9a := hl1 _ _ r9
  by_cases hk40 : 40 < (n2 : Int)
  · simp (disch := first | omega | assumption | decide | (simp <;> omega) | fail) [facts, hk40]
    exact ⟨_, Heap.le_refl _⟩
  by_cases hp60 : 60 < (x.pan.size : Int)
  · simp (disch := first | omega | assumption | decide | (simp <;> omega) | fail) [facts, hk40, r9a, hp60]
    exact ⟨_, Heap.le_refl _⟩
  simp (disch := first | omega | assumption | decide | (simp <;> omega) | fail) [facts, hk40, r9a, hp60]
  refine (newJ 200 (by decide) (by decide) H1).mono ?_
  rintro v H2 ⟨pd, RD, rfl, j2⟩
  simp (disch := first | omega | assumption | decide | (simp <;> omega) | fail) [facts, ]
  refine (openN j2 (by decide) rfl (by decide)).mono ?_
  rintro v H3 ⟨p, a3, cp3, F3, RL, l, rfl, hF3, j3, _, _, hu3⟩
  have hu0 : l.used = 0 := by rw [hu3]; exact newJn_used 200
  have hh3 := j3.jn.half
  simp (disch := first | omega | assumption | decide | (simp <;> omega) | fail) [facts, qI]
  refine (madeJ j3 q k (by omega) hk).mono ?_
  rintro v H4 ⟨F4, a4, c4, rfl, hF4, j4, s4, hc4⟩
  have hbo := (h2.le (Heap.le_trans hH0 hl1)).le (Heap.le_trans hF3 hF4)
  have q9 := hF4 _ _ (hF3 _ _ r9a)
  generalize madeZ q k = xs at *
  simp (disch := first | omega | assumption | decide | (simp <;> omega) | fail) [facts, ]
  refine (addJ j4 s4 gq (by omega) hc4 (by decide) (by simp)).mono ?_
  rintro v H5 ⟨RL5, RD5, d5, l5, e5, rfl, hh⟩
  obtain ⟨rfl, j5⟩ : e5 = 0 ∧ JH F4 RL5 RD5 H5 p pd d5 l5 xs 1 200 := by
    rcases hh with ⟨h1, h2, _⟩ | ⟨_, _, _, h3⟩ | ⟨_, _, _, _, h3, _⟩
    · exact ⟨h1, h2⟩
    · unfold secsN at h3; omega
    · rw [newZ_left] at h3; omega
  clear hh
  have r9b := j5.two.fle _ _ q9
  simp (disch := first | omega | assumption | decide | (simp <;> omega) | fail) [facts, ]
  refine w_plan (by simp [facts]) (opsP [0,1,2,3,4] (.both (opsP [5,6,7,8,9,10] .done) (opsP [6,5,7,8,9,10] .done))) (by decide +kernel) ?_
  have hR := fun H => rightR_c x H (by omega)
  have hJ : ∀ H6, Heap.le H5 H6 → JH F4 RL5 RD5 H6 p pd d5 l5 xs 1 200 := fun H6 h => j5.grow h
  cases hxr : x.right with
  | true =>
    rw [hxr] at hR
    simp (disch := first | omega | assumption | decide | (simp <;> omega) | fail) [facts, r9b]
    refine (hR _).mono ?_
    rintro v H6 ⟨rfl, hl6⟩
    have j6 := j5.grow hl6
    have hF6 := Heap.le_refl F4
    simp (disch := first | omega | assumption | decide | (simp <;> omega) | fail) [facts, ]
    constructor
    all_goals
      refine (lenN j6 nq).mono ?_
      rintro v H7 ⟨rfl, rfl⟩
      simp (disch := first | omega | assumption | decide | (simp <;> omega) | fail) [facts, ]
      refine (openN j6.disk (by decide) nq (by omega)).mono ?_
      rintro v H8 ⟨p8, a8, c8, F8, RL8, l8, rfl, hF8, j8, s8, hc8, _⟩
      have hb8 := hbo.le (Heap.le_trans hF6 hF8)
      simp (disch := first | omega | assumption | decide | (simp <;> omega) | fail) [facts, ]
      refine (reopenJ j8.disk hb8 torn (by omega)).mono ?_
      rintro v H9 ⟨RD9, d9, j9, _, _⟩
      simp (disch := first | omega | assumption | decide | (simp <;> omega) | fail) [facts, ]
      refine (openN j9 (by decide) nq (by omega)).mono ?_
      rintro v H10 ⟨p10, a10, c10, F10, RL10, l10, rfl, hF10, j10, s10, hc10, _⟩
      simp (disch := first | omega | assumption | decide | (simp <;> omega) | fail) [facts, ]
      refine (openN j10.disk (by decide) nq (by omega)).mono ?_
      rintro v H11 ⟨p11, a11, c11, F11, RL11, l11, rfl, hF11, j11, s11, hc11, _⟩
      have hx := (s4.le (Heap.le_trans hF6 (Heap.le_trans hF8 (Heap.le_trans hF10 hF11)))).le j11.two.fle
      simp (disch := first | omega | assumption | decide | (simp <;> omega) | fail) [facts, ]
      refine (recs_c a8 a4 q q c8 c4 xs xs H11 ((s8.le (Heap.le_trans hF10 hF11)).le j11.two.fle) hx (by omega)).mono ?_
      rintro v H12 ⟨rfl, rfl⟩
      simp (disch := first | omega | assumption | decide | (simp <;> omega) | fail) [facts, ]
      refine (recs_c a10 a4 q q c10 c4 xs xs H12 ((s10.le hF11).le j11.two.fle) hx (by omega)).mono ?_
      rintro v H13 ⟨rfl, rfl⟩
      simp (disch := first | omega | assumption | decide | (simp <;> omega) | fail) [facts, ]
      refine (recs_c a11 a4 q q c11 c4 xs xs H13 (s11.le j11.two.fle) hx (by omega)).mono ?_
      rintro v H14 ⟨rfl, rfl⟩
      simp (disch := first | omega | assumption | decide | (simp <;> omega) | fail) [facts, ]
      exact ⟨_, Heap.le_refl _⟩
  | false =>
    rw [hxr] at hR
    obtain ⟨g, hg⟩ : ∃ r, r = recS 0 0 0 1 := ⟨_, rfl⟩
    have hgg : g.good := by rw [hg]; exact recS_good _ _ _ _ (by decide) (by decide)
    have hc := fun H => rec_c 0 0 0 1 (by decide) (by decide) (by decide) (by decide) H g hg
    simp (disch := first | omega | assumption | decide | (simp <;> omega) | fail) [facts, r9b]
    refine (hR _).mono ?_
    rintro v H6 ⟨rfl, hl6⟩
    have r9c := hl6 _ _ r9b
    simp (disch := first | omega | assumption | decide | (simp <;> omega) | fail) [facts, r9c]
    constructor
    all_goals
      refine (hc _).mono ?_
      rintro v H7 ⟨rfl, hl7⟩
      have r9d := hl7 _ _ r9c
      have j7 := (j5.grow hl6).grow hl7
      simp (disch := first | omega | assumption | decide | (simp <;> omega) | fail) [facts, r9d]
      refine fresh_intro fun b7 hb7 => ?_
      generalize e7 : upd H7 b7 _ = H7' at *
      have e7' : upd H7 b7 (.row true 0 (rowsC RZ.cells [g, x]) 0) = H7' := e7
      clear e7
      obtain ⟨j7', hF7, q7, r7, hl7'⟩ := j7.box hb7 e7'
      simp (disch := first | omega | assumption | decide | (simp <;> omega) | fail) [facts, ]
      refine (jadd_bad (q := 1) (bad := x) (rec_row2 r7) (by simpa using hgg) rfl hxr (by omega) (by decide)).mono ?_
      rintro v H8' ⟨rfl, hl8⟩
      have j6 := j7'.grow hl8
      have hF6 := hF7
      simp (disch := first | omega | assumption | decide | (simp <;> omega) | fail) [facts, ]
      refine (lenN j6 nq).mono ?_
      rintro v H7 ⟨rfl, rfl⟩
      simp (disch := first | omega | assumption | decide | (simp <;> omega) | fail) [facts, ]
      refine (openN j6.disk (by decide) nq (by omega)).mono ?_
      rintro v H8 ⟨p8, a8, c8, F8, RL8, l8, rfl, hF8, j8, s8, hc8, _⟩
      have hb8 := hbo.le (Heap.le_trans hF6 hF8)
      simp (disch := first | omega | assumption | decide | (simp <;> omega) | fail) [facts, ]
      refine (reopenJ j8.disk hb8 torn (by omega)).mono ?_
      rintro v H9 ⟨RD9, d9, j9, _, _⟩
      simp (disch := first | omega | assumption | decide | (simp <;> omega) | fail) [facts, ]
      refine (openN j9 (by decide) nq (by omega)).mono ?_
      rintro v H10 ⟨p10, a10, c10, F10, RL10, l10, rfl, hF10, j10, s10, hc10, _⟩
      simp (disch := first | omega | assumption | decide | (simp <;> omega) | fail) [facts, ]
      refine (openN j10.disk (by decide) nq (by omega)).mono ?_
      rintro v H11 ⟨p11, a11, c11, F11, RL11, l11, rfl, hF11, j11, s11, hc11, _⟩
      have hx := (s4.le (Heap.le_trans hF6 (Heap.le_trans hF8 (Heap.le_trans hF10 hF11)))).le j11.two.fle
      simp (disch := first | omega | assumption | decide | (simp <;> omega) | fail) [facts, ]
      refine (recs_c a8 a4 q q c8 c4 xs xs H11 ((s8.le (Heap.le_trans hF10 hF11)).le j11.two.fle) hx (by omega)).mono ?_
      rintro v H12 ⟨rfl, rfl⟩
      simp (disch := first | omega | assumption | decide | (simp <;> omega) | fail) [facts, ]
      refine (recs_c a10 a4 q q c10 c4 xs xs H12 ((s10.le hF11).le j11.two.fle) hx (by omega)).mono ?_
      rintro v H13 ⟨rfl, rfl⟩
      simp (disch := first | omega | assumption | decide | (simp <;> omega) | fail) [facts, ]
      refine (recs_c a11 a4 q q c11 c4 xs xs H13 (s11.le j11.two.fle) hx (by omega)).mono ?_
      rintro v H14 ⟨rfl, rfl⟩
      simp (disch := first | omega | assumption | decide | (simp <;> omega) | fail) [facts, ]
      exact ⟨_, Heap.le_refl _⟩
end Go.Proofs.Ytnmbmccigpljnaa.GL
