/- Layer 18: the walk of SetLoads. -/
import Derived.Test.YtgeocnggfgpmoaaCaE
namespace Go.Proofs.Ytgeocnggfgpmoaa.GL
open Go Go.RowKit
set_option maxRecDepth 10000
set_option pp.deepTerms.threshold 8
set_option pp.maxSteps 3000
set_option linter.unusedSimpArgs false
set_option linter.unusedVariables false

theorem four_of {z : List Int} (h : z.length = 4) : ∃ a b c d, z = [a, b, c, d] := by
  match z, h with
  | [a, b, c, d], _ => exact ⟨a, b, c, d, rfl⟩
theorem place_few (k : Int) : fewIn (placeZ k) := by have := placeZ_in k; unfold fewIn; omega
theorem zero_few : fewIn 0 := by decide
theorem ok_new {s : S4} (h0 : i64In s.a.d) (h1 : i64In s.b.d) (h2 : i64In s.c.d) (h3 : i64In s.e.d) : OkS (newS s) := by
  unfold OkS OkC newS newC fewIn; simp only
  refine ⟨⟨?_, ?_, ?_, ?_, h0⟩, ⟨?_, ?_, ?_, ?_, h1⟩, ⟨?_, ?_, ?_, ?_, h2⟩, ⟨?_, ?_, ?_, ?_, h3⟩⟩ <;> omega
theorem ok_load {s : S4} {n0 n1 n2 n3 : Int} (hs : OkS s) (hf : fourIn n0 n1 n2 n3) : OkS (loadS s n0 n1 n2 n3) := by
  obtain ⟨⟨_, _, _, _, h0⟩, ⟨_, _, _, _, h1⟩, ⟨_, _, _, _, h2⟩, ⟨_, _, _, _, h3⟩⟩ := hs
  obtain ⟨f0, f1, f2, f3⟩ := hf
  unfold fewIn at f0 f1 f2 f3
  unfold OkS OkC loadS fewIn; simp only
  refine ⟨⟨?_, ?_, ?_, ?_, h0⟩, ⟨?_, ?_, ?_, ?_, h1⟩, ⟨?_, ?_, ?_, ?_, h2⟩, ⟨?_, ?_, ?_, ?_, h3⟩⟩ <;> omega
theorem leftZ_few {l g r : Int} (hl : fewIn l) (hg : fewIn g) (hr : fewIn r) : leftZ l g r = max (l - g - r) 0 := if_pos ⟨hl, hg, hr⟩
theorem fitC_iff {c : Cs} {n r : Int} (h : OkC c) : fitC c n r ↔ n + r ≤ c.l - c.g - c.r := by
  obtain ⟨h1, h2, h3, h4, _⟩ := h
  unfold fitC; rw [leftZ_few h1 h2 h3]; unfold fewIn at h1 h2 h3; omega
theorem ok_addC {c : Cs} {n r : Int} (h : OkC c) (hn : fewIn n) (hr : fewIn r) (hf : fitC c n r) : OkC (addC c n r) := by
  have hf := (fitC_iff h).1 hf
  obtain ⟨h1, h2, h3, h4, h5⟩ := h
  unfold OkC addC fewIn at *; simp only
  exact ⟨by omega, by omega, by omega, by omega, h5⟩
theorem ok_add {s : S4} {n0 n1 n2 n3 r0 r1 r2 r3 : Int} (hs : OkS s) (hn : fourIn n0 n1 n2 n3) (hr : fourIn r0 r1 r2 r3) (hf : fitS s n0 n1 n2 n3 r0 r1 r2 r3) : OkS (addS s n0 n1 n2 n3 r0 r1 r2 r3) :=
  ⟨ok_addC hs.1 hn.1 hr.1 hf.1, ok_addC hs.2.1 hn.2.1 hr.2.1 hf.2.1, ok_addC hs.2.2.1 hn.2.2.1 hr.2.2.1 hf.2.2.1, ok_addC hs.2.2.2 hn.2.2.2 hr.2.2.2 hf.2.2.2⟩
/-- after a Give the set is some sound set, whatever the numbers were -/
theorem give_some (s : S4) (p : Nat) (n0 n1 n2 n3 r0 r1 r2 r3 : Int) (H : Heap) (lp : H p = some (.row true 0 (flat s) 0)) (hs : OkS s) (hn : fourIn n0 n1 n2 n3) (hr : fourIn r0 r1 r2 r3) :
    ECalls Try.prog 10 #[.pointer (some ⟨p, 0, none⟩), notesV n0 n1 n2 n3, notesV r0 r1 r2 r3] H fun v H' => ∃ s' E, v = .int .i64 E ∧ OkS s' ∧ Heap.le (dele H p) H' ∧ H' p = some (.row true 0 (flat s') 0) := by
  refine (give_c s p n0 n1 n2 n3 r0 r1 r2 r3 H lp hs hn hr).mono ?_
  rintro v H' ⟨rfl, hle, lp'⟩
  refine ⟨_, _, rfl, ?_, hle, lp'⟩
  split
  · rename_i hf; exact ok_add hs hn hr hf
  · exact hs
/-- all that was loaded is given -/
theorem give_full (s : S4) (p : Nat) (n0 n1 n2 n3 : Int) (H : Heap) (lp : H p = some (.row true 0 (flat (loadS s n0 n1 n2 n3)) 0)) (hs : OkS s) (hn : fourIn n0 n1 n2 n3) :
    ECalls Try.prog 10 #[.pointer (some ⟨p, 0, none⟩), notesV n0 n1 n2 n3, notesV 0 0 0 0] H fun v H' => v = .int .i64 0 ∧ Heap.le (dele H p) H' ∧ H' p = some (.row true 0 (flat (addS (loadS s n0 n1 n2 n3) n0 n1 n2 n3 0 0 0 0)) 0) := by
  have hok := ok_load hs hn
  have hfit : fitS (loadS s n0 n1 n2 n3) n0 n1 n2 n3 0 0 0 0 := by
    refine ⟨(fitC_iff hok.1).2 ?_, (fitC_iff hok.2.1).2 ?_, (fitC_iff hok.2.2.1).2 ?_, (fitC_iff hok.2.2.2).2 ?_⟩ <;> simp [loadS]
  have h := give_c _ p n0 n1 n2 n3 0 0 0 0 H lp hok hn ⟨zero_few, zero_few, zero_few, zero_few⟩
  rw [if_pos hfit, if_pos hfit] at h
  exact h
theorem give_over (s : S4) (p : Nat) (n0 n1 n2 n3 : Int) (H : Heap) (lp : H p = some (.row true 0 (flat (addS (loadS s n0 n1 n2 n3) n0 n1 n2 n3 0 0 0 0)) 0)) (hs : OkS s) (hn : fourIn n0 n1 n2 n3) :
    ECalls Try.prog 10 #[.pointer (some ⟨p, 0, none⟩), notesV 1 0 0 0, notesV 0 0 0 0] H fun v H' => v = .int .i64 25 ∧ Heap.le (dele H p) H' ∧ H' p = some (.row true 0 (flat (addS (loadS s n0 n1 n2 n3) n0 n1 n2 n3 0 0 0 0)) 0) := by
  have hok := ok_load hs hn
  have hfit : fitS (loadS s n0 n1 n2 n3) n0 n1 n2 n3 0 0 0 0 := by
    refine ⟨(fitC_iff hok.1).2 ?_, (fitC_iff hok.2.1).2 ?_, (fitC_iff hok.2.2.1).2 ?_, (fitC_iff hok.2.2.2).2 ?_⟩ <;> simp [loadS]
  have hok2 := ok_add hok hn ⟨zero_few, zero_few, zero_few, zero_few⟩ hfit
  have hfit2 : ¬ fitS (addS (loadS s n0 n1 n2 n3) n0 n1 n2 n3 0 0 0 0) 1 0 0 0 0 0 0 0 := fun h => by
    have h := (fitC_iff hok2.1).1 h.1
    simp [loadS, addS, addC] at h
  have h := give_c _ p 1 0 0 0 0 0 0 0 H lp hok2 ⟨by decide, zero_few, zero_few, zero_few⟩ ⟨zero_few, zero_few, zero_few, zero_few⟩
  rw [if_neg hfit2, if_neg hfit2] at h
  exact h

theorem bad_or (z : Int) : ¬ 0 ≤ z ∨ (0 ≤ z ∧ ¬ z ≤ 10000) ∨ (0 ≤ z ∧ z ≤ 10000) := by omega
set_option maxHeartbeats 4000000 in
theorem setLoads_c (k : Nat) (n0 n1 n2 n3 g0 g1 g2 g3 : Int) (H : Heap) (hk : k < 256) : ECalls Try.prog 5 #[.int .u8 k, notesV n0 n1 n2 n3, notesV g0 g1 g2 g3] H fun r _ => r = .bool true := by
  refine ecalls_of_ewp (args := [_, _, _]) Try.func5 rfl rfl rfl (by simp [Try.ntmps5]) (by kernel_rfl) ?_
  have cs := fun H => small_c g0 g1 g2 g3 0 H (by decide)
  simp only [notesV] at cs ⊢
  simp (disch := first | omega | assumption | decide | (simp <;> omega) | fail) [facts, ]
  refine fresh_intro fun b4 hb4 => ?_
  simp (disch := first | omega | assumption | decide | (simp <;> omega) | fail) [facts, ]
  refine fresh_intro fun b5 hb5 => ?_
  have y45 : b4 ≠ b5 := ne_of_fresh hb5 (upd_same _ _ _)
  have y45' := y45.symm
  simp (disch := first | omega | assumption | decide | (simp <;> omega) | fail) [facts, upd_ne]
  have k4 := upd_other (o := .row true 0 [.int .i64 g0, .int .i64 g1, .int .i64 g2, .int .i64 g3] 0) hb5 (upd_same H b4 (.row true 0 [.int .i64 n0, .int .i64 n1, .int .i64 n2, .int .i64 n3] 0))
  have k5 := upd_same (upd H b4 (.row true 0 [.int .i64 n0, .int .i64 n1, .int .i64 n2, .int .i64 n3] 0)) b5 (.row true 0 [.int .i64 g0, .int .i64 g1, .int .i64 g2, .int .i64 g3] 0)
  try rw [upd_upd]
  refine (known_c _).mono ?_
  rintro r H1 ⟨rfl, hle1⟩
  have l4 := hle1 _ _ k4
  have l5 := hle1 _ _ k5
  clear k4 k5 hle1
  simp (disch := first | omega | assumption | decide | (simp <;> omega) | fail) [facts, ]
  refine (cass_c k _ hk).mono ?_
  rintro r H2 ⟨⟨s, rfl, e0, e1, e2, e3⟩, hle2⟩
  simp (disch := first | omega | assumption | decide | (simp <;> omega) | fail) [facts, ]
  refine (new_c s _).mono ?_
  rintro r H3 ⟨p, rfl, hpn, lp, hle3⟩
  have hok := ok_new e0 e1 e2 e3
  generalize newS s = t at lp hok
  have y4 : b4 ≠ p := ne_of_fresh hpn (hle2 _ _ l4)
  replace l4 := hle3 _ _ (hle2 _ _ l4)
  replace l5 := hle3 _ _ (hle2 _ _ l5)
  clear hle2 hle3 hpn e0 e1 e2 e3
  simp (disch := first | omega | assumption | decide | (simp <;> omega) | fail) [facts, l5]
  refine (cs _).mono ?_
  rintro r H4 ⟨rfl, hle4⟩
  replace lp := hle4 _ _ lp
  replace l4 := hle4 _ _ l4
  clear hle4 l5
  have cg := give_some t p (placeZ g0) (placeZ g1) (placeZ g2) (placeZ g3) 0 0 0 0 H4 lp hok ⟨place_few _, place_few _, place_few _, place_few _⟩ ⟨zero_few, zero_few, zero_few, zero_few⟩
  simp only [notesV] at cg
  simp (disch := first | omega | assumption | decide | (simp <;> omega) | fail) [facts, ]
  refine cg.mono ?_
  rintro r H5 ⟨t1, E, rfl, hok1, hle5, lp1⟩
  replace l4 := hle5 _ _ (dele_get y4 l4)
  clear cg hle5 lp hok cs
  have lp := lp1
  clear lp1
  have ca := all_c t1 p H5 lp
  have cl := fun H lp => load_c t1 p n0 n1 n2 n3 H lp
  have ca2 := fun H lp => all_c t1 p H lp
  have ca3 := fun H lp => all_c (loadS t1 n0 n1 n2 n3) p H lp
  have cf := fun hf H lp => give_full t1 p n0 n1 n2 n3 H lp hok1 hf
  have co := fun hf H lp => give_over t1 p n0 n1 n2 n3 H lp hok1 hf
  have cgi := fun H lp => given_c (addS (loadS t1 n0 n1 n2 n3) n0 n1 n2 n3 0 0 0 0) p H lp
  clear hok1
  obtain ⟨⟨d0, l0, c0, r0⟩, ⟨d1, l1, c1, r1⟩, ⟨d2, l2, c2, r2⟩, ⟨d3, l3, c3, r3⟩⟩ := t1
  simp only [notesV, setV, flat, loadS, addS, addC] at ca cl ca2 ca3 cf co cgi lp
  simp (disch := first | omega | assumption | decide | (simp <;> omega) | fail) [facts, ]
  refine ca.mono ?_
  rintro r H6 ⟨rfl, hle6⟩
  replace l4 := hle6 _ _ l4
  replace lp := hle6 _ _ lp
  clear hle6 ca
  simp (disch := first | omega | assumption | decide | (simp <;> omega) | fail) [facts, ]
  refine fresh_intro fun b8 hb8 => ?_
  have y8 : b8 ≠ p := (ne_of_fresh hb8 lp).symm
  have y48 : b4 ≠ b8 := ne_of_fresh hb8 l4
  have l8 := upd_same H6 b8 (.row true 0 [.int .i64 d0, .int .i64 l0, .int .i64 c0, .int .i64 r0, .int .i64 d1, .int .i64 l1, .int .i64 c1, .int .i64 r1, .int .i64 d2, .int .i64 l2, .int .i64 c2, .int .i64 r2, .int .i64 d3, .int .i64 l3, .int .i64 c3, .int .i64 r3] 0)
  replace l4 := upd_other (o := .row true 0 [.int .i64 d0, .int .i64 l0, .int .i64 c0, .int .i64 r0, .int .i64 d1, .int .i64 l1, .int .i64 c1, .int .i64 r1, .int .i64 d2, .int .i64 l2, .int .i64 c2, .int .i64 r2, .int .i64 d3, .int .i64 l3, .int .i64 c3, .int .i64 r3] 0) hb8 l4
  replace lp := upd_other (o := .row true 0 [.int .i64 d0, .int .i64 l0, .int .i64 c0, .int .i64 r0, .int .i64 d1, .int .i64 l1, .int .i64 c1, .int .i64 r1, .int .i64 d2, .int .i64 l2, .int .i64 c2, .int .i64 r2, .int .i64 d3, .int .i64 l3, .int .i64 c3, .int .i64 r3] 0) hb8 lp
  simp (disch := first | omega | assumption | decide | (simp <;> omega) | fail) [facts, upd_upd]
  generalize upd H6 b8 (.row true 0 [.int .i64 d0, .int .i64 l0, .int .i64 c0, .int .i64 r0, .int .i64 d1, .int .i64 l1, .int .i64 c1, .int .i64 r1, .int .i64 d2, .int .i64 l2, .int .i64 c2, .int .i64 r2, .int .i64 d3, .int .i64 l3, .int .i64 c3, .int .i64 r3] 0) = H7 at *
  by_cases hf : fourIn n0 n1 n2 n3
  · obtain ⟨f0, f1, f2, f3⟩ := hf
    have hf : fourIn n0 n1 n2 n3 := ⟨f0, f1, f2, f3⟩
    unfold fewIn at f0 f1 f2 f3
    refine w_cutB (fun s => s.env 4 = .pointer (some ⟨b4, 0, none⟩) ∧ s.env 7 = .pointer (some ⟨p, 0, none⟩) ∧ s.env 8 = .pointer (some ⟨b8, 0, none⟩) ∧ s.env 9 = .bool true ∧ s.heap = H7) ?_ ?_
    · refine w_unroll 5 ?_
      simp (disch := first | omega | assumption | decide | (simp <;> omega) | fail) [facts, l4, f0.1, f0.2, f1.1, f1.2, f2.1, f2.2, f3.1, f3.2]
    rintro ⟨e, _⟩ ⟨e4, e7, e8, e9, rfl⟩
    simp only at e4 e7 e8 e9 l4 l8 lp
    simp only [if_pos hf] at cl
    simp (disch := first | omega | assumption | decide | (simp <;> omega) | fail) [facts, e4, e7, e8, e9, l4]
    refine (cl _ lp).mono ?_
    rintro r H8 ⟨rfl, hle8, lp⟩
    replace l4 := hle8 _ _ (dele_get y4 l4)
    replace l8 := hle8 _ _ (dele_get y8 l8)
    simp (disch := first | omega | assumption | decide | (simp <;> omega) | fail) [facts, e4, e7, e8, e9]
    refine (ca3 _ lp).mono ?_
    rintro r H9 ⟨rfl, hle9⟩
    replace l4 := hle9 _ _ l4
    replace l8 := hle9 _ _ l8
    replace lp := hle9 _ _ lp
    simp (disch := first | omega | assumption | decide | (simp <;> omega) | fail) [facts, e4, e7, e8, e9]
    refine fresh_intro fun b11 hb11 => ?_
    have l11 := upd_same H9 b11 (.row true 0 [.int .i64 d0, .int .i64 n0, .int .i64 0, .int .i64 0, .int .i64 d1, .int .i64 n1, .int .i64 0, .int .i64 0, .int .i64 d2, .int .i64 n2, .int .i64 0, .int .i64 0, .int .i64 d3, .int .i64 n3, .int .i64 0, .int .i64 0] 0)
    replace l4 := upd_other (o := .row true 0 [.int .i64 d0, .int .i64 n0, .int .i64 0, .int .i64 0, .int .i64 d1, .int .i64 n1, .int .i64 0, .int .i64 0, .int .i64 d2, .int .i64 n2, .int .i64 0, .int .i64 0, .int .i64 d3, .int .i64 n3, .int .i64 0, .int .i64 0] 0) hb11 l4
    replace l8 := upd_other (o := .row true 0 [.int .i64 d0, .int .i64 n0, .int .i64 0, .int .i64 0, .int .i64 d1, .int .i64 n1, .int .i64 0, .int .i64 0, .int .i64 d2, .int .i64 n2, .int .i64 0, .int .i64 0, .int .i64 d3, .int .i64 n3, .int .i64 0, .int .i64 0] 0) hb11 l8
    replace lp := upd_other (o := .row true 0 [.int .i64 d0, .int .i64 n0, .int .i64 0, .int .i64 0, .int .i64 d1, .int .i64 n1, .int .i64 0, .int .i64 0, .int .i64 d2, .int .i64 n2, .int .i64 0, .int .i64 0, .int .i64 d3, .int .i64 n3, .int .i64 0, .int .i64 0] 0) hb11 lp
    simp (disch := first | omega | assumption | decide | (simp <;> omega) | fail) [facts, upd_upd, e4, e7, e8, e9]
    generalize upd H9 b11 (.row true 0 [.int .i64 d0, .int .i64 n0, .int .i64 0, .int .i64 0, .int .i64 d1, .int .i64 n1, .int .i64 0, .int .i64 0, .int .i64 d2, .int .i64 n2, .int .i64 0, .int .i64 0, .int .i64 d3, .int .i64 n3, .int .i64 0, .int .i64 0] 0) = H10 at *
    refine w_cutB (fun s => s.env 4 = .pointer (some ⟨b4, 0, none⟩) ∧ s.env 7 = .pointer (some ⟨p, 0, none⟩) ∧ s.env 8 = .pointer (some ⟨b8, 0, none⟩) ∧ s.heap = H10) ?_ ?_
    · refine w_unroll 5 ?_
      simp (disch := first | omega | assumption | decide | (simp <;> omega) | fail) [facts, e4, e7, e8, e9, l4, l8, l11]
      iterate 4
        refine w_plan (P := Try.prog) (by simp [facts]) (opsP [0,1,2,3,4,5,6,7,8,9,10,11] .done) ?_ ?_
        · decide +kernel
        simp (disch := first | omega | assumption | decide | (simp <;> omega) | fail) [facts, e4, e7, e8, e9, l4, l8, l11]
    rintro ⟨e', _⟩ ⟨e4, e7, e8, rfl⟩
    simp only at e4 e7 e8 l4 l8 lp
    simp (disch := first | omega | assumption | decide | (simp <;> omega) | fail) [facts, e4, e7, e8, l4]
    refine w_plan (P := Try.prog) (by simp [facts]) (opsP [0,2,1,3,4,5,6,7,8,9,10,11,12,13] (.both (opsP [14,15,16,17,18] .done) (opsP [15,14,16,17,18] .done))) ?_ ?_
    · decide +kernel
    simp (disch := first | omega | assumption | decide | (simp <;> omega) | fail) [facts, e4, e7, e8, l4]
    refine (cf hf _ lp).mono ?_
    rintro r H11 ⟨rfl, hle11, lp⟩
    replace l4 := hle11 _ _ (dele_get y4 l4)
    simp (disch := first | omega | assumption | decide | (simp <;> omega) | fail) [facts, e4, e7, e8, l4]
    refine (co hf _ lp).mono ?_
    rintro r H12 ⟨rfl, hle12, lp⟩
    replace l4 := hle12 _ _ (dele_get y4 l4)
    simp (disch := first | omega | assumption | decide | (simp <;> omega) | fail) [facts, e4, e7, e8, l4]
    refine ⟨?_, ?_⟩
    all_goals
      refine (cgi _ lp).mono ?_
      rintro r H13 ⟨rfl, hle13⟩
      have l4' := hle13 _ _ l4
      simp (disch := first | omega | assumption | decide | (simp <;> omega) | fail) [facts, e4, e7, e8, l4, l4']
      try exact ⟨_, Heap.le_refl _⟩
  · refine w_cutB (fun s => s.env 4 = .pointer (some ⟨b4, 0, none⟩) ∧ s.env 7 = .pointer (some ⟨p, 0, none⟩) ∧ s.env 8 = .pointer (some ⟨b8, 0, none⟩) ∧ s.env 9 = .bool false ∧ s.heap = H7) ?_ ?_
    · refine w_unroll 5 ?_
      rcases bad_or n0 with h | ⟨h, h'⟩ | ⟨a1, a2⟩
      · simp (disch := first | omega | assumption | decide | (simp <;> omega) | fail) [facts, l4, h]
      · simp (disch := first | omega | assumption | decide | (simp <;> omega) | fail) [facts, l4, h, h']
      rcases bad_or n1 with h | ⟨h, h'⟩ | ⟨a3, a4⟩
      · simp (disch := first | omega | assumption | decide | (simp <;> omega) | fail) [facts, l4, a1, a2, h]
      · simp (disch := first | omega | assumption | decide | (simp <;> omega) | fail) [facts, l4, a1, a2, h, h']
      rcases bad_or n2 with h | ⟨h, h'⟩ | ⟨a5, a6⟩
      · simp (disch := first | omega | assumption | decide | (simp <;> omega) | fail) [facts, l4, a1, a2, a3, a4, h]
      · simp (disch := first | omega | assumption | decide | (simp <;> omega) | fail) [facts, l4, a1, a2, a3, a4, h, h']
      rcases bad_or n3 with h | ⟨h, h'⟩ | ⟨a7, a8⟩
      · simp (disch := first | omega | assumption | decide | (simp <;> omega) | fail) [facts, l4, a1, a2, a3, a4, a5, a6, h]
      · simp (disch := first | omega | assumption | decide | (simp <;> omega) | fail) [facts, l4, a1, a2, a3, a4, a5, a6, h, h']
      exact absurd ⟨⟨a1, a2⟩, ⟨a3, a4⟩, ⟨a5, a6⟩, ⟨a7, a8⟩⟩ hf
    rintro ⟨e, _⟩ ⟨e4, e7, e8, e9, rfl⟩
    simp only at e4 e7 e8 e9 l4 l8 lp
    simp only [if_neg hf] at cl
    simp (disch := first | omega | assumption | decide | (simp <;> omega) | fail) [facts, e4, e7, e8, e9, l4]
    refine w_plan (P := Try.prog) (by simp [facts]) (opsP [0,1,2,3,4,5] (.both (opsP [6,7,8,9,10] .done) (opsP [7,6,8,9,10] .done))) ?_ ?_
    · decide +kernel
    simp (disch := first | omega | assumption | decide | (simp <;> omega) | fail) [facts, e4, e7, e8, e9, l4]
    refine (cl _ lp).mono ?_
    rintro r H8 ⟨rfl, hle8, lp⟩
    replace l8 := hle8 _ _ (dele_get y8 l8)
    simp (disch := first | omega | assumption | decide | (simp <;> omega) | fail) [facts, e4, e7, e8, e9, l8]
    refine ⟨?_, ?_⟩
    all_goals
      refine (ca2 _ lp).mono ?_
      rintro r H9 ⟨rfl, hle9⟩
      have l8' := hle9 _ _ l8
      simp (disch := first | omega | assumption | decide | (simp <;> omega) | fail) [facts, e4, e7, e8, e9, l8, l8']
      try exact ⟨_, Heap.le_refl _⟩

end Go.Proofs.Ytgeocnggfgpmoaa.GL
