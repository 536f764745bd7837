/- Layer 23: the reference's Diffs; two lists of differences held against each other; a place. -/
import Derived.Test.YtfpighmafofoeaaDoorRpC
namespace Go.Proofs.YtfpighmafofoeaaDoor.GL
open Go Go.RowKit
open Su (i64In)
open Ca (Cs S4 flat setV)
set_option maxRecDepth 10000
set_option pp.deepTerms.threshold 8
set_option pp.maxSteps 3000
set_option linter.unusedSimpArgs false
set_option linter.unusedVariables false

set_option maxHeartbeats 1000000 in
theorem diffsR_c (cs : List Cs) (gs rs : List Int) (H : Heap) (hc : cs.length = 4) (hg : gs.length = 4) (hr : rs.length = 4) (hci : ∀ c ∈ cs, i64In c.g ∧ i64In c.r) (hgi : ∀ z ∈ gs, i64In z) (hri : ∀ z ∈ rs, i64In z) :
    ECalls Tryd.prog 10 #[cssV cs, notV gs, notV rs] H (DfOut H (dfTo cs gs rs 4)) := by
  refine ecalls_of_ewp (args := [_, _, _]) Tryd.func10 rfl rfl rfl (by simp [Tryd.ntmps10]) (by kernel_rfl) ?_
  unfold cssV notV
  obtain ⟨xl, hxl⟩ : ∃ xl, xl = rowsC csC cs := ⟨_, rfl⟩
  have xl16 : xl.length = 16 := by rw [hxl, rowsC_len csC4, hc]
  rw [← hxl]
  simp (disch := first | omega | assumption | decide | (simp <;> omega) | fail) [facts, ]
  refine fresh_intro fun b3 hb3 => ?_
  simp (disch := first | omega | assumption | decide | (simp <;> omega) | fail) [facts, ]
  refine fresh_intro fun b4 hb4 => ?_
  simp (disch := first | omega | assumption | decide | (simp <;> omega) | fail) [facts, ]
  refine fresh_intro fun b5 hb5 => ?_
  have r3 := upd_other (o := .row true 0 (rs.map i64V) 0) hb5 (upd_other (o := .row true 0 (gs.map i64V) 0) hb4 (upd_same H b3 (.row true 0 xl 0)))
  have r4 := upd_other (o := .row true 0 (rs.map i64V) 0) hb5 (upd_same (upd H b3 (.row true 0 xl 0)) b4 (.row true 0 (gs.map i64V) 0))
  have r5 := upd_same (upd (upd H b3 (.row true 0 xl 0)) b4 (.row true 0 (gs.map i64V) 0)) b5 (.row true 0 (rs.map i64V) 0)
  have hF := Heap.le_trans (le_upd (.row true 0 xl 0) hb3) (Heap.le_trans (le_upd (.row true 0 (gs.map i64V) 0) hb4) (le_upd (.row true 0 (rs.map i64V) 0) hb5))
  generalize upd (upd (upd H b3 (.row true 0 xl 0)) b4 (.row true 0 (gs.map i64V) 0)) b5 (.row true 0 (rs.map i64V) 0) = F at *
  have s3 : SlA F (some ⟨b3, 0, none⟩) 4 4 (rowsC csC cs) := SlA.row r3 (Nat.le_refl _) (by rw [rowsC_len csC4, hc]) (by omega) (by rw [Nat.sub_self, List.drop_zero, hxl]; exact List.take_of_length_le (by rw [rowsC_len csC4, hc]; omega))
  simp (disch := first | omega | assumption | decide | (simp <;> omega) | fail) [facts, ]
  refine w_loop (drInv F b3 b4 b5 cs gs rs) (fun s => 4 - (intOf (s.env 8)).toNat) ?_ ?_
  · exact ⟨0, Nat.zero_le _, by simp, by simp, by simp, by simp, Heap.le_refl _, .slice none 0 0, by simp, Out.nil _ _ _⟩
  rintro ⟨e, G⟩ ⟨k, hk, e3, e4, e5, e8, hle, v, e7, hout⟩
  simp only at e3 e4 e5 e8 e7 hle hout
  have hkl := dfTo_len cs gs rs k
  by_cases hlt : k < 4
  · have hltI : (k : Int) < 4 := by omega
    obtain ⟨c, hcx⟩ : ∃ c, cs[k]? = some c := ⟨_, List.getElem?_eq_getElem (by omega)⟩
    obtain ⟨g, hgx⟩ : ∃ g, gs[k]? = some g := ⟨_, List.getElem?_eq_getElem (by omega)⟩
    obtain ⟨r, hrx⟩ : ∃ r, rs[k]? = some r := ⟨_, List.getElem?_eq_getElem (by omega)⟩
    obtain ⟨hgk, hgx'⟩ := List.getElem?_eq_some_iff.1 hgx
    obtain ⟨hrk, hrx'⟩ := List.getElem?_eq_some_iff.1 hrx
    have hci' := hci c (List.mem_of_getElem? hcx)
    have hgi' := hgi g (List.mem_of_getElem? hgx)
    have hri' := hri r (List.mem_of_getElem? hrx)
    have hda : dfAt cs gs rs k = if g = c.g ∧ r = c.r then [] else [⟨k, lessZ g c.g, lessZ r c.r⟩] := by unfold dfAt; rw [hcx, hgx, hrx]
    have hsu := dfTo_succ cs gs rs k
    have h4 := hle _ _ r4
    have h5 := hle _ _ r5
    have c2 : ∀ Hx, Heap.le G Hx → rd1U (Hx b3) (k * 4 + 2) = some (.int .i64 c.g) := fun Hx hl => by have h := (s3.le (Heap.le_trans hle hl)).el1 csC4 hcx (j := 2) (by decide); rw [Nat.zero_add] at h; exact h
    have c3 : ∀ Hx, Heap.le G Hx → rd1U (Hx b3) (k * 4 + 3) = some (.int .i64 c.r) := fun Hx hl => by have h := (s3.le (Heap.le_trans hle hl)).el1 csC4 hcx (j := 3) (by decide); rw [Nat.zero_add] at h; exact h
    have d2 := c2 G (Heap.le_refl _)
    have d3 := c3 G (Heap.le_refl _)
    simp (disch := first | omega | assumption | decide | (simp <;> omega) | fail) [facts, e8, hltI]
    refine w_plan (P := Tryd.prog) (by simp [facts]) (opsP [0,1,2,3,4,5,6,7,8,9,10,11,12,13,14,15,16,17] .done) ?_ ?_
    · decide +kernel
    by_cases heq : g = c.g ∧ r = c.r
    · obtain ⟨q1, q2⟩ := heq
      subst q1 q2
      have hda0 : dfAt cs gs rs k = [] := by rw [hda]; simp
      rw [hda0, List.append_nil] at hsu
      simp (disch := first | omega | assumption | decide | (simp <;> omega) | fail) [facts, e3, e4, e5, h4, h5, d2, d3, hgx, hgx', hrx, hrx', hg, hr, e8, hltI]
      refine ⟨_, Heap.le_refl _, ⟨k + 1, by omega, by simp [e3], by simp [e4], by simp [e5], by simp, hle, v, by simp [e7], by rw [hsu]; exact hout⟩, by simp [intOf, e8]; omega⟩
    · have hda1 : dfAt cs gs rs k = [⟨k, lessZ g c.g, lessZ r c.r⟩] := by rw [hda, if_neg heq]
      rw [hda1] at hsu
      have cl1 := fun H => lessR_c g c.g H hgi' hci'.1
      have cl2 := fun H => lessR_c r c.r H hri' hci'.2
      obtain ⟨d1, hd1⟩ : ∃ z, lessZ g c.g = z := ⟨_, rfl⟩
      obtain ⟨d2, hd2⟩ : ∃ z, lessZ r c.r = z := ⟨_, rfl⟩
      rw [hd1] at cl1 hsu
      rw [hd2] at cl2 hsu
      have hspl3 : splice (zeros [.int .i64 0, .int .i64 0, .int .i64 0] 1) 0 [.int .i64 k, .int .i64 d1, .int .i64 d2] = [.int .i64 k, .int .i64 d1, .int .i64 d2] := rfl
      by_cases q1 : g = c.g
      all_goals first
        | (have q2 : ¬ r = c.r := fun q2 => heq ⟨q1, q2⟩
           simp (disch := first | omega | assumption | decide | (simp <;> omega) | fail) [facts, e3, e4, e5, h4, h5, c2 G (Heap.le_refl _), c3 G (Heap.le_refl _), hgx, hgx', hrx, hrx', hg, hr, e8, hltI, eq_true q1, q2])
        | simp (disch := first | omega | assumption | decide | (simp <;> omega) | fail) [facts, e3, e4, e5, h4, h5, c2 G (Heap.le_refl _), c3 G (Heap.le_refl _), hgx, hgx', hrx, hrx', hg, hr, e8, hltI, q1]
      all_goals
        refine w_growL2 (by simp [facts]) 20 [31,32,33,34,35,36,37,38,39,40,41,42,43,44,45,46,47,48,49,50] [.eq v, .eq (.int .i64 k), .eq (.int .i64 k), .eq (.pointer (some ⟨b4, k, none⟩)), .eq (.int .i64 g), .eq (.int .i64 k), .eq (.pointer (some ⟨b3, k * 4, none⟩)), .eq (.pointer (some ⟨b3, k * 4 + 2, none⟩)), .eq (.int .i64 c.g), .eq (.int .i64 d1), .eq (.int .i64 k), .eq (.pointer (some ⟨b5, k, none⟩)), .eq (.int .i64 r), .eq (.int .i64 k), .eq (.pointer (some ⟨b3, k * 4, none⟩)), .eq (.pointer (some ⟨b3, k * 4 + 3, none⟩)), .eq (.int .i64 c.r), .eq (.int .i64 d2), .eq (.agg #[.int .i64 k, .int .i64 d1, .int .i64 d2]), .new G [.int .i64 k, .int .i64 d1, .int .i64 d2] (fun b => .slice (some ⟨b, 0, none⟩) 1 1)] (by decide +kernel) rfl ?_ ?_
        · simp only [List.take_succ_cons, List.take_zero, allL_cons, allL_nil]
          refine ⟨?_, ?_, ?_, ?_, ?_, ?_, ?_, ?_, ?_, ?_, ?_, ?_, ?_, ?_, ?_, ?_, ?_, ?_, ?_, ?_, trivial⟩
          all_goals (unfold stepL; intro f Hx hl ha; have x4 := hl _ _ h4; have x5 := hl _ _ h5; have x2 := c2 Hx hl; have x3 := c3 Hx hl)
          all_goals try (simp (disch := first | omega | assumption | decide | (simp <;> omega) | fail) [facts, e3, e4, e5, e7, e8, x4, x5, x2, x3, hgx, hgx', hrx, hrx', hg, hr, hltI]; done)
          · simp (disch := first | omega | assumption | decide | (simp <;> omega) | fail) [facts, ]
            refine (cl1 Hx).mono ?_
            rintro v H' ⟨rfl, hle'⟩
            simp (disch := first | omega | assumption | decide | (simp <;> omega) | fail) [facts, ]
            exact hle'
          · simp (disch := first | omega | assumption | decide | (simp <;> omega) | fail) [facts, ]
            refine (cl2 Hx).mono ?_
            rintro v H' ⟨rfl, hle'⟩
            simp (disch := first | omega | assumption | decide | (simp <;> omega) | fail) [facts, ]
            exact hle'
          · simp (disch := first | omega | assumption | decide | (simp <;> omega) | fail) [facts, ]
            refine fresh_intro fun b hb => ?_
            simp (disch := first | omega | assumption | decide | (simp <;> omega) | fail) [facts, hspl3]
            exact ⟨le_upd _ hb, le_of_none hl hb⟩
        intro f G4 hle4 hkn
        replace hkn : (∃ b, f 50 = .slice (some ⟨b, 0, none⟩) 1 1 ∧ G b = none ∧ G4 b = some (.row true 0 [.int .i64 k, .int .i64 d1, .int .i64 d2] 0)) := by simpa using hkn
        obtain ⟨b44, f44, _, r44⟩ := hkn
        simp (disch := first | omega | assumption | decide | (simp <;> omega) | fail) [facts, f44]
        refine df_app (d := ⟨k, d1, d2⟩) (hout.up hle4) (Heap.le_trans hle hle4) r44 (by omega) ?_
        intro v' H' h1 h2
        simp (disch := first | omega | assumption | decide | (simp <;> omega) | fail) [facts, e8]
        refine ⟨_, Heap.le_refl _, ⟨k + 1, by omega, by simp [e3], by simp [e4], by simp [e5], by simp, h1, v', by simp, ?_⟩, by simp [intOf, e8]; omega⟩
        rw [hsu, List.length_append, rowsC_app, rowsC_single]
        exact h2
  · have hltI : ¬ (k : Int) < 4 := by omega
    have hk4 : k = 4 := by omega
    subst hk4
    obtain ⟨a, c, rfl, hsl⟩ := hout.sl
    simp (disch := first | omega | assumption | decide | (simp <;> omega) | fail) [facts, e8, e7]
    exact ⟨_, Heap.le_refl _, Heap.le_trans hF hle, a, c, rfl, hsl⟩
def hdInv (H : Heap) (a b : Option Addr) (n c1 c2 : Nat) (s : St) : Prop :=
  ∃ k : Nat, k ≤ n ∧ s.env 0 = .slice a n c1 ∧ s.env 1 = .slice b n c2 ∧ s.env 5 = .int .i64 k ∧ s.heap = H
theorem helpDiffs_c (a b : Option Addr) (n c1 c2 : Nat) (D : List Df) (H : Heap) (h1 : SlA H a n 3 (rowsC Df.cells D)) (h2 : SlA H b n 3 (rowsC Df.cells D)) (hn : n ≤ 1000) :
    ECalls Tryd.prog 8 #[.slice a n c1, .slice b n c2] H fun v H' => v = .bool true ∧ H' = H := by
  refine ecalls_of_ewp (args := [_, _]) Tryd.func8 rfl rfl rfl (by simp [Tryd.ntmps8]) (by kernel_rfl) ?_
  have hlen : D.length = n := h1.els df3 (by decide)
  simp (disch := first | omega | assumption | decide | (simp <;> omega) | fail) [facts, ]
  refine w_loop (hdInv H a b n c1 c2) (fun s => n - (intOf (s.env 5)).toNat) ?_ ?_
  · exact ⟨0, Nat.zero_le _, by simp, by simp, by simp, rfl⟩
  rintro ⟨e, G⟩ ⟨k, hk, e0, e1, e5, e3⟩
  simp only at e0 e1 e5 e3
  subst e3
  by_cases hlt : k < n
  · have hltI : (k : Int) < (n : Int) := by omega
    obtain ⟨x, hx⟩ : ∃ x, D[k]? = some x := ⟨_, List.getElem?_eq_getElem (by omega)⟩
    obtain ⟨ab, ao, rfl⟩ := h1.lit (by omega)
    obtain ⟨bb, bo, rfl⟩ := h2.lit (by omega)
    have r1 : rdNU (G ab) (ao + k * 3) 3 = some x.cells := h1.el df3 hx (j := 0) (r := 3) (by decide) (by decide)
    have r2 : rdNU (G bb) (bo + k * 3) 3 = some x.cells := h2.el df3 hx (j := 0) (r := 3) (by decide) (by decide)
    have j3 : List.take 3 x.cells = x.cells := rfl
    have heq : eqCells [.int, .int, .int] x.cells x.cells = some true := by
      unfold Df.cells
      simp [eqC_int, eqC_nil]
    simp (disch := first | omega | assumption | decide | (simp <;> omega) | fail) [facts, e0, e1, e5, hltI]
    refine w_plan (P := Tryd.prog) (by simp [facts]) (opsP [0,1,2,3,4,5,6,7,8] .done) ?_ ?_
    · decide +kernel
    simp (disch := first | omega | assumption | decide | (simp <;> omega) | fail) [facts, e0, e1, e5, hltI, r1, r2, j3, heq]
    refine ⟨_, Heap.le_refl _, ⟨k + 1, by omega, by simp [e0], by simp [e1], by simp, rfl⟩, by simp [intOf, e5]; omega⟩
  · have hltI : ¬ (k : Int) < (n : Int) := by omega
    simp (disch := first | omega | assumption | decide | (simp <;> omega) | fail) [facts, e0, e5, hltI]
theorem place_c (g : Int) (H : Heap) (hg : i64In g) : ECalls Tryd.prog 7 #[.int .i64 g, .int .i64 5] H fun v H' => (∃ z, v = .int .i64 z ∧ i64In z) ∧ H' = H := by
  refine ecalls_of_ewp (args := [_, _]) Tryd.func7 rfl rfl rfl (by simp [Tryd.ntmps7]) (by kernel_rfl) ?_
  simp (disch := first | omega | assumption | decide | (simp <;> omega) | fail) [facts, ]
  obtain ⟨m, hm⟩ : ∃ m, Int.tmod g 5 = m := ⟨_, rfl⟩
  have hm1 : -5 < m ∧ m < 5 := by
    rw [← hm]
    exact ⟨Int.lt_tmod_of_pos _ (by decide), Int.tmod_lt_of_pos _ (by decide)⟩
  by_cases h0 : m < 0
  · simp (disch := first | omega | assumption | decide | (simp <;> omega) | fail) [facts, hm, h0]
    unfold i64In
    omega
  · simp (disch := first | omega | assumption | decide | (simp <;> omega) | fail) [facts, hm, h0]
    unfold i64In
    omega
end Go.Proofs.YtfpighmafofoeaaDoor.GL
