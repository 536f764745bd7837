/- Layer 23: what is settled: report.Settled and the reference's. -/
import Derived.Test.YtfpighmafofoeaaDoorRpS
import Derived.Test.YtfpighmafofoeaaDoorBsT
namespace Go.Proofs.YtfpighmafofoeaaDoor.GL
open Go Go.RowKit
open Su (i64In totV totV_yes totV_no total_c totalR_c)
open St (Txn txnL txnV zeroT)
set_option maxRecDepth 10000
set_option pp.deepTerms.threshold 8
set_option pp.maxSteps 3000
set_option linter.unusedSimpArgs false
set_option linter.unusedVariables false

def sgZ (L : List Txn) : List Int := (L.filter (fun t => decide (t.state = 5))).map (·.given)
theorem sgZ_snoc {L : List Txn} {k : Nat} {t : Txn} (h : L[k]? = some t) : sgZ (L.take (k + 1)) = sgZ (L.take k) ++ if t.state = 5 then [t.given] else [] := by
  unfold sgZ
  rw [List.take_add_one, h]
  by_cases hs : t.state = 5 <;> simp [hs]
theorem sgZ_len (L : List Txn) (k : Nat) : (sgZ (L.take k)).length ≤ k := by
  unfold sgZ
  rw [List.length_map]
  exact Nat.le_trans (List.length_filter_le _ _) (by rw [List.length_take]; omega)
theorem sgZ_in {L : List Txn} (h : ∀ t ∈ L, i64In t.given) : ∀ z ∈ sgZ L, i64In z := by
  intro z hz
  obtain ⟨t, ht, rfl⟩ := List.mem_map.1 hz
  exact h t (List.mem_filter.1 ht).1
theorem tx11 (t : Txn) : (txnL t).length = 11 := rfl
theorem tx1 (t : Txn) : (txnL t).all (·.oneCell') = true := rfl
def stInv (H : Heap) (a : Option Addr) (n c : Nat) (L : List Txn) (s : St) : Prop :=
  ∃ k, k ≤ n ∧ s.env 7 = .slice a n c ∧ s.env 8 = .int .i64 n ∧ s.env 9 = .int .i64 k ∧ Heap.le H s.heap ∧ ∃ v, s.env 4 = v ∧ Out H s.heap v 1 (sgZ (L.take k)).length ((sgZ (L.take k)).map i64V)
def strInv (H : Heap) (a : Option Addr) (n c : Nat) (L : List Txn) (s : St) : Prop :=
  ∃ k, k ≤ n ∧ s.env 0 = .slice a n c ∧ s.env 5 = .int .i64 k ∧ Heap.le H s.heap ∧ ∃ v, s.env 4 = v ∧ Out H s.heap v 1 (sgZ (L.take k)).length ((sgZ (L.take k)).map i64V)
theorem settled_c (a : Option Addr) (n c : Nat) (L : List Txn) (H : Heap) (h : SlA H a n 11 (rowsC txnL L)) (hL : ∀ t ∈ L, i64In t.given) (hn : n ≤ 1000) :
    ECalls Tryd.prog 11 #[.slice a n c] H fun r H' => r = totV (sgZ L).sum ∧ Heap.le H H' := by
  refine ecalls_of_ewp (args := [_]) Tryd.func11 rfl rfl rfl (by simp [Tryd.ntmps11]) (by kernel_rfl) ?_
  have hlen : L.length = n := h.els tx11 (by decide)
  simp (disch := first | omega | assumption | decide | (simp <;> omega) | fail) [facts, ]
  refine w_loop (stInv H a n c L) (fun s => n - (intOf (s.env 9)).toNat) ?_ ?_
  · exact ⟨0, Nat.zero_le _, by simp, by simp, by simp, Heap.le_refl _, .slice none 0 0, by simp, Out.nil _ _ _⟩
  rintro ⟨e, G⟩ ⟨k, hk, e7, e8, e9, hle, v, e4, hout⟩
  simp only at e7 e8 e9 e4 hle hout
  have hkl := sgZ_len L k
  by_cases hlt : k < n
  · have hltI : (k : Int) < (n : Int) := by omega
    obtain ⟨t, ht⟩ : ∃ t, L[k]? = some t := ⟨_, List.getElem?_eq_getElem (by omega)⟩
    obtain ⟨ab, ao, rfl⟩ := h.lit (by omega)
    have rx : rdNU (G ab) (ao + k * 11) 11 = some (txnL t) := (h.le hle).el tx11 ht (j := 0) (r := 11) (by decide) (by decide)
    have hst := sgZ_snoc ht
    obtain ⟨tl, htl⟩ : ∃ tl, tl = txnL t := ⟨_, rfl⟩
    have tl11 : tl.length = 11 := by rw [htl]; rfl
    have tl1 : tl.all (·.oneCell') = true := by rw [htl]; rfl
    have k11 : List.take 11 tl = tl := List.take_of_length_le (by omega)
    have g4 : tl[4]? = some (.int .i64 t.state) := by rw [htl]; rfl
    have g9 : tl[9]? = some (.int .i64 t.given) := by rw [htl]; rfl
    obtain ⟨_, g4b⟩ := List.getElem?_eq_some_iff.1 g4
    obtain ⟨_, g9b⟩ := List.getElem?_eq_some_iff.1 g9
    have hspl : splice [.int .u16 0, .int .u32 0, .string (mkS []), .int .i64 0, .int .i64 0, .int .i64 0, .int .i64 0, .int .i64 0, .int .i64 0, .int .i64 0, .int .i64 0] 0 tl = tl := splice_all (by rw [tl11]; rfl)
    rw [← htl] at rx
    simp (disch := first | omega | assumption | decide | (simp <;> omega) | fail) [facts, e7, e8, e9, hltI, rx, k11]
    refine fresh_intro fun b hb => ?_
    have r6 := upd_same G b (.row true 0 tl 0)
    have hout6 := hout.up (le_upd (.row true 0 tl 0) hb)
    have hle6 := Heap.le_trans hle (le_upd (.row true 0 tl 0) hb)
    simp (disch := first | omega | assumption | decide | (simp <;> omega) | fail) [facts, upd_upd, tl11, tl1, hspl]
    generalize upd G b _ = G6 at *
    by_cases hs : t.state = 5
    · rw [if_pos hs] at hst
      rw [hs] at g4 g4b
      simp (disch := first | omega | assumption | decide | (simp <;> omega) | fail) [facts, r6, g4, g4b, g9, g9b, e4]
      refine fresh_intro fun b19 hb19 => ?_
      simp (disch := first | omega | assumption | decide | (simp <;> omega) | fail) [facts, e4]
      refine Out.app (e := 2) (s := 1) (nbs := 8) (z := .int .i64 0) (H := H) (by simp [facts]) (by simp [facts]) (by simp [facts]) (by simp [facts]) rfl (by decide) (Heap.le_trans hle6 (le_upd _ hb19)) (hout6.up (le_upd _ hb19))
        (srcOne (e1 := 2) (z := .int .i64 0) (by simp [facts]) (by simp [facts]) (by simp [facts]) rfl) (by simp) (by simp [Value.oneCell']) (by omega) ?_
      intro v2 G4 hle4 _ hout4
      simp (disch := first | omega | assumption | decide | (simp <;> omega) | fail) [facts, e9]
      refine ⟨_, Heap.le_refl _, ⟨k + 1, by omega, by simp [e7], by simp [e8], by simp, by simpa using hle4, v2, by simp, ?_⟩, by simp [intOf, e9]; omega⟩
      rw [hst]
      simpa using hout4
    · rw [if_neg hs, List.append_nil] at hst
      simp (disch := first | omega | assumption | decide | (simp <;> omega) | fail) [facts, r6, g4, g4b, hs, e9]
      refine ⟨_, Heap.le_refl _, ⟨k + 1, by omega, by simp [e7], by simp [e8], by simp, hle6, v, by simp [e4], by rw [hst]; exact hout6⟩, by simp [intOf, e9]; omega⟩
  · have hltI : ¬ (k : Int) < (n : Int) := by omega
    have hkn : k = n := by omega
    subst hkn
    rw [List.take_of_length_le (by omega)] at hout hkl
    obtain ⟨a4, c4, rfl, hsl⟩ := hout.sl
    simp (disch := first | omega | assumption | decide | (simp <;> omega) | fail) [facts, e7, e8, e9, hltI, e4]
    refine (total_c a4 _ c4 _ G hsl (sgZ_in hL) (by omega)).mono ?_
    rintro r G2 ⟨rfl, rfl⟩
    by_cases hin : i64In (sgZ L).sum
    · simp (disch := first | omega | assumption | decide | (simp <;> omega) | fail) [facts, totV_yes hin]
      exact ⟨_, Heap.le_refl _, hle⟩
    · simp (disch := first | omega | assumption | decide | (simp <;> omega) | fail) [facts, totV_no hin]
      exact ⟨_, Heap.le_refl _, hle⟩
theorem settledR_c (a : Option Addr) (n c : Nat) (L : List Txn) (H : Heap) (h : SlA H a n 11 (rowsC txnL L)) (hL : ∀ t ∈ L, i64In t.given) (hn : n ≤ 1000) :
    ECalls Tryd.prog 12 #[.slice a n c] H fun r H' => r = totV (sgZ L).sum ∧ Heap.le H H' := by
  refine ecalls_of_ewp (args := [_]) Tryd.func12 rfl rfl rfl (by simp [Tryd.ntmps12]) (by kernel_rfl) ?_
  have hlen : L.length = n := h.els tx11 (by decide)
  simp (disch := first | omega | assumption | decide | (simp <;> omega) | fail) [facts, ]
  refine w_loop (strInv H a n c L) (fun s => n - (intOf (s.env 5)).toNat) ?_ ?_
  · exact ⟨0, Nat.zero_le _, by simp, by simp, Heap.le_refl _, .slice none 0 0, by simp, Out.nil _ _ _⟩
  rintro ⟨e, G⟩ ⟨k, hk, e0, e5, hle, v, e4, hout⟩
  simp only at e0 e5 e4 hle hout
  have hkl := sgZ_len L k
  by_cases hlt : k < n
  · have hltI : (k : Int) < (n : Int) := by omega
    obtain ⟨t, ht⟩ : ∃ t, L[k]? = some t := ⟨_, List.getElem?_eq_getElem (by omega)⟩
    obtain ⟨ab, ao, rfl⟩ := h.lit (by omega)
    have r4 : rd1U (G ab) (ao + k * 11 + 4) = some (.int .i64 t.state) := (h.le hle).el1 tx11 ht (j := 4) (by decide)
    have r9 : rd1U (G ab) (ao + k * 11 + 9) = some (.int .i64 t.given) := (h.le hle).el1 tx11 ht (j := 9) (by decide)
    have hst := sgZ_snoc ht
    by_cases hs : t.state = 5
    · rw [if_pos hs] at hst
      rw [hs] at r4
      simp (disch := first | omega | assumption | decide | (simp <;> omega) | fail) [facts, e0, e5, e4, hltI, r4, r9]
      refine fresh_intro fun b19 hb19 => ?_
      simp (disch := first | omega | assumption | decide | (simp <;> omega) | fail) [facts, e4]
      refine Out.app (e := 2) (s := 1) (nbs := 8) (z := .int .i64 0) (H := H) (by simp [facts]) (by simp [facts]) (by simp [facts]) (by simp [facts]) rfl (by decide) (Heap.le_trans hle (le_upd _ hb19)) (hout.up (le_upd _ hb19))
        (srcOne (e1 := 2) (z := .int .i64 0) (by simp [facts]) (by simp [facts]) (by simp [facts]) rfl) (by simp) (by simp [Value.oneCell']) (by omega) ?_
      intro v2 G4 hle4 _ hout4
      simp (disch := first | omega | assumption | decide | (simp <;> omega) | fail) [facts, e5]
      refine ⟨_, Heap.le_refl _, ⟨k + 1, by omega, by simp [e0], by simp, by simpa using hle4, v2, by simp, ?_⟩, by simp [intOf, e5]; omega⟩
      rw [hst]
      simpa using hout4
    · rw [if_neg hs, List.append_nil] at hst
      simp (disch := first | omega | assumption | decide | (simp <;> omega) | fail) [facts, e0, e5, hltI, r4, hs]
      refine ⟨_, Heap.le_refl _, ⟨k + 1, by omega, by simp [e0], by simp, hle, v, by simp [e4], by rw [hst]; exact hout⟩, by simp [intOf, e5]; omega⟩
  · have hltI : ¬ (k : Int) < (n : Int) := by omega
    have hkn : k = n := by omega
    subst hkn
    rw [List.take_of_length_le (by omega)] at hout hkl
    obtain ⟨a4, c4, rfl, hsl⟩ := hout.sl
    simp (disch := first | omega | assumption | decide | (simp <;> omega) | fail) [facts, e0, e5, hltI, e4]
    refine (totalR_c a4 _ c4 _ G hsl (sgZ_in hL) (by omega)).mono ?_
    rintro r G2 ⟨rfl, hle2⟩
    by_cases hin : i64In (sgZ L).sum
    · simp (disch := first | omega | assumption | decide | (simp <;> omega) | fail) [facts, totV_yes hin]
      exact ⟨_, Heap.le_refl _, Heap.le_trans hle hle2⟩
    · simp (disch := first | omega | assumption | decide | (simp <;> omega) | fail) [facts, totV_no hin]
      exact ⟨_, Heap.le_refl _, Heap.le_trans hle hle2⟩
end Go.Proofs.YtfpighmafofoeaaDoor.GL
