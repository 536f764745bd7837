/- Layer 19: which states go on, counts, the records and transactions that may be. -/
import Derived.Test.YtahmnhdmnhijcaaStA
namespace Go.Proofs.Ytahmnhdmnhijcaa.GL
open Go Go.RowKit
set_option maxRecDepth 10000
set_option pp.deepTerms.threshold 8
set_option pp.maxSteps 3000
set_option linter.unusedSimpArgs false
set_option linter.unusedVariables false

def fromL (k : Int) : List Int := if k = 1 then [0] else if k = 4 then [1, 2] else if k = 5 then [2] else if k = 6 then [3] else if k = 7 then [4] else [1]
theorem row_i64 {H : Heap} {b : Nat} (xs : List Int) : SlA (upd H b (.row true 0 (xs.map i64V) 0)) (some ⟨b, 0, none⟩) xs.length 1 (xs.map i64V) :=
  SlA.row (upd_same _ _ _) (Nat.le_refl _) (by simp) (by simp) (by rw [Nat.sub_self, List.drop_zero, Nat.mul_one, List.take_of_length_le (by simp)])
theorem from_c (k : Int) (H : Heap) : ECalls Try.prog 14 #[.int .i64 k] H fun r H' => Heap.le H H' ∧ ∃ a c, r = .slice a (fromL k).length c ∧ SlA H' a (fromL k).length 1 ((fromL k).map i64V) := by
  refine ecalls_of_ewp (args := [_]) Try.func14 rfl rfl rfl (by simp [Try.ntmps14]) (by kernel_rfl) ?_
  unfold fromL
  by_cases h1 : k = 1
  · simp (disch := first | omega | assumption | decide | (simp <;> omega) | fail) [facts, h1]
    refine fresh_intro fun b hb => ?_
    simp (disch := first | omega | assumption | decide | (simp <;> omega) | fail) [facts, ]
    exact ⟨_, Heap.le_refl _, le_upd _ hb, row_i64 [0]⟩
  by_cases h4 : k = 4
  · simp (disch := first | omega | assumption | decide | (simp <;> omega) | fail) [facts, h1, h4]
    refine fresh_intro fun b hb => ?_
    simp (disch := first | omega | assumption | decide | (simp <;> omega) | fail) [facts, ]
    exact ⟨_, Heap.le_refl _, le_upd _ hb, row_i64 [1, 2]⟩
  by_cases h5 : k = 5
  · simp (disch := first | omega | assumption | decide | (simp <;> omega) | fail) [facts, h1, h4, h5]
    refine fresh_intro fun b hb => ?_
    simp (disch := first | omega | assumption | decide | (simp <;> omega) | fail) [facts, ]
    exact ⟨_, Heap.le_refl _, le_upd _ hb, row_i64 [2]⟩
  by_cases h6 : k = 6
  · simp (disch := first | omega | assumption | decide | (simp <;> omega) | fail) [facts, h1, h4, h5, h6]
    refine fresh_intro fun b hb => ?_
    simp (disch := first | omega | assumption | decide | (simp <;> omega) | fail) [facts, ]
    exact ⟨_, Heap.le_refl _, le_upd _ hb, row_i64 [3]⟩
  by_cases h7 : k = 7
  · simp (disch := first | omega | assumption | decide | (simp <;> omega) | fail) [facts, h1, h4, h5, h6, h7]
    refine fresh_intro fun b hb => ?_
    simp (disch := first | omega | assumption | decide | (simp <;> omega) | fail) [facts, ]
    exact ⟨_, Heap.le_refl _, le_upd _ hb, row_i64 [4]⟩
  simp (disch := first | omega | assumption | decide | (simp <;> omega) | fail) [facts, h1, h4, h5, h6, h7]
  refine fresh_intro fun b hb => ?_
  simp (disch := first | omega | assumption | decide | (simp <;> omega) | fail) [facts, ]
  exact ⟨_, Heap.le_refl _, le_upd _ hb, row_i64 [1]⟩

theorem in_c (x : Int) (a : Option Addr) (n c : Nat) (zs : List Int) (H : Heap) (h : SlA H a n 1 (zs.map i64V)) (hn : n ≤ 1000) : ECalls Try.prog 13 #[.int .i64 x, .slice a n c] H fun r H' => r = .bool (decide (x ∈ zs)) ∧ H' = H := by
  refine ecalls_of_ewp (args := [_, _]) Try.func13 rfl rfl rfl (by simp [Try.ntmps13]) (by kernel_rfl) ?_
  have hl : zs.length = n := by simpa using h.len
  simp (disch := first | omega | assumption | decide | (simp <;> omega) | fail) [facts, ]
  refine w_loop (fun s => ∃ k : Nat, k ≤ n ∧ s.env 0 = .int .i64 x ∧ s.env 7 = .slice a n c ∧ s.env 8 = .int .i64 n ∧ s.env 9 = .int .i64 k ∧ s.heap = H ∧ ¬ x ∈ zs.take k) (fun s => n - (intOf (s.env 9)).toNat) ?_ ?_
  · exact ⟨0, Nat.zero_le _, by simp, by simp, by simp, by simp, rfl, by simp⟩
  · rintro ⟨e, H1⟩ ⟨k, hk, e0, e7, e8, e9, hH, hno⟩
    simp only at e0 e7 e8 e9 hH
    subst hH
    by_cases hlt : (k : Int) < n
    · obtain ⟨y, hy⟩ : ∃ y, zs[k]? = some y := ⟨_, List.getElem?_eq_getElem (by omega)⟩
      have gx := h.at hy
      rw [i64V_def] at gx
      have px := h.plain
      have tx := h.there (by omega)
      by_cases hxy : y = x
      · have hin : x ∈ zs := by rw [← hxy]; exact List.mem_of_getElem? hy
        simp (disch := first | omega | assumption | decide | (simp <;> omega) | fail) [facts, e0, e7, e8, e9, hlt, gx, hxy, hin]
      · simp (disch := first | omega | assumption | decide | (simp <;> omega) | fail) [facts, e0, e7, e8, e9, hlt, gx, hxy]
        refine ⟨_, Heap.le_refl _, ⟨k + 1, by omega, by simp [e0], by simp [e7], by simp [e8], by simp, rfl, ?_⟩, by simp [intOf, e9]; omega⟩
        rw [take_snoc hy]; simp only [List.mem_append, List.mem_singleton]
        rintro (h1 | h1)
        · exact hno h1
        · exact hxy h1.symm
    · have hkn : k = n := by omega
      subst hkn
      rw [List.take_of_length_le (by omega)] at hno
      simp (disch := first | omega | assumption | decide | (simp <;> omega) | fail) [facts, e0, e7, e8, e9, hlt, hno]

theorem counts_c (b : Nat) (cells : List Int) (H : Heap) (hb : H b = some (.row true 0 (cells.map i64V) 0)) (hl : cells.length = 12) (hf : ∀ z ∈ cells, fewIn z) :
    ECalls Try.prog 22 #[.slice (some ⟨b, 0, none⟩) 3 3] H fun r H' => r = .bool true ∧ Heap.le H H' := by
  refine ecalls_of_ewp (args := [_]) Try.func22 rfl rfl rfl (by simp [Try.ntmps22]) (by kernel_rfl) ?_
  simp (disch := first | omega | assumption | decide | (simp <;> omega) | fail) [facts, ]
  refine w_loop (fun s => ∃ k : Nat, k ≤ 3 ∧ s.env 7 = .slice (some ⟨b, 0, none⟩) 3 3 ∧ s.env 8 = .int .i64 3 ∧ s.env 9 = .int .i64 k ∧ Heap.le H s.heap) (fun s => 3 - (intOf (s.env 9)).toNat) ?_ ?_
  · exact ⟨0, by decide, by simp, by simp, by simp, by simp [Heap.le_refl]⟩
  · rintro ⟨e, H1⟩ ⟨k, hk, e7, e8, e9, hle⟩
    simp only at e7 e8 e9 hle
    by_cases hlt : (k : Int) < 3
    · obtain ⟨ns, hns⟩ : ∃ ns, ns = (cells.drop (k * 4)).take 4 := ⟨_, rfl⟩
      have hnl : ns.length = 4 := by rw [hns]; simp [hl]; omega
      have hnf : ∀ z ∈ ns, fewIn z := fun z hz => hf z (by rw [hns] at hz; exact List.mem_of_mem_drop (List.mem_of_mem_take hz))
      have hrow : List.take 4 (List.drop (k * 4) (cells.map i64V)) = ns.map i64V := by rw [hns, List.map_take, List.map_drop]
      have hb1 := hle _ _ hb
      have hcl : (cells.map i64V).length = 12 := by simp [hl]
      generalize hrw : cells.map i64V = row at *
      have hul : (ns.map i64V).length = 4 := by simp [hnl]
      have hone : (ns.map i64V).all (·.oneCell') = true := all_i64 _
      have hun : ∀ j, j < 4 → ∃ z, (ns.map i64V)[j]? = some (.int .i64 z) ∧ fewIn z := fun j hj => by
        obtain ⟨z, hz⟩ : ∃ z, ns[j]? = some z := ⟨_, List.getElem?_eq_getElem (by omega)⟩
        exact ⟨z, by rw [List.getElem?_map, hz]; rfl, hnf z (List.mem_of_getElem? hz)⟩
      generalize ns.map i64V = un at *
      have htu : List.take 4 un = un := List.take_of_length_le (by omega)
      simp (disch := first | omega | assumption | decide | (simp <;> omega) | fail) [facts, e7, e8, e9, hlt, hb1, hrow, hcl]
      refine fresh_intro fun b4 hb4 => ?_
      simp (disch := first | omega | assumption | decide | (simp <;> omega) | fail) [facts, e7, e8, e9, hlt, hul, hone, upd_upd, htu]
      have hle2 : Heap.le H (upd H1 b4 (.row true 0 un 0)) := Heap.le_trans hle (le_upd _ hb4)
      generalize upd H1 b4 (.row true 0 un 0) = H2 at hle2 ⊢
      refine w_loop (fun s => ∃ j : Nat, j ≤ 4 ∧ s.env 7 = .slice (some ⟨b, 0, none⟩) 3 3 ∧ s.env 8 = .int .i64 3 ∧ s.env 9 = .int .i64 k ∧ s.env 13 = .agg un.toArray ∧ s.env 14 = .int .i64 j ∧ Heap.le H s.heap) (fun s => 4 - (intOf (s.env 14)).toNat) ?_ ?_
      · exact ⟨0, by decide, by simp [e7], by simp [e8], by simp [e9], by simp, by simp, hle2⟩
      · rintro ⟨e, H3⟩ ⟨j, hj, e7, e8, e9, e13, e14, hle3⟩
        simp only at e7 e8 e9 e13 e14 hle3
        by_cases hj4 : (j : Int) < 4
        · obtain ⟨z, hz, hz1, hz2⟩ := hun j (by omega)
          obtain ⟨_, hz'⟩ := List.getElem?_eq_some_iff.1 hz
          simp (disch := first | omega | assumption | decide | (simp <;> omega) | fail) [facts, e7, e8, e9, e13, e14, hj4, hz, hz', hul, show ¬ z < 0 by omega, show ¬ 10000 < z by omega]
          exact ⟨_, Heap.le_refl _, ⟨j + 1, by omega, by simp [e7], by simp [e8], by simp [e9], by simp [e13], by simp, hle3⟩, by simp [intOf, e14]; omega⟩
        · simp (disch := first | omega | assumption | decide | (simp <;> omega) | fail) [facts, e7, e8, e9, e13, e14, hj4]
          exact ⟨_, Heap.le_refl _, ⟨k + 1, by omega, by simp [e7], by simp [e8], by simp, hle3⟩, by simp [intOf]; omega⟩
    · simp (disch := first | omega | assumption | decide | (simp <;> omega) | fail) [facts, e7, e8, e9, hlt]
      exact ⟨_, Heap.le_refl _, hle⟩

theorem rightR_c (r : Rec) (H : Heap) (h : RightR r) : ECalls Try.prog 12 #[recV r] H fun v H' => v = .bool true ∧ Heap.le H H' := by
  refine ecalls_of_ewp (args := [_]) Try.func12 rfl rfl rfl (by simp [Try.ntmps12]) (by kernel_rfl) ?_
  obtain ⟨k, te, st, pan, am, n0, n1, n2, n3⟩ := r
  obtain ⟨⟨k1, k7⟩, p2, p3, ⟨a1, a2⟩, few⟩ := h
  simp only at k1 k7 p2 p3 a1 a2 few
  have hdig := fun H => digits_c pan H p3 (by omega)
  have hp2 : (pan.length : Int) ≤ 19 := by omega
  simp only [recV]
  simp (disch := first | omega | assumption | decide | (simp <;> omega) | fail) [facts, ]
  refine fresh_intro fun b1 hb1 => ?_
  simp (disch := first | omega | assumption | decide | (simp <;> omega) | fail) [facts, k1, show k < 10 by omega, hp2]
  refine (hdig _).mono ?_
  rintro v H2 ⟨rfl, rfl⟩
  simp (disch := first | omega | assumption | decide | (simp <;> omega) | fail) [facts, a1, a2]
  refine fresh_intro fun b2 hb2 => ?_
  simp (disch := first | omega | assumption | decide | (simp <;> omega) | fail) [facts, ]
  refine (counts_c b2 [n0, n1, n2, n3, 0, 0, 0, 0, 0, 0, 0, 0] _ (upd_same _ _ _) rfl ?_).mono ?_
  · obtain ⟨f0, f1, f2, f3⟩ := few
    intro z hz
    simp only [List.mem_cons, List.not_mem_nil, or_false] at hz
    unfold fewIn at *
    rcases hz with rfl | rfl | rfl | rfl | rfl | rfl | rfl | rfl | rfl | rfl | rfl | rfl <;> omega
  rintro v H3 ⟨rfl, hle3⟩
  simp (disch := first | omega | assumption | decide | (simp <;> omega) | fail) [facts, ]
  exact ⟨_, Heap.le_refl _, Heap.le_trans (le_upd _ hb1) (Heap.le_trans (le_upd _ hb2) hle3)⟩

theorem rightT_c (t : Txn) (H : Heap) (h : RightT t) : ECalls Try.prog 11 #[txnV t] H fun v H' => v = .bool true ∧ Heap.le H H' := by
  refine ecalls_of_ewp (args := [_]) Try.func11 rfl rfl rfl (by simp [Try.ntmps11]) (by kernel_rfl) ?_
  rcases h with rfl | h
  · simp only [txnV, txnL, zeroT]
    simp (disch := first | omega | assumption | decide | (simp <;> omega) | fail) [facts, ]
    refine fresh_intro fun b1 hb1 => ?_
    simp (disch := first | omega | assumption | decide | (simp <;> omega) | fail) [facts, ]
    exact ⟨_, Heap.le_refl _, le_upd _ hb1⟩
  have howes := fun H (ho : owesT t) => owes_c t H h.am2 ho
  obtain ⟨te, st, pan, am, sta, n0, n1, n2, n3, gi, ow⟩ := t
  obtain ⟨p1, p2, p3, a1, a2, few, hst⟩ := h
  simp only at p1 p2 p3 a1 a2 few hst
  have hdig := fun H => digits_c pan H p3 (by omega)
  have hnot := fun H => notes_c n0 n1 n2 n3 H few
  simp only [txnV, txnL] at howes ⊢
  have s0 : ¬ sta = 0 := by omega
  simp (disch := first | omega | assumption | decide | (simp <;> omega) | fail) [facts, ]
  refine fresh_intro fun b1 hb1 => ?_
  simp (disch := first | omega | assumption | decide | (simp <;> omega) | fail) [facts, s0, show ¬ (pan.length : Int) < 1 by omega, show ¬ (19 : Int) < pan.length by omega]
  refine (hdig _).mono ?_
  rintro v H2 ⟨rfl, rfl⟩
  simp (disch := first | omega | assumption | decide | (simp <;> omega) | fail) [facts, show ¬ am < 1 by omega, show ¬ 1000000 < am by omega]
  refine (hnot _).mono ?_
  rintro v H3 ⟨rfl, hle3⟩
  have hb3 := hle3 _ _ (upd_same _ _ _)
  have hleH := Heap.le_trans (le_upd _ hb1) hle3
  rcases hst with ⟨hs, hno, hg, ho⟩ | ⟨rfl, hg, ho⟩ | ⟨rfl, how⟩ | ⟨rfl, how⟩
  · obtain ⟨z0, z1, z2, z3⟩ := hno
    simp only at z0 z1 z2 z3 hg ho
    subst z0 z1 z2 z3 hg ho
    rcases hs with rfl | rfl | rfl
    all_goals
      simp (disch := first | omega | assumption | decide | (simp <;> omega) | fail) [facts, hb3]
      refine (noughts_c _).mono ?_
      rintro v H4 ⟨rfl, hle4⟩
      have hb4 := hle4 _ _ hb3
      simp (disch := first | omega | assumption | decide | (simp <;> omega) | fail) [facts, hb4]
      exact ⟨_, Heap.le_refl _, Heap.le_trans hleH hle4⟩
  · subst hg ho
    simp (disch := first | omega | assumption | decide | (simp <;> omega) | fail) [facts, hb3]
    exact ⟨_, Heap.le_refl _, hleH⟩
  · simp (disch := first | omega | assumption | decide | (simp <;> omega) | fail) [facts, hb3]
    refine (howes _ how).mono ?_
    rintro v H4 ⟨rfl, hle4⟩
    simp (disch := first | omega | assumption | decide | (simp <;> omega) | fail) [facts, ]
    exact ⟨_, Heap.le_refl _, Heap.le_trans hleH hle4⟩
  · rcases how with ⟨ho, hg⟩ | how
    · subst ho hg
      simp (disch := first | omega | assumption | decide | (simp <;> omega) | fail) [facts, hb3]
      exact ⟨_, Heap.le_refl _, hleH⟩
    · have h0 : ¬ ow = 0 := by have := how.2.1; simp only at this; omega
      simp (disch := first | omega | assumption | decide | (simp <;> omega) | fail) [facts, hb3, h0]
      refine (howes _ how).mono ?_
      rintro v H4 ⟨rfl, hle4⟩
      simp (disch := first | omega | assumption | decide | (simp <;> omega) | fail) [facts, ]
      exact ⟨_, Heap.le_refl _, Heap.le_trans hleH hle4⟩
end Go.Proofs.Ytahmnhdmnhijcaa.GL
