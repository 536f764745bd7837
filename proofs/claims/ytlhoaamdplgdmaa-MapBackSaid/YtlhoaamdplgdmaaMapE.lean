import Derived.Test.YtlhoaamdplgdmaaMapD
namespace Go.Proofs.Ytlhoaamdplgdmaa.GL
open Go Go.RowKit
set_option maxRecDepth 10000
set_option pp.deepTerms.threshold 8
set_option pp.maxSteps 3000
set_option linter.unusedSimpArgs false

theorem mapPut_some (a : Option Addr) (n c : Nat) (zs : List Int) (bs : List UInt8) (H : Heap) (h : SlA H a n 1 (zs.map i64V)) (hn : n ≤ 140737488351232) (hb : putB zs = some bs) :
    ECalls Try.prog 7 #[.slice a n c] H fun v H' => ∃ a' c', v = .tuple #[.slice a' bs.length c', .bool true] ∧ SlA H' a' bs.length 1 (bs.map u8V) ∧ bs.length ≤ c' ∧ Heap.le H H' := by
  refine (put_c a n c zs H h hn).mono ?_
  intro v H' hp
  simp only [PutPost, hb] at hp
  obtain ⟨b, o, cap, room, sv, hbn, rfl, hown, rfl⟩ := hp
  exact ⟨_, _, by rw [hown.is], hown.slA, hown.capOk, le_upd _ hbn⟩
theorem mapPut_none (a : Option Addr) (n c : Nat) (zs : List Int) (H : Heap) (h : SlA H a n 1 (zs.map i64V)) (hn : n ≤ 140737488351232) (hb : putB zs = none) :
    ECalls Try.prog 7 #[.slice a n c] H fun v H' => v = .tuple #[.slice none 0 0, .bool false] ∧ H' = H := by
  refine (put_c a n c zs H h hn).mono ?_
  intro v H' hp
  simpa only [PutPost, hb] using hp
theorem read_some (a : Option Addr) (n c : Nat) (bs : List UInt8) (l : List Int) (H : Heap) (h : SlA H a n 1 (bs.map u8V)) (hn : n ≤ 140737488351232) (hc : n ≤ c) (hr : readB bs = some l) :
    ECalls Try.prog 9 #[.slice a n c] H fun v H' => ∃ a' c', v = .tuple #[.slice a' l.length c', .int .i64 (sizeB bs), .bool true] ∧ SlA H' a' l.length 1 (l.map i64V) ∧ Heap.le H H' := by
  refine (read_c a n c bs H h hn hc).mono ?_
  intro v H' hp
  simp only [ReadPost, hr] at hp
  obtain ⟨hle, sv, rfl, hout⟩ := hp
  obtain ⟨a', c', hsv, hsl⟩ := hout.sl
  exact ⟨a', c', by rw [hsv], hsl, hle⟩

/-- A row of numbers that was just built. -/
theorem row_i64 {H : Heap} {b : Nat} (xs : List Int) : SlA (upd H b (.row true 0 (xs.map i64V) 0)) (some ⟨b, 0, none⟩) xs.length 1 (xs.map i64V) :=
  SlA.row (upd_same _ _ _) (Nat.le_refl _) (by simp) (by simp) (by rw [Nat.sub_self, List.drop_zero, Nat.mul_one, List.take_of_length_le (by simp)])

theorem known_c (H : Heap) : ECalls Try.prog 6 #[] H fun v H' => v = .bool true ∧ Heap.le H H' := by
  refine ecalls_of_ewp (args := []) Try.func6 rfl rfl rfl (by simp [Try.ntmps6]) (by kernel_rfl) ?_
  have hp : putB [2, 66] = some [0xc0, 0, 0, 0, 0, 0, 0, 0, 0x40, 0, 0, 0, 0, 0, 0, 0] := by decide +kernel
  have hr : readB [0xc0, 0, 0, 0, 0, 0, 0, 0, 0x40, 0, 0, 0, 0, 0, 0, 0] = some [2, 66] := by decide +kernel
  have hq : putB [1] = none := by decide +kernel
  have hsz : sizeB [0xc0, 0, 0, 0, 0, 0, 0, 0, 0x40, 0, 0, 0, 0, 0, 0, 0] = 16 := by decide +kernel
  simp (disch := first | omega | assumption | decide | (simp <;> omega) | fail) [facts, ]
  refine fresh_intro fun b hb => ?_
  simp (disch := first | omega | assumption | decide | (simp <;> omega) | fail) [facts, ]
  refine (mapPut_some _ _ _ [2, 66] _ _ (row_i64 [2, 66]) (by decide) hp).mono ?_
  rintro v H1 ⟨a1, c1, rfl, hs1, hc1, hle1⟩
  simp (disch := first | omega | assumption | decide | (simp <;> omega) | fail) [facts, ]
  have hp1 := hs1.plain
  have ht1 := hs1.there (by decide)
  refine (read_some _ _ _ _ [2, 66] _ hs1 (by decide) hc1 hr).mono ?_
  rintro v H2 ⟨a2, c2, rfl, hs2, hle2⟩
  simp (disch := first | omega | assumption | decide | (simp <;> omega) | fail) [facts, hsz]
  refine fresh_intro fun b3 hb3 => ?_
  simp (disch := first | omega | assumption | decide | (simp <;> omega) | fail) [facts, ]
  refine (mapPut_none _ _ _ [1] _ (row_i64 [1]) (by decide) hq).mono ?_
  rintro v H3 ⟨rfl, rfl⟩
  have hle3 := le_upd (.row true 0 ([1].map i64V) 0) hb3
  have h0 : at1 (upd H2 b3 (.row true 0 ([1].map i64V) 0)) a1 0 = some (.int .u8 192) := (hs1.le (Heap.le_trans hle2 hle3)).at (k := 0) (x := 192) rfl
  simp only [List.map_cons, List.map_nil, i64V_def] at h0 hle3
  simp (disch := first | omega | assumption | decide | (simp <;> omega) | fail) [facts, h0]
  refine fresh_intro fun b4 hb4 => ?_
  simp (disch := first | omega | assumption | decide | (simp <;> omega) | fail) [facts, ]
  have hle4 := le_upd (.row true 0 ([2, 66].map i64V) 0) hb4
  refine (ints_c _ _ _ _ _ _ [2, 66] [2, 66] _ (hs2.le (Heap.le_trans hle3 hle4)) (row_i64 [2, 66]) (by decide) (by decide)).mono ?_
  rintro v H5 ⟨rfl, rfl⟩
  simp (disch := first | omega | assumption | decide | (simp <;> omega) | fail) [facts, ]
  have hs5 := hs1.le (Heap.le_trans hle2 (Heap.le_trans hle3 hle4))
  refine (has_c _ _ _ _ 66 _ hs5 (by decide) (by decide)).mono ?_
  rintro v H6 ⟨rfl, rfl⟩
  have h66 : hasB [0xc0, 0, 0, 0, 0, 0, 0, 0, 0x40, 0, 0, 0, 0, 0, 0, 0] 66 = true := by decide +kernel
  have h3 : hasB [0xc0, 0, 0, 0, 0, 0, 0, 0, 0x40, 0, 0, 0, 0, 0, 0, 0] 3 = false := by decide +kernel
  simp (disch := first | omega | assumption | decide | (simp <;> omega) | fail) [facts, h66]
  refine (has_c _ _ _ _ 3 _ hs5 (by decide) (by decide)).mono ?_
  rintro v H7 ⟨rfl, rfl⟩
  simp (disch := first | omega | assumption | decide | (simp <;> omega) | fail) [facts, h3]
  exact ⟨_, Heap.le_refl _, Heap.le_trans (le_upd _ hb) (Heap.le_trans hle1 (Heap.le_trans hle2 (Heap.le_trans hle3 hle4)))⟩
end Go.Proofs.Ytlhoaamdplgdmaa.GL
