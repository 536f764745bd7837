/- Layer 7: the walk of MapReads. -/
import Derived.Test.YtlhoaamdplgdmaaMapH
namespace Go.Proofs.Ytlhoaamdplgdmaa.GL
open Go Go.RowKit
set_option maxRecDepth 10000
set_option pp.deepTerms.threshold 8
set_option pp.maxSteps 3000
set_option linter.unusedSimpArgs false
set_option linter.unusedVariables false

/-- A row of slices of bytes. -/
def SlRow (H : Heap) (row : List Value) : Prop := ∀ (k : Nat) (v : Value), row[k]? = some v → ∃ a n c bs, v = .slice a n c ∧ SlA H a n 1 (List.map u8V bs) ∧ n ≤ 200 ∧ n ≤ c
theorem SlRow.nil (H : Heap) : SlRow H [] := fun k v h => by cases h
theorem SlRow.cons {H : Heap} {a : Option Addr} {n c : Nat} {bs : List UInt8} {row : List Value} (h : SlA H a n 1 (bs.map u8V)) (hn : n ≤ 200) (hc : n ≤ c) (hr : SlRow H row) : SlRow H (.slice a n c :: row) := fun k v hk => by
  cases k with
  | zero => cases hk; exact ⟨_, _, _, _, rfl, h, hn, hc⟩
  | succ k => exact hr k v (by simpa using hk)
theorem SlRow.le {H H' : Heap} {row : List Value} (h : SlRow H row) (hl : Heap.le H H') : SlRow H' row := fun k v hk => by
  obtain ⟨a, n, c, bs, h1, h2, h3⟩ := h k v hk
  exact ⟨a, n, c, bs, h1, h2.le hl, h3⟩

theorem readB_len (bs : List UInt8) (l : List Int) (h : readB bs = some l) : l.length ≤ 127 := by
  have hm8 : sizeB bs = 8 ∨ sizeB bs = 16 := by unfold sizeB; split <;> simp
  have := scanB_len (hasB (bs.take (sizeB bs))) (8 * sizeB bs - 1)
  simp only [readB] at h
  split at h
  · cases h
  · split at h
    · cases h
    · cases h; omega
def resB (bs : List UInt8) : List Int × Nat × Bool := match readB bs with | none => ([], 0, false) | some l => (l, sizeB bs, true)
theorem read_form {bs : List UInt8} {H H' : Heap} {v : Value} (h : ReadPost bs H v H') : ∃ a c, v = .tuple #[.slice a (resB bs).1.length c, .int .i64 (resB bs).2.1, .bool (resB bs).2.2] ∧ SlA H' a (resB bs).1.length 1 ((resB bs).1.map i64V) ∧ Heap.le H H' ∧ (resB bs).1.length ≤ 127 := by
  obtain ⟨hle, h⟩ := h
  unfold resB
  cases hr : readB bs with
  | none =>
    rw [hr] at h
    exact ⟨none, 0, h, SlA.nil _ _, hle, by simp⟩
  | some l =>
    rw [hr] at h
    obtain ⟨sv, rfl, hout⟩ := h
    obtain ⟨a, c, rfl, hs⟩ := hout.sl
    exact ⟨a, c, rfl, hs, hle, readB_len bs l hr⟩

set_option maxHeartbeats 4000000 in
theorem mapReads_c (a : Option Addr) (n c : Nat) (bs : List UInt8) (x : Int) (k : Nat) (H : Heap) (h : SlA H a n 1 (bs.map u8V)) (hnc : n ≤ c) (hx : -9223372036854775808 ≤ x ∧ x ≤ 9223372036854775807) (hk : k < 256) :
    ECalls Try.prog 4 #[.slice a n c, .int .i64 x, .int .u8 k] H fun r _ => r = .bool true := by
  refine ecalls_of_ewp (args := [_, _, _]) Try.func4 rfl rfl rfl (by simp [Try.ntmps4]) (by kernel_rfl) ?_
  have hl : bs.length = n := by simpa using h.len
  simp (disch := first | omega | assumption | decide | (simp <;> omega) | fail) [facts, ]
  refine (known_c H).mono ?_
  rintro r H1 ⟨rfl, hle1⟩
  have hs1 := h.le hle1
  by_cases h60 : (60 : Int) < n
  · simp (disch := first | omega | assumption | decide | (simp <;> omega) | fail) [facts, h60]
    exact ⟨_, Heap.le_refl _⟩
  simp (disch := first | omega | assumption | decide | (simp <;> omega) | fail) [facts, h60]
  have hmi : (k : Int) % ((n : Int) + 1) = ((k % (n + 1) : Nat) : Int) := by simp
  have hmn : k % (n + 1) ≤ n := Nat.le_of_lt_succ (Nat.mod_lt _ (by omega))
  generalize k % (n + 1) = m at hmi hmn
  have hsm := hs1.take hmn
  rw [Nat.mul_one, ← List.map_take] at hsm
  have h128 : [Value.int .u8 128] = ([128] : List UInt8).map u8V := rfl
  have hz16 : zeros (cellsV (.int .u8 0)) (Int.toNat 16) = (List.replicate 16 (0 : UInt8)).map u8V := rfl
  refine w_cut (fun s => s.env 1 = .int .i64 x ∧ ∃ b6 row, s.env 33 = .slice (some ⟨b6, 0, none⟩) 3 3 ∧ s.env 34 = .int .i64 3 ∧ s.env 35 = .int .i64 0 ∧ s.heap b6 = some (.row true 0 row 0) ∧ row.length = 3 ∧ SlRow s.heap row) ?_ ?_
  · refine w_plan (P := Try.prog) (by simp [facts]) (opsP [0,1,2,3,4,5,6,7,8,10,15,9,11,12,13,14] .done) ?_ ?_
    · kernel_rfl
    have e0 : (1 : Nat) = 1 := rfl
    simp (disch := first | omega | assumption | decide | (simp <;> omega) | fail) [facts, hmi, hmn]
    refine fresh_intro fun b1 hb1 => ?_
    simp (disch := first | omega | assumption | decide | (simp <;> omega) | fail) [facts, e0, hmi, hmn]
    refine Out.app (e := 5) (s := 1) (nbs := 1) (z := .int .u8 0) (H := H1) (by simp [facts]) (by simp [facts]) (by simp [facts]) (by simp [facts]) rfl (by decide) (le_upd _ hb1) (Out.fresh hb1 (by simp) (Nat.le_refl _) (by omega))
      (src_sl (e1 := 5) (z := .int .u8 0) (by simp [facts]) (by simp [facts]) (by simp [facts]) (hs1.le (le_upd _ hb1))) (by simp [hl]) (all_u8 _) (by omega) ?_
    intro sv2 H2 hle2 _ hout2
    rw [h128, ← List.map_append] at hout2
    simp (disch := first | omega | assumption | decide | (simp <;> omega) | fail) [facts, e0, hmi, hmn]
    refine Out.app (e := 5) (s := 1) (nbs := 1) (z := .int .u8 0) (H := H1) (by simp [facts]) (by simp [facts]) (by simp [facts]) (by simp [facts]) rfl (by decide) hle2 hout2
      (src_zeros (k := .i64) (s := 1) (z := .int .u8 0) (by simp [facts]) (by simp [facts]) (by simp [facts]) (by decide) (by decide)) (by decide) (by decide) (by simp; omega) ?_
    intro sv3 H3 hle3 _ hout3
    rw [hz16, ← List.map_append] at hout3
    obtain ⟨a3, c3, rfl, hs3, hc3⟩ := hout3.sl2
    simp (disch := first | omega | assumption | decide | (simp <;> omega) | fail) [facts, e0, hmi, hmn]
    refine fresh_intro fun b6 hb6 => ?_
    have hle6 := le_upd (.row true 0 [Value.slice a n c, Value.slice a m c, Value.slice a3 (1 + n + 16) c3] 0) hb6
    have hsr : SlRow (upd H3 b6 (.row true 0 [Value.slice a n c, Value.slice a m c, Value.slice a3 (1 + n + 16) c3] 0)) [Value.slice a n c, Value.slice a m c, Value.slice a3 (1 + n + 16) c3] :=
      .cons (hs1.le (Heap.le_trans hle3 hle6)) (by omega) hnc (.cons (hsm.le (Heap.le_trans hle3 hle6)) (by omega) (by omega) (.cons (hs3.le hle6) (by omega) hc3 (.nil _)))
    generalize hrow : [Value.slice a n c, Value.slice a m c, Value.slice a3 (1 + n + 16) c3] = row at hsr
    simp (disch := first | omega | assumption | decide | (simp <;> omega) | fail) [facts, e0, hmi, hmn, hrow]
    exact ⟨by rw [← hrow]; rfl, hsr⟩
  · rintro ⟨e, H2⟩ ⟨e1, b6, row, e33, e34, e35, hb6, hrl, hsr⟩
    simp only at e1 e33 e34 e35 hb6 hsr
    simp (disch := first | omega | assumption | decide | (simp <;> omega) | fail) [facts, e1, e33, e34, e35]
    refine w_loop (fun s => ∃ k : Nat, k ≤ 3 ∧ s.env 1 = .int .i64 x ∧ s.env 33 = .slice (some ⟨b6, 0, none⟩) 3 3 ∧ s.env 34 = .int .i64 3 ∧ s.env 35 = .int .i64 k ∧ Heap.le H2 s.heap) (fun s => 3 - (intOf (s.env 35)).toNat) ?_ ?_
    · exact ⟨0, by decide, by simp [e1], by simp [e33], by simp [e34], by simp [e35], Heap.le_refl _⟩
    · rintro ⟨e, H3⟩ ⟨j, hj, e1, e33, e34, e35, hle⟩
      simp only at e1 e33 e34 e35 hle
      by_cases hlt : (j : Int) < 3
      · have hj3 : j < row.length := by omega
        obtain ⟨ax, nx, cx, bx, hrx, hsx, hnx, hcx⟩ := (hsr.le hle) j _ (List.getElem?_eq_getElem hj3)
        have hrx2 : row[j]? = some (.slice ax nx cx) := by rw [List.getElem?_eq_getElem hj3, hrx]
        have hb7 := hle _ _ hb6
        simp (disch := first | omega | assumption | decide | (simp <;> omega) | fail) [facts, e1, e33, e34, e35, hlt, hb7, hrx, hrx2, hrl]
        refine (read_c ax nx cx bx _ hsx (by omega) hcx).mono ?_
        intro r H4 hp
        obtain ⟨a4, c4, rfl, hs4, hle4, hl4⟩ := read_form hp
        clear hp
        have hsx4 := hsx.le hle4
        simp (disch := first | omega | assumption | decide | (simp <;> omega) | fail) [facts, e1, e33, e34, e35]
        refine (readR_c ax nx cx bx _ hsx4 (by omega) hcx).mono ?_
        intro r H5 hp
        obtain ⟨a5, c5, rfl, hs5, hle5, hl5⟩ := read_form hp
        clear hp
        have hsx5 := hsx4.le hle5
        have hs45 := hs4.le hle5
        generalize resB bx = rb at *
        obtain ⟨l, kz, ok⟩ := rb
        simp only at hs45 hs5 hl5 hl4
        simp (disch := first | omega | assumption | decide | (simp <;> omega) | fail) [facts, e1, e33, e34, e35]
        refine (ints_c a4 a5 _ _ c4 c5 l l _ hs45 hs5 (by omega) (by omega)).mono ?_
        rintro r H6 ⟨rfl, rfl⟩
        simp (disch := first | omega | assumption | decide | (simp <;> omega) | fail) [facts, e1, e33, e34, e35]
        refine (has_c ax nx cx bx x _ hsx5 (by omega) hx).mono ?_
        rintro r H7 ⟨rfl, rfl⟩
        simp (disch := first | omega | assumption | decide | (simp <;> omega) | fail) [facts, e1, e33, e34, e35]
        refine (hasR_c ax nx cx bx x _ hsx5 (by omega) hx).mono ?_
        rintro r H8 ⟨rfl, rfl⟩
        simp (disch := first | omega | assumption | decide | (simp <;> omega) | fail) [facts, e1, e33, e34, e35]
        refine (has_c ax nx cx bx (andK .i64 x 127) _ hsx5 (by omega) (andK_i64 _ _)).mono ?_
        rintro r H9 ⟨rfl, rfl⟩
        simp (disch := first | omega | assumption | decide | (simp <;> omega) | fail) [facts, e1, e33, e34, e35]
        refine (hasR_c ax nx cx bx (andK .i64 x 127) _ hsx5 (by omega) (andK_i64 _ _)).mono ?_
        rintro r H9 ⟨rfl, rfl⟩
        simp (disch := first | omega | assumption | decide | (simp <;> omega) | fail) [facts, e1, e33, e34, e35]
        exact ⟨_, Heap.le_refl _, ⟨j + 1, by omega, by simp [e1], by simp [e33], by simp [e34], by simp, by simpa using Heap.le_trans hle (Heap.le_trans hle4 hle5)⟩, by simp [intOf, e35]; omega⟩
      · simp (disch := first | omega | assumption | decide | (simp <;> omega) | fail) [facts, e1, e33, e34, e35, hlt]
        exact ⟨_, Heap.le_refl _⟩
end Go.Proofs.Ytlhoaamdplgdmaa.GL
