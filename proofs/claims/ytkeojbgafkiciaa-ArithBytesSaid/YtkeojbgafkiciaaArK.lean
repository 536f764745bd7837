/- Layer 1: the walk of ArithBytes. -/
import Derived.Test.YtkeojbgafkiciaaArI
import Derived.Test.YtkeojbgafkiciaaGlL
namespace Go.Proofs.Ytkeojbgafkiciaa.GL
open Go Go.RowKit
set_option maxRecDepth 10000
set_option pp.deepTerms.threshold 8
set_option pp.maxSteps 3000
set_option linter.unusedSimpArgs false
set_option linter.unusedVariables false

theorem signedR_c (a : Option Addr) (n c : Nat) (bs : List UInt8) (H : Heap) (h : SlA H a n 1 (bs.map u8V)) (hn : n ≤ 140737488351232) :
    ECalls Try.prog 24 #[.slice a n c] H fun r H' => r = signedV bs ∧ H' = H := by
  refine ecalls_of_ewp (args := [_]) Try.func24 rfl rfl rfl (by simp [Try.ntmps24]) (by kernel_rfl) ?_
  have hl : bs.length = n := by simpa using h.len
  by_cases h1 : (n : Int) < 1
  · simp (disch := first | omega | assumption | decide | (simp <;> omega) | fail) [facts, h1, signedV, hl, show n < 1 by omega]
  · by_cases h2 : (8 : Int) < n
    · simp (disch := first | omega | assumption | decide | (simp <;> omega) | fail) [facts, h1, h2, signedV, hl, show 8 < n by omega]
    · simp (disch := first | omega | assumption | decide | (simp <;> omega) | fail) [facts, h1, h2]
      refine (numberR_c a n c bs H h hn).mono ?_
      rintro r H' ⟨rfl, rfl⟩
      cases hb : numB bs with
      | none =>
        simp (disch := first | omega | assumption | decide | (simp <;> omega) | fail) [facts, numV]
        refine (wrapR_c _ _ _ (by simp [i64In]) (by simp only [i64In]; omega)).mono ?_
        rintro r H' ⟨rfl, rfl⟩
        simp (disch := first | omega | assumption | decide | (simp <;> omega) | fail) [facts, signedV, hl, hb, show ¬ n < 1 by omega, show ¬ 8 < n by omega]
      | some w =>
        simp (disch := first | omega | assumption | decide | (simp <;> omega) | fail) [facts, numV]
        refine (wrapR_c _ _ _ (wrap_i64_in _) (by simp only [i64In]; omega)).mono ?_
        rintro r H' ⟨rfl, rfl⟩
        simp (disch := first | omega | assumption | decide | (simp <;> omega) | fail) [facts, signedV, hl, hb, show ¬ n < 1 by omega, show ¬ 8 < n by omega]

theorem numV_form (o : Option Nat) : ∃ m b, numV o = .tuple #[.int .u64 m, .bool b] := by
  cases o with
  | none => exact ⟨_, _, rfl⟩
  | some v => exact ⟨_, _, rfl⟩
theorem signedV_form (bs : List UInt8) : ∃ m b, signedV bs = .tuple #[.int .i64 m, .bool b] := by
  unfold signedV; split
  · exact ⟨_, _, rfl⟩
  · exact ⟨_, _, rfl⟩
theorem andK_in (a b : Int) : i64In (andK .i64 a b) := wrap_i64_in _

/-- A row of slices of bytes. -/
def SlRow (H : Heap) (row : List Value) : Prop := ∀ (k : Nat) (v : Value), row[k]? = some v → ∃ a n c bs, v = .slice a n c ∧ SlA H a n 1 (List.map u8V bs) ∧ n ≤ 200
theorem SlRow.nil (H : Heap) : SlRow H [] := fun k v h => by cases h
theorem SlRow.cons {H : Heap} {a : Option Addr} {n c : Nat} {bs : List UInt8} {row : List Value} (h : SlA H a n 1 (bs.map u8V)) (hn : n ≤ 200) (hr : SlRow H row) : SlRow H (.slice a n c :: row) := fun k v hk => by
  cases k with
  | zero => cases hk; exact ⟨_, _, _, _, rfl, h, hn⟩
  | succ k => exact hr k v (by simpa using hk)

set_option maxHeartbeats 4000000 in
theorem bytesLaw_c (v : Nat) (n : Int) (a : Option Addr) (ln c : Nat) (bs : List UInt8) (z : Nat) (H : Heap) (hv : v < 2 ^ 64) (hn : i64In n) (h : SlA H a ln 1 (bs.map u8V)) (hlc : ln ≤ c) (hz : z < 256) :
    ECalls Try.prog 6 #[.int .u64 v, .int .i64 n, .slice a ln c, .int .u8 z] H fun r _ => r = .bool true := by
  refine ecalls_of_ewp (args := [_, _, _, _]) Try.func6 rfl rfl rfl (by simp [Try.ntmps6]) (by kernel_rfl) ?_
  have hl : bs.length = ln := by simpa using h.len
  have hand := andK_in n 15
  simp (disch := first | omega | assumption | decide | (simp <;> omega) | fail) [facts, ]
  refine (known_c H).mono ?_
  rintro r H1 ⟨rfl, hle1⟩
  by_cases h100 : (100 : Int) < ln
  · simp (disch := first | omega | assumption | decide | (simp <;> omega) | fail) [facts, h100]
    exact ⟨_, Heap.le_refl _⟩
  simp (disch := first | omega | assumption | decide | (simp <;> omega) | fail) [facts, h100]
  refine fresh_intro fun b hb => ?_
  simp (disch := first | omega | assumption | decide | (simp <;> omega) | fail) [facts, ]
  refine w_cutB (fun s => s.env 0 = .int .u64 v ∧ s.env 2 = .slice a ln c ∧ s.env 3 = .int .u8 z ∧ Heap.le H s.heap) ?_ ?_
  · 
    obtain ⟨row, hrow⟩ : ∃ row, row = [Value.int .i64 n, Value.int .i64 (andK .i64 n 15)] := ⟨_, rfl⟩
    rw [← hrow]
    have hrl : row.length = 2 := by rw [hrow]; rfl
    have hat : ∀ (k : Nat) (w : Value), row[k]? = some w → ∃ x, w = .int .i64 x ∧ i64In x := by
      rw [hrow]
      intro k w hk
      match k, hk with
      | 0, hk => cases hk; exact ⟨_, rfl, hn⟩
      | 1, hk => cases hk; exact ⟨_, rfl, hand⟩
    have hle2 := Heap.le_trans hle1 (le_upd (.row true 0 row 0) hb)
    have hbr := upd_same H1 b (.row true 0 row 0)
    generalize upd H1 b (.row true 0 row 0) = H2 at *
    clear hrow
    refine w_loop (fun s => ∃ k : Nat, k ≤ 2 ∧ s.env 0 = .int .u64 v ∧ s.env 2 = .slice a ln c ∧ s.env 3 = .int .u8 z ∧ s.env 31 = .slice (some ⟨b, 0, none⟩) 2 2 ∧ s.env 32 = .int .i64 2 ∧ s.env 33 = .int .i64 k ∧ Heap.le H2 s.heap) (fun s => 2 - (intOf (s.env 33)).toNat) ?_ ?_
    · exact ⟨0, by decide, by simp, by simp, by simp, by simp, by simp, by simp, by simp [Heap.le_refl]⟩
    · rintro ⟨e, H3⟩ ⟨k, hk, e0, e2, e3, e31, e32, e33, hle⟩
      simp only at e0 e2 e3 e31 e32 e33 hle
      by_cases hlt : (k : Int) < 2
      · have hk2 : k < row.length := by omega
        obtain ⟨x, hx, hxin⟩ := hat k _ (List.getElem?_eq_getElem hk2)
        have hx2 : row[k]? = some (.int .i64 x) := by rw [List.getElem?_eq_getElem hk2, hx]
        have hb3 := hle _ _ hbr
        simp (disch := first | omega | assumption | decide | (simp <;> omega) | fail) [facts, e0, e2, e3, e31, e32, e33, hlt, hb3, hx, hx2, hrl]
        refine w_plan (P := Try.prog) (by simp [facts]) (opsP [0,1,4,5,2] (.both (opsP [3,6,7,8] .done) (opsP [6] (.both (opsP [3,7,8] .done) (opsP [7,3,8] .done))))) ?_ ?_
        · decide +kernel
        simp (disch := first | omega | assumption | decide | (simp <;> omega) | fail) [facts, e0, e2, e3, e31, e32, e33]
        refine (bytes_c v x _ hv hxin).mono ?_
        rintro r H4 ⟨hle4, hout4⟩
        obtain ⟨a4, c4, rfl, hs4⟩ := hout4.sl
        simp (disch := first | omega | assumption | decide | (simp <;> omega) | fail) [facts, e0, e2, e3, e31, e32, e33, conv_bytes (P := Try.prog) (el := 5) (by simp [facts]) hs4]
        refine ⟨?_, ?_⟩
        · refine (put_c v x _ hv hxin).mono ?_
          rintro r H5 ⟨hle5, hout5⟩
          obtain ⟨a5, c5, rfl, hs5⟩ := hout5.sl
          simp (disch := first | omega | assumption | decide | (simp <;> omega) | fail) [facts, e0, e2, e3, e31, e32, e33, conv_bytes (P := Try.prog) (el := 5) (by simp [facts]) hs5]
          exact ⟨_, Heap.le_refl _, ⟨k + 1, by omega, by simp [e0], by simp [e2], by simp [e3], by simp [e31], by simp [e32], by simp, by simpa using Heap.le_trans hle (Heap.le_trans hle4 hle5)⟩, by simp [intOf, e33]; omega⟩
        · refine (put_c v x _ hv hxin).mono ?_
          rintro r H5 ⟨hle5, hout5⟩
          obtain ⟨a5, c5, rfl, hs5⟩ := hout5.sl
          have hs4' := hs4.le hle5
          simp (disch := first | omega | assumption | decide | (simp <;> omega) | fail) [facts, e0, e2, e3, e31, e32, e33, conv_bytes (P := Try.prog) (el := 5) (by simp [facts]) hs5, conv_bytes (P := Try.prog) (el := 5) (by simp [facts]) hs4']
          refine ⟨?_, ?_⟩ <;>
          exact ⟨_, Heap.le_refl _, ⟨k + 1, by omega, by simp [e0], by simp [e2], by simp [e3], by simp [e31], by simp [e32], by simp, by simpa using Heap.le_trans hle (Heap.le_trans hle4 hle5)⟩, by simp [intOf, e33]; omega⟩
      · simp (disch := first | omega | assumption | decide | (simp <;> omega) | fail) [facts, e0, e2, e3, e31, e32, e33, hlt]
        exact Heap.le_trans hle2 hle
  · rintro ⟨e, H2⟩ ⟨e0, e2, e3, hle⟩
    simp only at e0 e2 e3 hle
    have hq : (z : Int) % 9 = ((z % 9 : Nat) : Int) := by omega
    have hq9 : z % 9 < 9 := Nat.mod_lt _ (by decide)
    generalize hqz : z % 9 = q at hq hq9
    have hzr : List.replicate q (Value.int .u8 0) = (List.replicate q (0 : UInt8)).map u8V := by rw [List.map_replicate]; rfl
    have h8 : sizeZ 8 = 8 := by decide +kernel
    have hsq : sizeZ (q : Int) = q := by unfold sizeZ; omega
    have hs2 := h.le hle
    simp (disch := first | omega | assumption | decide | (simp <;> omega) | fail) [facts, e0, e2, e3, hq]
    refine fresh_intro fun b hb => ?_
    rw [hzr]
    simp (disch := first | omega | assumption | decide | (simp <;> omega) | fail) [facts, e0, e2, e3, hq]
    refine Out.app (e := 5) (s := 1) (nbs := 1) (z := .int .u8 0) (H := H2) (by simp [facts]) (by simp [facts]) (by simp [facts]) (by simp [facts]) rfl (by decide) (le_upd _ hb) (Out.fresh hb (by simp) (Nat.le_refl _) (by omega))
      (src_sl (e1 := 5) (z := .int .u8 0) (by simp [facts]) (by simp [facts]) (by simp [facts]) (hs2.le (le_upd _ hb))) (by simp [hl]) (all_u8 _) (by omega) ?_
    intro sv3 H3 hle3 _ hout3
    rw [hzr, ← List.map_append] at hout3
    obtain ⟨a3, c3, rfl, hs3⟩ := hout3.sl
    simp (disch := first | omega | assumption | decide | (simp <;> omega) | fail) [facts, e0, e2, e3, hq]
    refine (bytes_c v 8 _ hv (by simp [i64In])).mono ?_
    rintro r H4 ⟨hle4, hout4⟩
    rw [h8] at hout4
    obtain ⟨a4, c4, rfl, hs4⟩ := hout4.sl
    simp (disch := first | omega | assumption | decide | (simp <;> omega) | fail) [facts, e0, e2, e3, hq]
    refine (bytes_c v q _ hv (by simp only [i64In]; omega)).mono ?_
    rintro r H5 ⟨hle5, hout5⟩
    rw [hsq] at hout5
    obtain ⟨a5, c5, rfl, hs5⟩ := hout5.sl
    simp (disch := first | omega | assumption | decide | (simp <;> omega) | fail) [facts, e0, e2, e3, hq]
    refine fresh_intro fun b6 hb6 => ?_
    obtain ⟨row, hrow⟩ : ∃ row, row = [Value.slice a ln c, Value.slice a3 (q + ln) c3, Value.slice a4 8 c4, Value.slice a5 q c5] := ⟨_, rfl⟩
    rw [← hrow]
    have hrl : row.length = 4 := by rw [hrow]; rfl
    have hle6 := le_upd (.row true 0 row 0) hb6
    have hbr := upd_same H5 b6 (.row true 0 row 0)
    generalize upd H5 b6 (.row true 0 row 0) = H6 at *
    have hsr : SlRow H6 row := by
      rw [hrow]
      exact .cons (hs2.le (Heap.le_trans hle3 (Heap.le_trans hle4 (Heap.le_trans hle5 hle6)))) (by omega) (.cons (hs3.le (Heap.le_trans hle4 (Heap.le_trans hle5 hle6))) (by omega)
        (.cons (hs4.le (Heap.le_trans hle5 hle6)) (by decide) (.cons (hs5.le hle6) (by omega) (.nil _))))
    clear hrow
    simp (disch := first | omega | assumption | decide | (simp <;> omega) | fail) [facts, e0, e2, e3, hq]
    refine w_loop (fun s => ∃ k : Nat, k ≤ 4 ∧ s.env 0 = .int .u64 v ∧ s.env 60 = .slice (some ⟨b6, 0, none⟩) 4 4 ∧ s.env 61 = .int .i64 4 ∧ s.env 62 = .int .i64 k ∧ s.heap = H6) (fun s => 4 - (intOf (s.env 62)).toNat) ?_ ?_
    · exact ⟨0, by decide, by simp [e0], by simp, by simp, by simp, rfl⟩
    · rintro ⟨e, H7⟩ ⟨k, hk, e0, e60, e61, e62, hH⟩
      simp only at e0 e60 e61 e62 hH
      subst hH
      by_cases hlt : (k : Int) < 4
      · have hk4 : k < row.length := by omega
        obtain ⟨ax, nx, cx, bx, hx, hsx, hnx⟩ := hsr k _ (List.getElem?_eq_getElem hk4)
        have hx2 : row[k]? = some (.slice ax nx cx) := by rw [List.getElem?_eq_getElem hk4, hx]
        obtain ⟨m, mb, hm⟩ := numV_form (numB bx)
        obtain ⟨g, gb, hg⟩ := signedV_form bx
        simp (disch := first | omega | assumption | decide | (simp <;> omega) | fail) [facts, e0, e60, e61, e62, hlt, hbr, hx, hx2, hrl]
        refine (number_c ax nx cx bx _ hsx (by omega)).mono ?_
        rintro r H8 ⟨rfl, rfl⟩
        simp (disch := first | omega | assumption | decide | (simp <;> omega) | fail) [facts, e0, e60, e61, e62, hm]
        refine (numberR_c ax nx cx bx _ hsx (by omega)).mono ?_
        rintro r H8 ⟨rfl, rfl⟩
        simp (disch := first | omega | assumption | decide | (simp <;> omega) | fail) [facts, e0, e60, e61, e62, hm]
        refine (signed_c ax nx cx bx _ hsx (by omega)).mono ?_
        rintro r H8 ⟨rfl, rfl⟩
        simp (disch := first | omega | assumption | decide | (simp <;> omega) | fail) [facts, e0, e60, e61, e62, hg]
        refine (signedR_c ax nx cx bx _ hsx (by omega)).mono ?_
        rintro r H8 ⟨rfl, rfl⟩
        simp (disch := first | omega | assumption | decide | (simp <;> omega) | fail) [facts, e0, e60, e61, e62, hg]
        exact ⟨_, Heap.le_refl _, ⟨k + 1, by omega, by simp [e0], by simp [e60], by simp [e61], by simp, rfl⟩, by simp [intOf, e62]; omega⟩
      · simp (disch := first | omega | assumption | decide | (simp <;> omega) | fail) [facts, e0, e60, e61, e62, hlt]
        refine (bytes_c v 8 _ hv (by simp [i64In])).mono ?_
        rintro r H8 ⟨hle8, hout8⟩
        rw [h8] at hout8
        obtain ⟨a8, c8, rfl, hs8⟩ := hout8.sl
        have hnb := numB_bytes v 8 (by decide)
        rw [Nat.mod_eq_of_lt (by omega)] at hnb
        simp (disch := first | omega | assumption | decide | (simp <;> omega) | fail) [facts, e0]
        refine (number_c a8 8 c8 _ _ hs8 (by decide)).mono ?_
        rintro r H9 ⟨rfl, rfl⟩
        rw [hnb]
        simp (disch := first | omega | assumption | decide | (simp <;> omega) | fail) [facts, e0, numV]
        exact ⟨_, Heap.le_refl _⟩
end Go.Proofs.Ytkeojbgafkiciaa.GL
