/- Layer 7: the contracts of the reference's Has and Read. -/
import Derived.Test.YtlhoaamdplgdmaaMapE
import Derived.Test.YtlhoaamdplgdmaaGlL
namespace Go.Proofs.Ytlhoaamdplgdmaa.GL
open Go Go.RowKit
set_option maxRecDepth 10000
set_option pp.deepTerms.threshold 8
set_option pp.maxSteps 3000
set_option linter.unusedSimpArgs false
set_option linter.unusedVariables false

theorem hasR_c (a : Option Addr) (n c : Nat) (bs : List UInt8) (x : Int) (H : Heap) (h : SlA H a n 1 (bs.map u8V)) (hn : n ≤ 140737488351232) (hx : -9223372036854775808 ≤ x ∧ x ≤ 9223372036854775807) :
    ECalls Try.prog 13 #[.slice a n c, .int .i64 x] H fun v H' => v = .bool (hasB bs x) ∧ H' = H := by
  refine ecalls_of_ewp (args := [_, _]) Try.func13 rfl rfl rfl (by simp [Try.ntmps13]) (by kernel_rfl) ?_
  obtain ⟨hp, hth, hl, hg, hgN⟩ := h
  have hl' : bs.length = n := by simpa using hl
  by_cases h1 : 1 ≤ x
  · by_cases h2 : x ≤ 128
    · by_cases h3 : (x - 1) / 8 < n
      · simp (disch := first | omega | assumption | (apply hth; omega) | rfl) [h1, h2, h3, hg, facts]
        rw [bit_val _ _ (by omega) (by omega)]
        have hc : bs[((x - 1) / 8).toNat]? = some (bs[((x - 1) / 8).toNat]'(by omega)) := List.getElem?_eq_getElem (by omega)
        simp only [hasB, h1, h2, hc, bitOf, and_self, decide_true, Bool.true_and]
        congr 1
        exact propext ⟨fun h => by omega, fun h => by omega⟩
      · simp (disch := first | omega | assumption | (apply hth; omega) | rfl) [h1, h2, h3, facts]
        have hc : bs[((x - 1) / 8).toNat]? = none := List.getElem?_eq_none (by omega)
        simp [hasB, hc]
    · simp (disch := first | omega | assumption | rfl) [h1, h2]
      simp [hasB, h2]
  · simp (disch := first | omega | assumption | rfl) [h1]
    simp [hasB, h1]

theorem hasB_take (bs : List UInt8) (m : Nat) (x : Int) (h : x ≤ 8 * m) : hasB (bs.take m) x = hasB bs x := by
  unfold hasB
  by_cases h1 : 1 ≤ x ∧ x ≤ 128
  · rw [List.getElem?_take_of_lt (by omega)]
  · simp only [h1, decide_false, Bool.false_and]
theorem has_first (bs : List UInt8) (c : UInt8) (h : bs[0]? = some c) : hasB bs 1 = decide (128 ≤ (c.toNat : Int)) := by
  have hc := c.toNat_lt
  have e : (((1 : Int) - 1) / 8).toNat = 0 := by decide
  have e2 : ((7 : Int) - (1 - 1) % 8).toNat = 7 := by decide
  unfold hasB
  rw [e, h, e2]
  simp only [bitOf]
  have : decide ((1 : Int) ≤ 1 ∧ (1 : Int) ≤ 128) = true := by decide
  rw [this, Bool.true_and]
  apply decide_eq_decide.2
  omega

theorem readR_c (a : Option Addr) (n c : Nat) (bs : List UInt8) (H : Heap) (h : SlA H a n 1 (bs.map u8V)) (hn : n ≤ 140737488351232) (hc : n ≤ c) :
    ECalls Try.prog 11 #[.slice a n c] H (ReadPost bs H) := by
  refine ecalls_of_ewp (args := [_]) Try.func11 rfl rfl rfl (by simp [Try.ntmps11]) (by kernel_rfl) ?_
  have hl : bs.length = n := by simpa using h.len
  have hm8 : sizeB bs = 8 ∨ sizeB bs = 16 := by unfold sizeB; split <;> simp
  obtain ⟨H0, hH0⟩ : ∃ H0, H0 = H := ⟨_, rfl⟩
  rw [← hH0] at h ⊢
  clear hH0
  by_cases hn0 : n = 0
  · subst hn0
    have hrd : readB bs = none := by simp only [readB]; rw [if_pos (by omega)]
    simp (disch := first | omega | assumption | decide | (simp <;> omega) | fail) [facts, ReadPost, hrd]
    exact ⟨_, Heap.le_refl _, Heap.le_refl _⟩
  obtain ⟨c0, hc0⟩ : ∃ c0, bs[0]? = some c0 := ⟨_, List.getElem?_eq_getElem (by omega)⟩
  have gx := h.at hc0
  rw [u8V_def] at gx
  have px := h.plain
  have tx := h.there (by omega)
  have hf := has_first bs c0 hc0
  have hm0 : sizeB bs = if hasB bs 1 = true then 16 else 8 := rfl
  rw [hf] at hm0
  by_cases h1 : (128 : Int) ≤ (c0.toNat : Int)
  all_goals
    simp only [h1, decide_true, decide_false, if_true, if_false, Bool.false_eq_true] at hm0
    by_cases hs : (n : Int) < sizeB bs
    · have hrd : readB bs = none := by simp only [readB]; rw [if_pos (by omega)]
      simp only [hm0, Int.cast_ofNat_Int] at hs
      simp (disch := first | omega | assumption | decide | (simp <;> omega) | fail) [facts, show 0 < n by omega, gx, h1, hs, ReadPost, hrd]
      exact ⟨_, Heap.le_refl _, Heap.le_refl _⟩
    · have hs' := hs
      simp only [hm0, Int.cast_ofNat_Int] at hs'
      simp (disch := first | omega | assumption | decide | (simp <;> omega) | fail) [facts, show 0 < n by omega, gx, h1, hs']
      clear hs'
      refine w_loop (fun s => ∃ (k : Nat), k ≤ 8 * sizeB bs - 1 ∧ s.env 0 = .slice a n c ∧ s.env 5 = .int .i64 (sizeB bs) ∧ s.env 7 = .int .i64 (k + 2) ∧ Heap.le H0 s.heap ∧
        Out H0 s.heap (s.env 6) 1 (scanB (hasB (bs.take (sizeB bs))) k).length ((scanB (hasB (bs.take (sizeB bs))) k).map i64V)) (fun s => 8 * sizeB bs + 1 - (intOf (s.env 7)).toNat) ?_ ?_
      · exact ⟨0, Nat.zero_le _, by simp, by simp [hm0], by simp, Heap.le_refl _, by simp [scanB, Out.nil]⟩
      · clear hm0 h1 hf
        rintro ⟨e, H1⟩ ⟨k, hk, e0, e5, e7, hle, hout⟩
        simp only at e0 e5 e7 hle hout
        generalize e6 : e 6 = sv at hout
        have hk1 := scanB_len (hasB (bs.take (sizeB bs))) k
        by_cases hlt : k < 8 * sizeB bs - 1
        · simp (disch := first | omega | assumption | decide | (simp <;> omega) | fail) [facts, e0, e5, e6, e7, sl0, show ((k : Int) + 2 ≤ 8 * (sizeB bs : Int)) by omega]
          refine (hasR_c a n c bs (k + 2) H1 (h.le hle) (by omega) (by omega)).mono ?_
          rintro v H2 ⟨rfl, rfl⟩
          rw [← hasB_take bs (sizeB bs) _ (by omega)]
          by_cases hb : hasB (bs.take (sizeB bs)) ((k : Int) + 2) = true
          · have hsc : scanB (hasB (bs.take (sizeB bs))) (k + 1) = scanB (hasB (bs.take (sizeB bs))) k ++ [(k : Int) + 2] := by simp only [scanB, hb, if_true]
            simp (disch := first | omega | assumption | decide | (simp <;> omega) | fail) [facts, e0, e5, e6, e7, hb]
            refine fresh_intro fun b hb1 => ?_
            simp (disch := first | omega | assumption | decide | (simp <;> omega) | fail) [facts, e0, e5, e6, e7, hb]
            refine Out.app (e := 3) (s := 1) (nbs := 8) (z := .int .i64 0) (H := H0) (by simp [facts]) (by simp [facts]) (by simp [facts]) (by simp [facts]) rfl (by decide) (Heap.le_trans hle (le_upd _ hb1)) (hout.up (le_upd _ hb1))
              (srcOne (e1 := 3) (z := .int .i64 0) (by simp [facts]) (by simp [facts]) (by simp [facts]) rfl) (by simp) (by simp [Value.oneCell']) (by omega) ?_
            intro sv2 H3 hle3 _ hout3
            simp (disch := first | omega | assumption | decide | (simp <;> omega) | fail) [facts, e0, e5, e6, e7]
            refine ⟨_, Heap.le_refl _, ⟨k + 1, by omega, by simp [e0], by simp [e5], by simp; omega, hle3, ?_⟩, ?_⟩
            · rw [hsc]; simpa using hout3
            · simp [intOf, e7]; omega
          · have hsc : scanB (hasB (bs.take (sizeB bs))) (k + 1) = scanB (hasB (bs.take (sizeB bs))) k := by simp only [scanB, hb, if_false, List.append_nil, Bool.false_eq_true]
            simp (disch := first | omega | assumption | decide | (simp <;> omega) | fail) [facts, e0, e5, e6, e7, hb]
            refine ⟨_, Heap.le_refl _, ⟨k + 1, by omega, by simp [e0], by simp [e5], by simp; omega, hle, ?_⟩, ?_⟩
            · rw [hsc]; simpa [e6] using hout
            · simp [intOf, e7]; omega
        · have hk2 : k = 8 * sizeB bs - 1 := by omega
          subst hk2
          generalize hsc : scanB (hasB (bs.take (sizeB bs))) (8 * sizeB bs - 1) = l at hout hk1
          obtain ⟨a6, c6, hsv, hsl⟩ := hout.sl
          rw [hsv] at e6
          have hp6 := hsl.plain
          have ht6 := hsl.there
          by_cases h16 : sizeB bs = 16
          · have hlb : readB bs = if lateB l = false then none else some l := by
              simp only [readB, hsc]; rw [if_neg (by omega)]; simp [h16]
            simp only [h16, Int.cast_ofNat_Int] at e5 e7
            have e7' : e 7 = .int .i64 129 := by rw [e7]; simp
            by_cases h0 : l.length = 0
            · have hlb' : lateB l = false := by rw [List.eq_nil_of_length_eq_zero h0]; rfl
              rw [if_pos hlb'] at hlb
              rw [h0] at e6
              simp (disch := first | omega | assumption | decide | (simp <;> omega) | fail) [facts, e0, e5, e6, e7', ReadPost, hlb]
              exact ⟨_, Heap.le_refl _, hle⟩
            · obtain ⟨x, hx⟩ : ∃ x, l[l.length - 1]? = some x := ⟨_, List.getElem?_eq_getElem (by omega)⟩
              have hx2 : l.getLast? = some x := by rw [List.getLast?_eq_getElem?]; exact hx
              have hat := hsl.at hx
              rw [i64V_def] at hat
              have ht7 := ht6 (by omega)
              have hln : ((l.length : Int) - 1).toNat = l.length - 1 := by omega
              by_cases h64 : x ≤ 64
              · have hlb' : lateB l = false := by simp [lateB, hx2]; omega
                rw [if_pos hlb'] at hlb
                simp (disch := first | omega | assumption | decide | (simp <;> omega) | fail) [facts, e0, e5, e6, e7', h0, h64, hat, hln, ReadPost, hlb]
                exact ⟨_, Heap.le_refl _, hle⟩
              · have hlb' : ¬ lateB l = false := by simp [lateB, hx2]; omega
                rw [if_neg hlb'] at hlb
                simp (disch := first | omega | assumption | decide | (simp <;> omega) | fail) [facts, e0, e5, e6, e7', h0, h64, hat, hln, ReadPost, hlb]
                exact ⟨_, Heap.le_refl _, hle, by simpa [h16, hsv] using hout⟩
          · have hlb : readB bs = some l := by
              simp only [readB, hsc]; rw [if_neg (by omega), if_neg (by omega)]
            have h8 : sizeB bs = 8 := by omega
            simp only [h8, Int.cast_ofNat_Int] at e5 e7
            have e7' : e 7 = .int .i64 65 := by rw [e7]; simp
            simp (disch := first | omega | assumption | decide | (simp <;> omega) | fail) [facts, e0, e5, e6, e7', ReadPost, hlb]
            exact ⟨_, Heap.le_refl _, hle, by simpa [h8, hsv] using hout⟩
end Go.Proofs.Ytlhoaamdplgdmaa.GL
