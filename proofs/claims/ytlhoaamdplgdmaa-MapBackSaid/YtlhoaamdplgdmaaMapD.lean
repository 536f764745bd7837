import Derived.Test.YtlhoaamdplgdmaaMapC
namespace Go.Proofs.Ytlhoaamdplgdmaa.GL
open Go Go.RowKit
set_option maxRecDepth 10000
set_option pp.deepTerms.threshold 12
set_option pp.maxSteps 3000
set_option linter.unusedSimpArgs false

/-- The numbers from 2 on, k of them, whose bit is set. -/
def scanB (p : Int → Bool) : Nat → List Int
  | 0 => []
  | k + 1 => scanB p k ++ (if p ((k : Int) + 2) then [(k : Int) + 2] else [])
def sizeB (bs : List UInt8) : Nat := if hasB bs 1 then 16 else 8
def lateB (l : List Int) : Bool := match l.getLast? with | none => false | some x => decide (64 < x)
def readB (bs : List UInt8) : Option (List Int) :=
  if bs.length < sizeB bs then none
  else
    let l := scanB (hasB (bs.take (sizeB bs))) (8 * sizeB bs - 1)
    if sizeB bs = 16 ∧ lateB l = false then none else some l

theorem scanB_len (p : Int → Bool) (k : Nat) : (scanB p k).length ≤ k := by
  induction k with
  | zero => simp [scanB]
  | succ k ih => simp only [scanB, List.length_append]; split <;> simp <;> omega

def ReadPost (bs : List UInt8) (H : Heap) (v : Value) (H' : Heap) : Prop :=
  Heap.le H H' ∧ match readB bs with
  | none => v = .tuple #[.slice none 0 0, .int .i64 0, .bool false]
  | some l => ∃ sv, v = .tuple #[sv, .int .i64 (sizeB bs), .bool true] ∧ Out H H' sv 1 l.length (l.map i64V)

theorem read_c (a : Option Addr) (n c : Nat) (bs : List UInt8) (H : Heap) (h : SlA H a n 1 (bs.map u8V)) (hn : n ≤ 140737488351232) (hc : n ≤ c) :
    ECalls Try.prog 9 #[.slice a n c] H (ReadPost bs H) := by
  refine ecalls_of_ewp (args := [_]) Try.func9 rfl rfl rfl (by simp [Try.ntmps9]) (by kernel_rfl) ?_
  have hl : bs.length = n := by simpa using h.len
  simp (disch := first | omega | assumption | decide | (simp <;> omega) | fail) [facts, ]
  refine (has_c a n c bs 1 H h hn (by decide)).mono ?_
  rintro v H' ⟨rfl, rfl⟩
  have hm0 : sizeB bs = if hasB bs 1 = true then 16 else 8 := rfl
  have hm8 : sizeB bs = 8 ∨ sizeB bs = 16 := by rw [hm0]; split <;> simp
  by_cases h1 : hasB bs 1 = true
  all_goals
    simp only [h1, if_true, if_false, Bool.false_eq_true] at hm0
    by_cases hs : (n : Int) < sizeB bs
    · have hrd : readB bs = none := by simp only [readB]; rw [if_pos (by omega)]
      simp only [hm0, Int.cast_ofNat_Int] at hs
      simp (disch := first | omega | assumption | decide | (simp <;> omega) | fail) [facts, h1, hs, ReadPost, hrd]
      exact ⟨_, Heap.le_refl _, Heap.le_refl _⟩
    · have hs' := hs
      simp only [hm0, Int.cast_ofNat_Int] at hs'
      simp (disch := first | omega | assumption | decide | (simp <;> omega) | fail) [facts, h1, hs']
      clear hs'
      refine w_loop (fun s => ∃ (k : Nat), k ≤ 8 * sizeB bs - 1 ∧ s.env 0 = .slice a n c ∧ s.env 5 = .int .i64 (sizeB bs) ∧ s.env 7 = .int .i64 (k + 2) ∧ Heap.le H' s.heap ∧
        Out H' s.heap (s.env 6) 1 (scanB (hasB (bs.take (sizeB bs))) k).length ((scanB (hasB (bs.take (sizeB bs))) k).map i64V)) (fun s => 8 * sizeB bs + 1 - (intOf (s.env 7)).toNat) ?_ ?_
      · exact ⟨0, Nat.zero_le _, by simp, by simp [hm0], by simp, Heap.le_refl _, by simp [scanB, Out.nil]⟩
      · clear hm0 h1
        rintro ⟨e, H1⟩ ⟨k, hk, e0, e5, e7, hle, hout⟩
        simp only at e0 e5 e7 hle hout
        generalize e6 : e 6 = sv at hout
        have hk1 := scanB_len (hasB (bs.take (sizeB bs))) k
        by_cases hlt : k < 8 * sizeB bs - 1
        · simp (disch := first | omega | assumption | decide | (simp <;> omega) | fail) [facts, e0, e5, e6, e7, sl0, show ((k : Int) + 2 ≤ 8 * (sizeB bs : Int)) by omega]
          refine (has_c a (sizeB bs) c (bs.take (sizeB bs)) (k + 2) H1 ?_ (by omega) (by omega)).mono ?_
          · have := (h.le hle).take (m := sizeB bs) (by omega)
            simpa [List.map_take] using this
          rintro v H2 ⟨rfl, rfl⟩
          by_cases hb : hasB (bs.take (sizeB bs)) ((k : Int) + 2) = true
          · have hsc : scanB (hasB (bs.take (sizeB bs))) (k + 1) = scanB (hasB (bs.take (sizeB bs))) k ++ [(k : Int) + 2] := by simp only [scanB, hb, if_true]
            simp (disch := first | omega | assumption | decide | (simp <;> omega) | fail) [facts, e0, e5, e6, e7, hb]
            refine fresh_intro fun b hb1 => ?_
            simp (disch := first | omega | assumption | decide | (simp <;> omega) | fail) [facts, e0, e5, e6, e7, hb]
            refine Out.app (e := 3) (s := 1) (nbs := 8) (z := .int .i64 0) (H := H') (by simp [facts]) (by simp [facts]) (by simp [facts]) (by simp [facts]) rfl (by decide) (Heap.le_trans hle (le_upd _ hb1)) (hout.up (le_upd _ hb1))
              (srcOne (e1 := 3) (z := .int .i64 0) (by simp [facts]) (by simp [facts]) (by simp [facts]) rfl) (by simp) (by simp [Value.oneCell']) (by omega) ?_
            intro sv2 H3 hle3 _ hout3
            simp (disch := first | omega | assumption | decide | (simp <;> omega) | fail) [facts, e0, e5, e6, e7]
            refine ⟨_, Heap.le_refl _, ⟨k + 1, by omega, by simp [e0], by simp [e5], by simp; omega, hle3, ?_⟩, ?_⟩
            · rw [hsc]; simpa using hout3
            · simp [intOf, e7]; omega
          · have hsc : scanB (hasB (bs.take (sizeB bs))) (k + 1) = scanB (hasB (bs.take (sizeB bs))) k := by simp only [scanB, hb, if_false, List.append_nil, Bool.false_eq_true]
            simp (disch := first | omega | assumption | decide | (simp <;> omega) | fail) [facts, e0, e5, e6, e7, hb]
            refine ⟨_, Heap.le_refl _, ⟨k + 1, by omega, by simp [e0], by simp [e5], by simp; omega, hle, ?_⟩, ?_⟩
            · rw [hsc]; simpa [e6] using hout
            · simp [intOf, e7]; omega
        · have hk2 : k = 8 * sizeB bs - 1 := by omega
          subst hk2
          generalize hsc : scanB (hasB (bs.take (sizeB bs))) (8 * sizeB bs - 1) = l at hout hk1
          obtain ⟨a6, c6, hsv, hsl⟩ := hout.sl
          rw [hsv] at e6
          have hp6 := hsl.plain
          have ht6 := hsl.there
          by_cases h16 : sizeB bs = 16
          · have hlb : readB bs = if lateB l = false then none else some l := by
              simp only [readB, hsc]; rw [if_neg (by omega)]; simp [h16]
            simp only [h16, Int.cast_ofNat_Int] at e5 e7
            have e7' : e 7 = .int .i64 129 := by rw [e7]; simp
            by_cases h0 : l.length = 0
            · have hlb' : lateB l = false := by rw [List.eq_nil_of_length_eq_zero h0]; rfl
              rw [if_pos hlb'] at hlb
              rw [h0] at e6
              simp (disch := first | omega | assumption | decide | (simp <;> omega) | fail) [facts, e0, e5, e6, e7', ReadPost, hlb]
              exact ⟨_, Heap.le_refl _, hle⟩
            · obtain ⟨x, hx⟩ : ∃ x, l[l.length - 1]? = some x := ⟨_, List.getElem?_eq_getElem (by omega)⟩
              have hx2 : l.getLast? = some x := by rw [List.getLast?_eq_getElem?]; exact hx
              have hat := hsl.at hx
              rw [i64V_def] at hat
              have ht7 := ht6 (by omega)
              have hln : ((l.length : Int) - 1).toNat = l.length - 1 := by omega
              by_cases h64 : x ≤ 64
              · have hlb' : lateB l = false := by simp [lateB, hx2]; omega
                rw [if_pos hlb'] at hlb
                simp (disch := first | omega | assumption | decide | (simp <;> omega) | fail) [facts, e0, e5, e6, e7', h0, h64, hat, hln, ReadPost, hlb]
                exact ⟨_, Heap.le_refl _, hle⟩
              · have hlb' : ¬ lateB l = false := by simp [lateB, hx2]; omega
                rw [if_neg hlb'] at hlb
                simp (disch := first | omega | assumption | decide | (simp <;> omega) | fail) [facts, e0, e5, e6, e7', h0, h64, hat, hln, ReadPost, hlb]
                exact ⟨_, Heap.le_refl _, hle, by simpa [h16, hsv] using hout⟩
          · have hlb : readB bs = some l := by
              simp only [readB, hsc]; rw [if_neg (by omega), if_neg (by omega)]
            have h8 : sizeB bs = 8 := by omega
            simp only [h8, Int.cast_ofNat_Int] at e5 e7
            have e7' : e 7 = .int .i64 65 := by rw [e7]; simp
            simp (disch := first | omega | assumption | decide | (simp <;> omega) | fail) [facts, e0, e5, e6, e7', ReadPost, hlb]
            exact ⟨_, Heap.le_refl _, hle, by simpa [h8, hsv] using hout⟩
end Go.Proofs.Ytlhoaamdplgdmaa.GL
