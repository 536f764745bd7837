/- Layer 2: the walk of SumsTotal. -/
import Derived.Test.YteflnceomhndmaaSuF
namespace Go.Proofs.Yteflnceomhndmaa.GL
open Go Go.RowKit
set_option maxRecDepth 10000
set_option pp.deepTerms.threshold 8
set_option pp.maxSteps 3000
set_option linter.unusedSimpArgs false
set_option linter.unusedVariables false

theorem take_at_len {α : Type} (a : List α) : a.take a.length = a := List.take_of_length_le (Nat.le_refl _)
theorem turn_list (a : List Int) (t : Nat) (h : 0 < a.length) : (List.range a.length).map (fun i => a.getD ((i + t) % a.length) 0) = a.drop (t % a.length) ++ a.take (t % a.length) := by
  have hr : t % a.length < a.length := Nat.mod_lt _ h
  apply List.ext_getElem?
  intro i
  by_cases hi : i < a.length
  · have e : (i + t) % a.length = (i + t % a.length) % a.length := by rw [Nat.add_mod, Nat.mod_eq_of_lt hi]
    simp only [List.getElem?_map, List.getElem?_range hi, Option.map_some, e]
    generalize t % a.length = r at hr
    by_cases h1 : i + r < a.length
    · rw [List.getElem?_append_left (by rw [List.length_drop]; omega), List.getElem?_drop, Nat.mod_eq_of_lt h1, List.getD_eq_getElem?_getD, Nat.add_comm r i]
      rw [List.getElem?_eq_getElem h1]; rfl
    · have e2 : (i + r) % a.length = i + r - a.length := by rw [Nat.mod_eq_sub_mod (by omega), Nat.mod_eq_of_lt (by omega)]
      rw [List.getElem?_append_right (by rw [List.length_drop]; omega), List.length_drop, e2, List.getD_eq_getElem?_getD, List.getElem?_take_of_lt (by omega)]
      rw [show i - (a.length - r) = i + r - a.length by omega, List.getElem?_eq_getElem (by omega)]; rfl
  · rw [List.getElem?_eq_none (by simp; omega), List.getElem?_eq_none (by simp; omega)]
theorem turn_sum (a : List Int) (t : Nat) : ((List.range a.length).map (fun i => a.getD ((i + t) % a.length) 0)).sum = a.sum := by
  rcases Nat.eq_zero_or_pos a.length with h | h
  · rw [List.eq_nil_of_length_eq_zero h]; rfl
  · rw [turn_list a t h, List.sum_append, Int.add_comm, ← List.sum_append, List.take_append_drop]

def nearL (zs : List Int) (ks : List UInt8) : List Int := List.zipWith (fun z k => nearZ z k.toNat) zs ks
def turnL (a : List Int) (t : Nat) : List Int := (List.range a.length).map fun i => a.getD ((i + t) % a.length) 0

set_option maxHeartbeats 2000000 in
theorem sumsTotal_c (a : Option Addr) (n c : Nat) (zs : List Int) (a1 : Option Addr) (n1 c1 : Nat) (ks : List UInt8) (t : Nat) (H : Heap) (h : SlA H a n 1 (zs.map i64V)) (hz : allIn zs) (h1 : SlA H a1 n1 1 (ks.map u8V)) (ht : t < 256) :
    ECalls Try.prog 3 #[.slice a n c, .slice a1 n1 c1, .int .u8 t] H fun r _ => r = .bool true := by
  refine ecalls_of_ewp (args := [_, _, _]) Try.func3 rfl rfl rfl (by simp [Try.ntmps3]) (by kernel_rfl) ?_
  have hl : zs.length = n := by simpa using h.len
  have hl1 : ks.length = n1 := by simpa using h1.len
  simp (disch := first | omega | assumption | decide | (simp <;> omega) | fail) [facts, ]
  refine (known_c H).mono ?_
  rintro r H1 ⟨rfl, hle1⟩
  by_cases t1 : (40 : Int) < n
  · simp (disch := first | omega | assumption | decide | (simp <;> omega) | fail) [facts, t1]
    exact ⟨_, Heap.le_refl _⟩
  by_cases t2 : (n1 : Int) < n
  · simp (disch := first | omega | assumption | decide | (simp <;> omega) | fail) [facts, t1, t2]
    exact ⟨_, Heap.le_refl _⟩
  have hn : n ≤ 140737488351232 := by omega
  simp (disch := first | omega | assumption | decide | (simp <;> omega) | fail) [facts, t1, t2]
  have hN : (nearL zs ks).length = n := by simp [nearL, hl, hl1]; omega
  refine w_cutB (fun s => s.env 2 = .int .u8 t ∧ s.env 8 = .slice none 0 0 ∧ Heap.le H s.heap ∧ ∃ a7 c7, s.env 7 = .slice a7 n c7 ∧ SlA s.heap a7 n 1 ((nearL zs ks).map i64V)) ?_ ?_
  · refine w_loop (fun s => ∃ k : Nat, k ≤ n ∧ s.env 0 = .slice a n c ∧ s.env 1 = .slice a1 n1 c1 ∧ s.env 2 = .int .u8 t ∧ s.env 8 = .slice none 0 0 ∧ s.env 9 = .int .i64 k ∧ Heap.le H s.heap ∧ Out H s.heap (s.env 7) 1 k (((nearL zs ks).map i64V).take k)) (fun s => n - (intOf (s.env 9)).toNat) ?_ ?_
    · exact ⟨0, Nat.zero_le _, by simp, by simp, by simp, by simp, by simp, by simpa using hle1, by simp [Out.nil]⟩
    · rintro ⟨e, H2⟩ ⟨k, hk, e0, e1, e2, e8, e9, hle, hout⟩
      simp only at e0 e1 e2 e8 e9 hle hout
      generalize e7 : e 7 = sv at hout
      by_cases hlt : (k : Int) < n
      · obtain ⟨x, hx⟩ : ∃ x, zs[k]? = some x := ⟨_, List.getElem?_eq_getElem (by omega)⟩
        obtain ⟨w, hw⟩ : ∃ w, ks[k]? = some w := ⟨_, List.getElem?_eq_getElem (by omega)⟩
        have gx := (h.le hle).at hx
        have gw := (h1.le hle).at hw
        rw [i64V_def] at gx
        rw [u8V_def] at gw
        have px := h.plain
        have tx := h.there (by omega)
        have px1 := h1.plain
        have tx1 := h1.there (by omega)
        have hxin : i64In x := hz x (List.mem_of_getElem? hx)
        have hwl := w.toNat_lt
        have hp : ((nearL zs ks).map i64V)[k]? = some (i64V (nearZ x w.toNat)) := by simp [nearL, List.getElem?_zipWith, hx, hw]
        have hsn := take_snoc hp
        simp (disch := first | omega | assumption | decide | (simp <;> omega) | fail) [facts, e0, e1, e2, e7, e8, e9, hlt]
        refine w_plan (P := Try.prog) (by simp [facts]) (opsP [0,1,2,3,5,6,7] (.both (opsP [4,8,9,10,11,12] .done) (opsP [8,4,9,10,11,12] .done))) ?_ ?_
        · decide +kernel
        simp (disch := first | omega | assumption | decide | (simp <;> omega) | fail) [facts, e0, e1, e2, e7, e8, e9, hlt, gx, gw, show (k : Int) < n1 by omega]
        refine ⟨?_, ?_⟩
        all_goals
          refine (near_c x w.toNat _ hxin (by omega)).mono ?_
          rintro r H3 ⟨rfl, rfl⟩
          simp (disch := first | omega | assumption | decide | (simp <;> omega) | fail) [facts, e0, e1, e2, e7, e8, e9, hlt]
          refine fresh_intro fun b hb => ?_
          simp (disch := first | omega | assumption | decide | (simp <;> omega) | fail) [facts, e0, e1, e2, e7, e8, e9, hlt]
          refine Out.app (e := 2) (s := 1) (nbs := 8) (z := .int .i64 0) (H := H) (by simp [facts]) (by simp [facts]) (by simp [facts]) (by simp [facts]) rfl (by decide) (Heap.le_trans hle (le_upd _ hb)) (hout.up (le_upd _ hb))
            (srcOne (e1 := 2) (z := .int .i64 0) (by simp [facts]) (by simp [facts]) (by simp [facts]) rfl) (by simp) (by simp [Value.oneCell']) (by omega) ?_
          intro sv2 H4 hle4 _ hout4
          simp (disch := first | omega | assumption | decide | (simp <;> omega) | fail) [facts, e0, e1, e2, e7, e8, e9, hlt]
          refine ⟨_, Heap.le_refl _, ⟨k + 1, by omega, by simp [e0], by simp [e1], by simp [e2], by simp [e8], by simp, by simpa using hle4, ?_⟩, by simp [intOf, e9]; omega⟩
          rw [hsn]; simpa using hout4
      · have hkn : k = n := by omega
        subst hkn
        rw [List.take_of_length_le (by simp [hN])] at hout
        obtain ⟨a7, c7, rfl, hsl⟩ := hout.sl
        simp (disch := first | omega | assumption | decide | (simp <;> omega) | fail) [facts, e0, e1, e2, e7, e8, e9, hlt]
        exact ⟨hle, hsl⟩
  · rintro ⟨e, H2⟩ ⟨e2, e8, hle, a7, c7, e7, hs7⟩
    simp only at e2 e8 e7 hle hs7
    have hNin : allIn (nearL zs ks) := by
      intro z hz'
      obtain ⟨i, hi⟩ := List.getElem?_of_mem hz'
      rw [nearL, List.getElem?_zipWith] at hi
      split at hi
      · rename_i x y hx hy
        cases hi
        exact nearZ_in _ _ (hz x (List.mem_of_getElem? hx))
      · cases hi
    generalize nearL zs ks = l at *
    have htl : (turnL l t).length = n := by simp [turnL, hN]
    simp (disch := first | omega | assumption | decide | (simp <;> omega) | fail) [facts, e2, e8, e7]
    refine w_cutB (fun s => s.env 7 = .slice a7 n c7 ∧ SlA s.heap a7 n 1 (l.map i64V) ∧ ∃ a8 c8, s.env 8 = .slice a8 n c8 ∧ SlA s.heap a8 n 1 ((turnL l t).map i64V)) ?_ ?_
    · refine w_loop (fun s => ∃ k : Nat, k ≤ n ∧ s.env 2 = .int .u8 t ∧ s.env 7 = .slice a7 n c7 ∧ s.env 10 = .int .i64 k ∧ Heap.le H2 s.heap ∧ Out H2 s.heap (s.env 8) 1 k (((turnL l t).map i64V).take k)) (fun s => n - (intOf (s.env 10)).toNat) ?_ ?_
      · exact ⟨0, Nat.zero_le _, by simp [e2], by simp [e7], by simp, by simp [Heap.le_refl], by simp [e8, Out.nil]⟩
      · rintro ⟨e, H3⟩ ⟨k, hk, e2, e7, e10, hle, hout⟩
        simp only at e2 e7 e10 hle hout
        generalize e8 : e 8 = sv at hout
        by_cases hlt : (k : Int) < n
        · have hmod : (k + t) % n < n := Nat.mod_lt _ (by omega)
          obtain ⟨x, hx⟩ : ∃ x, l[(k + t) % n]? = some x := ⟨_, List.getElem?_eq_getElem (by omega)⟩
          have gx := (hs7.le hle).at hx
          rw [i64V_def] at gx
          have px := hs7.plain
          have tx := hs7.there (by omega)
          have hp : ((turnL l t).map i64V)[k]? = some (i64V x) := by
            simp only [turnL, List.getElem?_map, hN, List.getElem?_range (show k < n by omega), Option.map_some, List.getD_eq_getElem?_getD, hx, Option.getD_some]
          have hsn := take_snoc hp
          have hmi : ((k : Int) + t) % n = (((k + t) % n : Nat) : Int) := by simp
          generalize (k + t) % n = j at hmod hx gx hmi
          simp (disch := first | omega | assumption | decide | (simp <;> omega) | fail) [facts, e2, e7, e8, e10, hlt, hmi, gx]
          refine fresh_intro fun b hb => ?_
          simp (disch := first | omega | assumption | decide | (simp <;> omega) | fail) [facts, e2, e7, e8, e10, hlt]
          refine Out.app (e := 2) (s := 1) (nbs := 8) (z := .int .i64 0) (H := H2) (by simp [facts]) (by simp [facts]) (by simp [facts]) (by simp [facts]) rfl (by decide) (Heap.le_trans hle (le_upd _ hb)) (hout.up (le_upd _ hb))
            (srcOne (e1 := 2) (z := .int .i64 0) (by simp [facts]) (by simp [facts]) (by simp [facts]) rfl) (by simp) (by simp [Value.oneCell']) (by omega) ?_
          intro sv2 H4 hle4 _ hout4
          simp (disch := first | omega | assumption | decide | (simp <;> omega) | fail) [facts, e2, e7, e8, e10, hlt]
          refine ⟨_, Heap.le_refl _, ⟨k + 1, by omega, by simp [e2], by simp [e7], by simp, by simpa using hle4, ?_⟩, by simp [intOf, e10]; omega⟩
          rw [hsn]; simpa using hout4
        · have hkn : k = n := by omega
          subst hkn
          rw [List.take_of_length_le (by simp [htl])] at hout
          obtain ⟨a8, c8, rfl, hsl⟩ := hout.sl
          simp (disch := first | omega | assumption | decide | (simp <;> omega) | fail) [facts, e2, e7, e8, e10, hlt]
          exact ⟨hs7.le hle, hsl⟩
    · rintro ⟨e, H3⟩ ⟨e7, hs7, a8, c8, e8, hs8⟩
      simp only at e7 e8 hs7 hs8
      have hTin : allIn (turnL l t) := by
        intro z hz'
        obtain ⟨i, hi, rfl⟩ := List.mem_map.1 hz'
        have hil : i < l.length := by simpa using hi
        have hm : (i + t) % l.length < l.length := Nat.mod_lt _ (by omega)
        rw [List.getD_eq_getElem?_getD, List.getElem?_eq_getElem hm]
        exact hNin _ (List.getElem_mem hm)
      have hsum : (turnL l t).sum = l.sum := turn_sum l t
      simp (disch := first | omega | assumption | decide | (simp <;> omega) | fail) [facts, e7, e8]
      refine (total_c _ _ _ _ _ hs7 hNin hn).mono ?_
      rintro r H4 ⟨rfl, rfl⟩
      by_cases hin : i64In l.sum
      · rw [totV_yes hin]
        simp (disch := first | omega | assumption | decide | (simp <;> omega) | fail) [facts, e7, e8]
        refine (total_c _ _ _ _ _ hs8 hTin hn).mono ?_
        rintro r H4 ⟨rfl, rfl⟩
        rw [hsum, totV_yes hin]
        simp (disch := first | omega | assumption | decide | (simp <;> omega) | fail) [facts, e7, e8]
        refine (totalR_c _ _ _ _ _ hs7 hNin hn).mono ?_
        rintro r H5 ⟨rfl, hle5⟩
        rw [totV_yes hin]
        simp (disch := first | omega | assumption | decide | (simp <;> omega) | fail) [facts, e7, e8]
        exact ⟨_, Heap.le_refl _⟩
      · rw [totV_no hin]
        simp (disch := first | omega | assumption | decide | (simp <;> omega) | fail) [facts, e7, e8]
        refine (total_c _ _ _ _ _ hs8 hTin hn).mono ?_
        rintro r H4 ⟨rfl, rfl⟩
        rw [hsum, totV_no hin]
        simp (disch := first | omega | assumption | decide | (simp <;> omega) | fail) [facts, e7, e8]
        refine (totalR_c _ _ _ _ _ hs7 hNin hn).mono ?_
        rintro r H5 ⟨rfl, hle5⟩
        rw [totV_no hin]
        simp (disch := first | omega | assumption | decide | (simp <;> omega) | fail) [facts, e7, e8]
        exact ⟨_, Heap.le_refl _⟩
end Go.Proofs.Yteflnceomhndmaa.GL
