/- Layer 4: the contracts of Bytes and Put (as in layer 1). -/
import Derived.Test.YtaphlamkpkldgaaFrA
import Derived.Test.YtaphlamkpkldgaaGlK
namespace Go.Proofs.Ytaphlamkpkldgaa.GL
open Go Go.RowKit
set_option maxRecDepth 10000
set_option pp.deepTerms.threshold 8
set_option pp.maxSteps 3000
set_option linter.unusedSimpArgs false
set_option linter.unusedVariables false

def byteAt (v i : Nat) : UInt8 := if i < 8 then UInt8.ofNat (v / 2 ^ (8 * i)) else 0
def sizeZ (n : Int) : Nat := (min n 64).toNat
/-- m bytes, the highest first. -/
def bytesL (v m : Nat) : List UInt8 := (List.range m).map fun j => byteAt v (m - 1 - j)
theorem bytesL_len (v m : Nat) : (bytesL v m).length = m := by simp [bytesL]
theorem bytesL_at (v m j : Nat) (h : j < m) : (bytesL v m)[j]? = some (byteAt v (m - 1 - j)) := by
  simp [bytesL, h]
theorem byte_conv (v i : Nat) (hi : i < 8) (hv : v < 2 ^ 64) : IntKind.wrap .u8 (shrK .u64 (v : Int) (8 * (i : Int))) = ((byteAt v i).toNat : Int) := by
  have e : ((8 : Int) * i).toNat = 8 * i := by omega
  rw [shrK_nat _ _ _ (by simp only [IntKind.bits]; omega), e]
  unfold byteAt
  rw [if_pos hi, UInt8.toNat_ofNat']
  simp only [IntKind.wrap, IntKind.bits, IntKind.signed, Bool.false_and]
  simp

theorem bytes_c (v : Nat) (n : Int) (H : Heap) (hv : v < 2 ^ 64) (hn : i64In n) :
    ECalls Try.prog 21 #[.int .u64 v, .int .i64 n] H fun r H' => Heap.le H H' ∧ Out H H' r 1 (sizeZ n) ((bytesL v (sizeZ n)).map u8V) := by
  refine ecalls_of_ewp (args := [_, _]) Try.func21 rfl rfl rfl (by simp [Try.ntmps21]) (by kernel_rfl) ?_
  unfold i64In at hn
  simp (disch := first | omega | assumption | decide | (simp <;> omega) | fail) [facts, ]
  generalize hj : IntKind.i64.wrap (min n 64 - 1) = j
  have hjj : 0 < n → j = min n 64 - 1 := fun h0 => by rw [← hj]; exact wr_i64 (by omega) (by omega)
  refine w_loop (fun s => ∃ k : Nat, k ≤ sizeZ n ∧ s.env 0 = .int .u64 v ∧ s.env 1 = .int .i64 n ∧ s.env 6 = .int .i64 (j - k) ∧ Heap.le H s.heap ∧ Out H s.heap (s.env 5) 1 k (((bytesL v (sizeZ n)).map u8V).take k)) (fun s => (intOf (s.env 6) + 1).toNat) ?_ ?_
  · exact ⟨0, Nat.zero_le _, by simp, by simp, by simp, Heap.le_refl _, by simp [Out.nil]⟩
  · rintro ⟨e, H1⟩ ⟨k, hk, e0, e1, e6, hle, hout⟩
    simp only at e0 e1 e6 hle hout
    generalize e5 : e 5 = sv at hout
    by_cases h0 : 0 < n
    · have hm : sizeZ n = (min n 64).toNat := rfl
      by_cases hlt : k < sizeZ n
      · obtain ⟨i, hi⟩ : ∃ i : Nat, i = sizeZ n - 1 - k := ⟨_, rfl⟩
        have hii : j - (k : Int) = i := by have := hjj h0; omega
        rw [hii] at e6
        have hat := bytesL_at v (sizeZ n) k hlt
        rw [← hi] at hat
        have htk := take_snoc (xs := (bytesL v (sizeZ n)).map u8V) (k := k) (x := u8V (byteAt v i)) (by rw [List.getElem?_map, hat]; rfl)
        by_cases h8 : (i : Int) < 8
        · have hb := byte_conv v i (by omega) hv
          simp (disch := first | omega | assumption | decide | (simp <;> omega) | fail) [facts, e0, e1, e5, e6, h0, h8, hb]
          refine fresh_intro fun b hb1 => ?_
          simp (disch := first | omega | assumption | decide | (simp <;> omega) | fail) [facts, e0, e1, e5, e6]
          refine Out.app (e := 5) (s := 1) (nbs := 1) (z := .int .u8 0) (H := H) (by simp [facts]) (by simp [facts]) (by simp [facts]) (by simp [facts]) rfl (by decide) (Heap.le_trans hle (le_upd _ hb1)) (hout.up (le_upd _ hb1))
            (srcOne (e1 := 5) (z := .int .u8 0) (by simp [facts]) (by simp [facts]) (by simp [facts]) rfl) (by simp) (by simp [Value.oneCell']) (by omega) ?_
          intro sv2 H3 hle3 _ hout3
          simp (disch := first | omega | assumption | decide | (simp <;> omega) | fail) [facts, e0, e1, e6]
          refine ⟨_, Heap.le_refl _, ⟨k + 1, by omega, by simp [e0], by simp [e1], by simp; try omega, hle3, ?_⟩, by simp [intOf, e6]; try omega⟩
          rw [htk]
          simpa  using hout3
        · have hb : byteAt v i = 0 := by unfold byteAt; rw [if_neg (by omega)]
          simp (disch := first | omega | assumption | decide | (simp <;> omega) | fail) [facts, e0, e1, e5, e6, h0, h8]
          refine fresh_intro fun b hb1 => ?_
          simp (disch := first | omega | assumption | decide | (simp <;> omega) | fail) [facts, e0, e1, e5, e6]
          refine Out.app (e := 5) (s := 1) (nbs := 1) (z := .int .u8 0) (H := H) (by simp [facts]) (by simp [facts]) (by simp [facts]) (by simp [facts]) rfl (by decide) (Heap.le_trans hle (le_upd _ hb1)) (hout.up (le_upd _ hb1))
            (srcOne (e1 := 5) (z := .int .u8 0) (by simp [facts]) (by simp [facts]) (by simp [facts]) rfl) (by simp) (by simp [Value.oneCell']) (by omega) ?_
          intro sv2 H3 hle3 _ hout3
          simp (disch := first | omega | assumption | decide | (simp <;> omega) | fail) [facts, e0, e1, e6]
          refine ⟨_, Heap.le_refl _, ⟨k + 1, by omega, by simp [e0], by simp [e1], by simp; try omega, hle3, ?_⟩, by simp [intOf, e6]; try omega⟩
          rw [htk]
          simpa [hb] using hout3
      · have hkn : k = sizeZ n := by omega
        subst hkn
        simp (disch := first | omega | assumption | decide | (simp <;> omega) | fail) [facts, e0, e1, e5, e6, h0, show ¬ ((sizeZ n : Nat) : Int) ≤ j by have := hjj h0; omega]
        rw [List.take_of_length_le (by rw [List.length_map, bytesL_len]; exact Nat.le_refl _)] at hout
        exact ⟨_, Heap.le_refl _, hle, hout⟩
    · have hz : sizeZ n = 0 := by unfold sizeZ; omega
      have hk0 : k = 0 := by omega
      subst hk0
      simp (disch := first | omega | assumption | decide | (simp <;> omega) | fail) [facts, e0, e1, e5, e6, h0]
      rw [hz]
      exact ⟨_, Heap.le_refl _, hle, by simpa [bytesL] using hout⟩

def putL (v m i : Nat) : List UInt8 := (List.range m).map fun j => if m - 1 - j < i then byteAt v (m - 1 - j) else 0
theorem putL_len (v m i : Nat) : (putL v m i).length = m := by simp [putL]
theorem putL_zero (v m : Nat) : putL v m 0 = List.replicate m 0 := by
  apply List.ext_getElem?
  intro j
  by_cases h : j < m <;> simp [putL, h]
theorem putL_set (v m i : Nat) (hi : i < m) : (putL v m i).set (m - 1 - i) (byteAt v i) = putL v m (i + 1) := by
  apply List.ext_getElem?
  intro j
  rw [List.getElem?_set]
  by_cases hj : j < m
  · by_cases he : m - 1 - i = j
    · subst he
      rw [if_pos rfl]
      simp [putL, show m - 1 - i < m by omega, show m - 1 - (m - 1 - i) = i by omega]
    · rw [if_neg he]
      simp only [putL, List.getElem?_map, List.getElem?_range hj, Option.map_some]
      have : (m - 1 - j < i) ↔ (m - 1 - j < i + 1) := by omega
      simp only [this]
  · rw [if_neg (by omega)]
    simp [putL, hj]
theorem putL_all (v m i : Nat) (h : i = m ∨ 8 ≤ i) : putL v m i = bytesL v m := by
  apply List.ext_getElem?
  intro j
  by_cases hj : j < m
  · simp only [putL, bytesL, List.getElem?_map, List.getElem?_range hj, Option.map_some]
    by_cases hi : m - 1 - j < i
    · rw [if_pos hi]
    · rw [if_neg hi]
      unfold byteAt
      rw [if_neg (by omega)]
  · simp [putL, bytesL, hj]

theorem put_c (v : Nat) (n : Int) (H : Heap) (hv : v < 2 ^ 64) (hn : i64In n) :
    ECalls Try.prog 23 #[.int .u64 v, .int .i64 n] H fun r H' => Heap.le H H' ∧ Out H H' r 1 (sizeZ n) ((bytesL v (sizeZ n)).map u8V) := by
  refine ecalls_of_ewp (args := [_, _]) Try.func23 rfl rfl rfl (by simp [Try.ntmps23]) (by kernel_rfl) ?_
  have hm : min (max n 0) 64 = ((sizeZ n : Nat) : Int) := by unfold sizeZ; omega
  have hm64 : sizeZ n ≤ 64 := by unfold sizeZ; omega
  generalize hmm : sizeZ n = m at *
  simp (disch := first | omega | assumption | decide | (simp <;> omega) | fail) [facts, hm]
  refine fresh_intro fun b hb => ?_
  simp (disch := first | omega | assumption | decide | (simp <;> omega) | fail) [facts, hm]
  refine w_loop (fun s => ∃ k : Nat, k ≤ m ∧ k ≤ 8 ∧ s.env 0 = .int .u64 v ∧ s.env 1 = .int .i64 m ∧ s.env 5 = .slice (some ⟨b, 0, none⟩) m m ∧ s.env 6 = .int .i64 k ∧ s.heap = upd H b (.row true 0 ((putL v m k).map u8V) 0)) (fun s => m - (intOf (s.env 6)).toNat) ?_ ?_
  · refine ⟨0, Nat.zero_le _, by decide, by simp, by simp, by simp, by simp, ?_⟩
    rw [putL_zero]; simp
  · rintro ⟨e, H1⟩ ⟨k, hk, hk8, e0, e1, e5, e6, hH⟩
    simp only at e0 e1 e5 e6 hH
    subst hH
    have hlen := putL_len v m k
    by_cases hlt : k < m
    · by_cases h8 : (k : Int) < 8
      · have hb8 := byte_conv v k (by omega) hv
        simp (disch := first | omega | assumption | decide | (simp <;> omega) | fail) [facts, e0, e1, e5, e6, hlt, h8, hb8]
        have hset : (List.map u8V (putL v m k)).set (m - 1 - k) (Value.int .u8 ((byteAt v k).toNat : Int)) = (putL v m (k + 1)).map u8V := by
          rw [← putL_set v m k hlt, List.map_set]; rfl
        rw [hset, upd_upd]
        exact ⟨_, Heap.le_refl _, ⟨k + 1, by omega, by omega, by simp [e0], by simp [e1], by simp [e5], by simp, rfl⟩, by simp [intOf, e6]; omega⟩
      · simp (disch := first | omega | assumption | decide | (simp <;> omega) | fail) [facts, e0, e1, e5, e6, hlt, h8]
        rw [putL_all v m k (.inr (by omega))]
        exact ⟨_, Heap.le_refl _, le_upd _ hb, Out.fresh hb (by simp [bytesL_len]) (Nat.le_refl _) (by omega)⟩
    · simp (disch := first | omega | assumption | decide | (simp <;> omega) | fail) [facts, e0, e1, e5, e6, hlt]
      rw [putL_all v m k (.inl (by omega))]
      exact ⟨_, Heap.le_refl _, le_upd _ hb, Out.fresh hb (by simp [bytesL_len]) (Nat.le_refl _) (by omega)⟩
end Go.Proofs.Ytaphlamkpkldgaa.GL
