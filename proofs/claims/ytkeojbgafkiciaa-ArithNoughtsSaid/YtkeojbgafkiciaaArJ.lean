/- Layer 1: the walk of ArithNoughts. -/
import Derived.Test.YtkeojbgafkiciaaArI
import Derived.Test.YtkeojbgafkiciaaGlL
namespace Go.Proofs.Ytkeojbgafkiciaa.GL
open Go Go.RowKit
set_option maxRecDepth 10000
set_option pp.deepTerms.threshold 8
set_option pp.maxSteps 3000
set_option linter.unusedSimpArgs false
set_option linter.unusedVariables false

theorem numGo_noughts : ∀ (q : Nat) (l : List UInt8), numGo (List.replicate q 0 ++ l) 0 = numGo l 0
  | 0, l => rfl
  | q + 1, l => by
    rw [List.replicate_succ, List.cons_append]
    simp only [numGo]
    rw [if_neg (by decide)]
    simpa using numGo_noughts q l
theorem numGo_over : ∀ (l : List UInt8) (acc : Nat), acc < 2 ^ 64 → 2 ^ 64 ≤ acc * 256 ^ l.length → numGo l acc = none
  | [], acc, h, h2 => by simp at h2; omega
  | c :: r, acc, h, h2 => by
    simp only [numGo]
    by_cases h56 : acc / 2 ^ 56 ≠ 0
    · rw [if_pos h56]
    · rw [if_neg h56]
      have hc := c.toNat_lt
      refine numGo_over r _ (by omega) (Nat.le_trans h2 ?_)
      rw [List.length_cons, Nat.pow_succ, Nat.mul_comm (256 ^ r.length), ← Nat.mul_assoc]
      exact Nat.mul_le_mul_right _ (by omega)
theorem num_noughts (q v : Nat) (hv : v < 2 ^ 64) : numB (List.replicate q 0 ++ bytesL v 8) = some v := by
  have := numB_bytes v 8 (by decide)
  rw [Nat.mod_eq_of_lt (by omega)] at this
  rw [← this]
  exact numGo_noughts q _
theorem num_first (f : UInt8) (v : Nat) (hv : v < 2 ^ 64) : numB (f :: bytesL v 8) = if f.toNat = 0 then some v else none := by
  by_cases h : f.toNat = 0
  · rw [if_pos h]
    have hf : f = 0 := by
      have := UInt8.ofNat_toNat (x := f)
      rw [h] at this
      exact this.symm
    subst hf
    exact num_noughts 1 v hv
  · rw [if_neg h]
    have hc := f.toNat_lt
    simp only [numB, numGo]
    rw [if_neg (by decide)]
    refine numGo_over _ _ (by omega) ?_
    rw [bytesL_len]
    have : 1 * 256 ^ 8 ≤ (0 * 256 + f.toNat) * 256 ^ 8 := Nat.mul_le_mul_right _ (by omega)
    omega

set_option maxHeartbeats 4000000 in
set_option maxRecDepth 100000 in
theorem noughts_c (v z f : Nat) (hv : v < 2 ^ 64) (hz : z < 256) (hf : f < 256) (H : Heap) :
    ECalls Try.prog 3 #[.int .u64 v, .int .u8 z, .int .u8 f] H fun r _ => r = .bool true := by
  refine ecalls_of_ewp (args := [_, _, _]) Try.func3 rfl rfl rfl (by simp [Try.ntmps3]) (by kernel_rfl) ?_
  simp (disch := first | omega | assumption | decide | (simp <;> omega) | fail) [facts, ]
  refine (known_c H).mono ?_
  rintro r H1 ⟨rfl, hle1⟩
  simp (disch := first | omega | assumption | decide | (simp <;> omega) | fail) [facts, ]
  have hq : (z : Int) % 60 = ((z % 60 : Nat) : Int) := by omega
  have hq60 : z % 60 < 60 := Nat.mod_lt _ (by decide)
  generalize hqz : z % 60 = q at hq hq60
  have hzr : List.replicate q (Value.int .u8 0) = (List.replicate q (0 : UInt8)).map u8V := by rw [List.map_replicate]; rfl
  have h8 : sizeZ 8 = 8 := by decide +kernel
  refine w_cut (fun s => s.env 0 = .int .u64 v ∧ s.env 1 = .int .u8 z ∧ s.env 2 = .int .u8 f ∧ ∃ a c, s.env 7 = .slice a (q + 8) c ∧ q + 8 ≤ c ∧ SlA s.heap a (q + 8) 1 ((List.replicate q 0 ++ bytesL v 8).map u8V)) ?_ ?_
  · refine w_plan (P := Try.prog) (by simp [facts]) (opsP [0,1,3] (.both (opsP [2,4,5,6] .done) (opsP [4,2,5,6] .done))) ?_ ?_
    · decide +kernel
    simp (disch := first | omega | assumption | decide | (simp <;> omega) | fail) [facts, hq]
    refine ⟨?_, ?_⟩
    · refine fresh_intro fun b hb => ?_
      simp (disch := first | omega | assumption | decide | (simp <;> omega) | fail) [facts, hq]
      refine (bytes_c v 8 _ hv (by simp [i64In])).mono ?_
      rintro r H2 ⟨hle2, hout⟩
      simp (disch := first | omega | assumption | decide | (simp <;> omega) | fail) [facts, hq]
      rw [h8] at hout
      obtain ⟨a, c, rfl, hs⟩ := hout.sl
      rw [hzr] at hle2
      have hown : OwnA H2 (.slice (some ⟨b, 0, none⟩) q q) 1 q b 0 q ((List.replicate q (0 : UInt8)).map u8V) 0 := ⟨rfl, hle2 _ _ (upd_same _ _ _), by simp, Nat.le_refl _, by omega⟩
      refine app_own (e := 5) (s := 1) (nbs := 1) (z := .int .u8 0) (by simp [facts]) (by simp [facts]) (by simp [facts]) (by simp [facts]) rfl (by decide) hown
        (src_sl (e1 := 5) (z := .int .u8 0) (by simp [facts]) (by simp [facts]) (by simp [facts]) hs) (by simp [bytesL_len]) (all_u8 _) (by omega) ?_
      intro b' o' cap' room' H' hb' hH' hown'
      rw [← List.map_append] at hown'
      simp (disch := first | omega | assumption | decide | (simp <;> omega) | fail) [facts, hq]
      exact ⟨_, _, ⟨rfl, rfl⟩, hown'.capOk, by simpa using hown'.slA⟩
    · refine (bytes_c v 8 _ hv (by simp [i64In])).mono ?_
      rintro r H2 ⟨hle2, hout⟩
      simp (disch := first | omega | assumption | decide | (simp <;> omega) | fail) [facts, hq]
      refine fresh_intro fun b hb => ?_
      simp (disch := first | omega | assumption | decide | (simp <;> omega) | fail) [facts, hq]
      rw [h8] at hout
      obtain ⟨a, c, rfl, hs⟩ := hout.sl
      have hle3 := le_upd (.row true 0 (List.replicate q (Value.int .u8 0)) 0) hb
      have hs3 := hs.le hle3
      rw [hzr] at hs3 ⊢
      have hown : OwnA (upd H2 b (.row true 0 ((List.replicate q (0 : UInt8)).map u8V) 0)) (.slice (some ⟨b, 0, none⟩) q q) 1 q b 0 q ((List.replicate q (0 : UInt8)).map u8V) 0 := ⟨rfl, upd_same _ _ _, by simp, Nat.le_refl _, by omega⟩
      refine app_own (e := 5) (s := 1) (nbs := 1) (z := .int .u8 0) (by simp [facts]) (by simp [facts]) (by simp [facts]) (by simp [facts]) rfl (by decide) hown
        (src_sl (e1 := 5) (z := .int .u8 0) (by simp [facts]) (by simp [facts]) (by simp [facts]) hs3) (by simp [bytesL_len]) (all_u8 _) (by omega) ?_
      intro b' o' cap' room' H' hb' hH' hown'
      rw [← List.map_append] at hown'
      simp (disch := first | omega | assumption | decide | (simp <;> omega) | fail) [facts, hq]
      exact ⟨_, _, ⟨rfl, rfl⟩, hown'.capOk, by simpa using hown'.slA⟩
  · rintro ⟨e, H2⟩ ⟨e0, e1, e2, a, c, e7, hc, hs⟩
    simp only at e0 e1 e2 e7 hs
    have hlen : (List.replicate q (0 : UInt8) ++ bytesL v 8).length = q + 8 := by simp [bytesL_len]
    simp (disch := first | omega | assumption | decide | (simp <;> omega) | fail) [facts, e0, e1, e2, e7]
    refine (number_c a (q + 8) c _ _ hs (by omega)).mono ?_
    rintro r H3 ⟨rfl, rfl⟩
    rw [num_noughts q v hv]
    simp (disch := first | omega | assumption | decide | (simp <;> omega) | fail) [facts, e0, e1, e2, e7, numV]
    refine fresh_intro fun b hb => ?_
    simp (disch := first | omega | assumption | decide | (simp <;> omega) | fail) [facts, e0, e1, e2, e7, numV]
    refine (bytes_c v 8 _ hv (by simp [i64In])).mono ?_
    rintro r H4 ⟨hle4, hout⟩
    rw [h8] at hout
    obtain ⟨a2, c2, rfl, hs2⟩ := hout.sl
    have hf8 : ([Value.int .u8 (f : Int)] : List Value) = ([UInt8.ofNat f] : List UInt8).map u8V := by
      simp only [List.map_cons, List.map_nil, u8V_def, UInt8.toNat_ofNat']
      congr 2; omega
    have hle5 := le_upd (.row true 0 [Value.int .u8 (f : Int)] 0) hb
    have hs5 := hs.le (Heap.le_trans hle5 hle4)
    simp (disch := first | omega | assumption | decide | (simp <;> omega) | fail) [facts, e0, e1, e2, e7]
    refine Out.app (e := 5) (s := 1) (nbs := 1) (z := .int .u8 0) (H := H3) (by simp [facts]) (by simp [facts]) (by simp [facts]) (by simp [facts]) rfl (by decide) (Heap.le_trans hle5 hle4)
      ((Out.fresh hb (by simp) (Nat.le_refl _) (by omega)).up hle4)
      (src_sl (e1 := 5) (z := .int .u8 0) (by simp [facts]) (by simp [facts]) (by simp [facts]) hs2) (by simp [bytesL_len]) (all_u8 _) (by omega) ?_
    intro sv2 H5 hle6 _ hout2
    rw [hf8, ← List.map_append] at hout2
    obtain ⟨a3, c3, rfl, hs3⟩ := hout2.sl
    have hs6 := hs.le hle6
    simp (disch := first | omega | assumption | decide | (simp <;> omega) | fail) [facts, e0, e1, e2, e7]
    refine (number_c a3 _ c3 _ _ hs3 (by omega)).mono ?_
    rintro r H6 ⟨rfl, rfl⟩
    have hfn : (UInt8.ofNat f).toNat = f := by rw [UInt8.toNat_ofNat']; omega
    rw [List.singleton_append, num_first _ v hv, hfn]
    have hdr := hs6.drop (m := q) (by omega)
    have hdrl : ((List.replicate q (0 : UInt8) ++ bytesL v 8).map u8V).drop (q * 1) = (bytesL v 8).map u8V := by
      rw [← List.map_drop, Nat.mul_one, List.drop_left' (by simp)]
    rw [hdrl, show q + 8 - q = 8 by omega] at hdr
    by_cases hf0 : f = 0
    · subst hf0
      simp (disch := first | omega | assumption | decide | (simp <;> omega) | fail) [facts, e0, e1, e2, e7, numV]
      obtain ⟨T2, hT2⟩ : ∃ T : Plan, T = (Plan.both (opsP [39,40,46,47,48,49] .done) (opsP [46,39,40,47,48,49] .done)) := ⟨_, rfl⟩
      obtain ⟨T, hT⟩ : ∃ T, T = opsP [29,30,31,32,33,34,35,36,37,38,41,42,43,44,45] T2 := ⟨_, rfl⟩
      refine w_plan (P := Try.prog) (by simp [facts]) (opsP [0,1,2,3,4,5,6,7,8,9,10,11,12,13,14,15,16,17,18,19,20,21,22,23,24,25,26,27,28] T) ?_ ?_
      · rw [hT, hT2]; decide +kernel
      simp (disch := first | omega | assumption | decide | (simp <;> omega) | fail) [facts, e0, e1, e2, e7, numV]
      refine eopsP_env fun e3 he3 => ?_
      have a0 : e3 0 = .int .u64 v := by rw [he3]; simp [e0]
      have a1 : e3 1 = .int .u8 z := by rw [he3]; simp [e1]
      have a7 : e3 7 = .slice a (q + 8) c := by rw [he3]; simp [e7]
      have a64 : e3 64 = .bool true := by rw [he3]; simp
      clear he3
      subst hT
      simp (disch := first | omega | assumption | decide | (simp <;> omega) | fail) [facts, a0, a1, a7, a64, hq, show ¬ c = q by omega]
      refine eopsP_env fun e4 he4 => ?_
      have b0 : e4 74 = .int .u64 v := by rw [he4]; simp [a0]
      have b73 : e4 73 = .bool true := by rw [he4]; simp
      have b81 := he4 81
      simp at b81
      clear he4
      subst hT2
      simp (disch := first | omega | assumption | decide | (simp <;> omega) | fail) [facts, b0, b73, b81]
      refine ⟨?_, ?_⟩
      · refine (put_c v 8 _ hv (by simp [i64In])).mono ?_
        rintro r H7 ⟨hle7, hout7⟩
        rw [h8] at hout7
        obtain ⟨a7, c7, rfl, hs7⟩ := hout7.sl
        have hdr7 := hdr.le hle7
        simp only [Nat.mul_one] at hdr7
        simp (disch := first | omega | assumption | decide | (simp <;> omega) | fail) [facts, b0, b73, b81, conv_bytes (P := Try.prog) (el := 5) (by simp [facts]) hs7, conv_bytes (P := Try.prog) (el := 5) (by simp [facts]) hdr7]
        exact ⟨_, Heap.le_refl _⟩
      · simp only [Nat.mul_one] at hdr
        simp (disch := first | omega | assumption | decide | (simp <;> omega) | fail) [facts, b0, b73, b81, conv_bytes (P := Try.prog) (el := 5) (by simp [facts]) hdr]
        refine (put_c v 8 _ hv (by simp [i64In])).mono ?_
        rintro r H7 ⟨hle7, hout7⟩
        rw [h8] at hout7
        obtain ⟨a7, c7, rfl, hs7⟩ := hout7.sl
        simp (disch := first | omega | assumption | decide | (simp <;> omega) | fail) [facts, b0, b73, b81, conv_bytes (P := Try.prog) (el := 5) (by simp [facts]) hs7]
        exact ⟨_, Heap.le_refl _⟩
    · have hfi : ¬ (f : Int) = 0 := by omega
      rw [if_neg hf0]
      simp (disch := first | omega | assumption | decide | (simp <;> omega) | fail) [facts, e0, e1, e2, e7, numV]
      obtain ⟨T2, hT2⟩ : ∃ T : Plan, T = (Plan.both (opsP [39,40,46,47,48,49] .done) (opsP [46,39,40,47,48,49] .done)) := ⟨_, rfl⟩
      obtain ⟨T, hT⟩ : ∃ T, T = opsP [29,30,31,32,33,34,35,36,37,38,41,42,43,44,45] T2 := ⟨_, rfl⟩
      refine w_plan (P := Try.prog) (by simp [facts]) (opsP [0,1,2,3,4,5,6,7,8,9,10,11,12,13,14,15,16,17,18,19,20,21,22,23,24,25,26,27,28] T) ?_ ?_
      · rw [hT, hT2]; decide +kernel
      simp (disch := first | omega | assumption | decide | (simp <;> omega) | fail) [facts, e0, e1, e2, e7, hfi, hf0]
      refine eopsP_env fun e3 he3 => ?_
      have a0 : e3 0 = .int .u64 v := by rw [he3]; simp [e0]
      have a1 : e3 1 = .int .u8 z := by rw [he3]; simp [e1]
      have a7 : e3 7 = .slice a (q + 8) c := by rw [he3]; simp [e7]
      have a64 : e3 64 = .bool true := by rw [he3]; simp
      clear he3
      subst hT
      simp (disch := first | omega | assumption | decide | (simp <;> omega) | fail) [facts, a0, a1, a7, a64, hq, show ¬ c = q by omega]
      refine eopsP_env fun e4 he4 => ?_
      have b0 : e4 74 = .int .u64 v := by rw [he4]; simp [a0]
      have b73 : e4 73 = .bool true := by rw [he4]; simp
      have b81 := he4 81
      simp at b81
      clear he4
      subst hT2
      simp (disch := first | omega | assumption | decide | (simp <;> omega) | fail) [facts, b0, b73, b81]
      refine ⟨?_, ?_⟩
      · refine (put_c v 8 _ hv (by simp [i64In])).mono ?_
        rintro r H7 ⟨hle7, hout7⟩
        rw [h8] at hout7
        obtain ⟨a7, c7, rfl, hs7⟩ := hout7.sl
        have hdr7 := hdr.le hle7
        simp only [Nat.mul_one] at hdr7
        simp (disch := first | omega | assumption | decide | (simp <;> omega) | fail) [facts, b0, b73, b81, conv_bytes (P := Try.prog) (el := 5) (by simp [facts]) hs7, conv_bytes (P := Try.prog) (el := 5) (by simp [facts]) hdr7]
        exact ⟨_, Heap.le_refl _⟩
      · simp only [Nat.mul_one] at hdr
        simp (disch := first | omega | assumption | decide | (simp <;> omega) | fail) [facts, b0, b73, b81, conv_bytes (P := Try.prog) (el := 5) (by simp [facts]) hdr]
        refine (put_c v 8 _ hv (by simp [i64In])).mono ?_
        rintro r H7 ⟨hle7, hout7⟩
        rw [h8] at hout7
        obtain ⟨a7, c7, rfl, hs7⟩ := hout7.sl
        simp (disch := first | omega | assumption | decide | (simp <;> omega) | fail) [facts, b0, b73, b81, conv_bytes (P := Try.prog) (el := 5) (by simp [facts]) hs7]
        exact ⟨_, Heap.le_refl _⟩
end Go.Proofs.Ytkeojbgafkiciaa.GL
