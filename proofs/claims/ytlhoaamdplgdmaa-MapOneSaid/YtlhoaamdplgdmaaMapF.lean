import Derived.Test.YtlhoaamdplgdmaaMapE
namespace Go.Proofs.Ytlhoaamdplgdmaa.GL
open Go Go.RowKit
set_option maxRecDepth 10000
set_option pp.deepTerms.threshold 8
set_option pp.maxSteps 3000
set_option linter.unusedSimpArgs false

def oneB (n : Int) : List UInt8 := setBit (grow8 (List.replicate 8 0) n) n
def oneOk (n : Nat) : Bool :=
  decide ((oneB (n + 2)).length = if 64 < n + 2 then 16 else 8) && (hasB (oneB (n + 2)) 1 == decide (64 < n + 2)) && (List.range 127).all fun i => hasB (oneB (n + 2)) (i + 2) == decide (i = n)
theorem oneOk_all : ((List.range 127).all oneOk) = true := by decide +kernel
theorem oneOk_at {n : Nat} (h : n < 127) : oneOk n = true := List.all_eq_true.1 oneOk_all n (List.mem_range.2 h)
theorem one_len {n : Nat} (h : n < 127) : (oneB (n + 2)).length = if 64 < n + 2 then 16 else 8 := by
  have := oneOk_at h; simp only [oneOk, Bool.and_eq_true, decide_eq_true_eq] at this; exact this.1.1
theorem one_first {n : Nat} (h : n < 127) : hasB (oneB (n + 2)) 1 = decide (64 < n + 2) := by
  have := oneOk_at h; simp only [oneOk, Bool.and_eq_true, beq_iff_eq] at this; exact this.1.2
theorem one_has {n i : Nat} (h : n < 127) (hi : i < 127) : hasB (oneB (n + 2)) (i + 2) = decide (i = n) := by
  have := oneOk_at h; simp only [oneOk, Bool.and_eq_true] at this
  have := List.all_eq_true.1 this.2 i (List.mem_range.2 hi)
  simpa using this
theorem put_one {n : Nat} (h : n < 127) : putB [(n : Int) + 2] = some (oneB (n + 2)) := by
  simp only [putB, putGo]; rw [if_neg (by omega)]; rfl
theorem put_two {n m : Nat} (h : n < 127) (hm : m < 127) : (putB [(n : Int) + 2, (m : Int) + 2]).isSome = decide (n < m) := by
  simp only [putB, putGo]; rw [if_neg (by omega)]
  by_cases hnm : n < m
  · rw [if_neg (by omega)]; simp [hnm]
  · rw [if_pos (by omega)]; simp [hnm]
theorem has_low (bs : List UInt8) : hasB bs 0 = false := by simp [hasB]
theorem has_high (bs : List UInt8) : hasB bs 129 = false := by simp [hasB]
end Go.Proofs.Ytlhoaamdplgdmaa.GL
