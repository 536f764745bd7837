import Derived.Test.YtlhoaamdplgdmaaGlH
import Derived.Test.YtlhoaamdplgdmaaGlT
namespace Go.Proofs.Ytlhoaamdplgdmaa.GL
open Go Go.RowKit
set_option linter.unusedSimpArgs false
set_option linter.unusedVariables false
set_option maxRecDepth 10000

def bitOf (c : UInt8) (k : Nat) : Bool := decide (c.toNat / 2 ^ k % 2 = 1)
def hasB (bs : List UInt8) (x : Int) : Bool := decide (1 ≤ x ∧ x ≤ 128) && (match bs[((x - 1) / 8).toNat]? with | some c => bitOf c (7 - (x - 1) % 8).toNat | none => false)

theorem bit_val (c : UInt8) (j : Int) (h0 : 0 ≤ j) (h1 : j ≤ 7) : andK .u8 (shrK .u8 (c.toNat : Int) j) 1 = ((c.toNat / 2 ^ j.toNat % 2 : Nat) : Int) := by
  have hc := c.toNat_lt
  rw [shrK_nat _ _ _ (by simp [IntKind.bits]; omega), andK_one]
  exact Nat.lt_of_le_of_lt (Nat.div_le_self _ _) (by simpa [IntKind.bits] using hc)

theorem has_c (a : Option Addr) (n c : Nat) (bs : List UInt8) (x : Int) (H : Heap) (h : SlA H a n 1 (bs.map u8V)) (hn : n ≤ 140737488351232) (hx : -9223372036854775808 ≤ x ∧ x ≤ 9223372036854775807) :
    ECalls Try.prog 12 #[.slice a n c, .int .i64 x] H fun v H' => v = .bool (hasB bs x) ∧ H' = H := by
  refine ecalls_of_ewp (args := [_, _]) Try.func12 rfl rfl rfl (by simp [Try.ntmps12]) (by kernel_rfl) ?_
  obtain ⟨hp, hth, hl, hg, hgN⟩ := h
  have hl' : bs.length = n := by simpa using hl
  by_cases h1 : 1 ≤ x
  · by_cases h2 : x ≤ 128
    · by_cases h3 : (x - 1) / 8 < n
      · simp (disch := first | omega | assumption | (apply hth; omega) | rfl) [h1, h2, h3, hg, facts]
        rw [bit_val _ _ (by omega) (by omega)]
        have hc : bs[((x - 1) / 8).toNat]? = some (bs[((x - 1) / 8).toNat]'(by omega)) := List.getElem?_eq_getElem (by omega)
        simp only [hasB, h1, h2, hc, bitOf, and_self, decide_true, Bool.true_and]
        congr 1
        exact propext ⟨fun h => by omega, fun h => by omega⟩
      · simp (disch := first | omega | assumption | (apply hth; omega) | rfl) [h1, h2, h3, facts]
        have hc : bs[((x - 1) / 8).toNat]? = none := List.getElem?_eq_none (by omega)
        simp [hasB, hc]
    · simp (disch := first | omega | assumption | rfl) [h1, h2]
      simp [hasB, h2]
  · simp (disch := first | omega | assumption | rfl) [h1]
    simp [hasB, h1]
end Go.Proofs.Ytlhoaamdplgdmaa.GL
