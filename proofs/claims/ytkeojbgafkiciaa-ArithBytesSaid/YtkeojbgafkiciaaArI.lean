/- Layer 1: the walk of ArithBack. -/
import Derived.Test.YtkeojbgafkiciaaArH
namespace Go.Proofs.Ytkeojbgafkiciaa.GL
open Go Go.RowKit
set_option maxRecDepth 10000
set_option pp.deepTerms.threshold 8
set_option pp.maxSteps 3000
set_option linter.unusedSimpArgs false
set_option linter.unusedVariables false

theorem back_c (v : Int) (w n : Nat) (hv : i64In v) (hw : w < 2 ^ 32) (hn : n < 256) (H : Heap) :
    ECalls Try.prog 7 #[.int .i64 v, .int .u32 w, .int .u8 n] H fun r _ => r = .bool true := by
  refine ecalls_of_ewp (args := [_, _, _]) Try.func7 rfl rfl rfl (by simp [Try.ntmps7]) (by kernel_rfl) ?_
  simp (disch := first | omega | assumption | decide | (simp <;> omega) | fail) [facts, ]
  refine (known_c H).mono ?_
  rintro r H1 ⟨rfl, hle1⟩
  obtain ⟨k, hk⟩ : ∃ k : Nat, k = n % 8 + 1 := ⟨_, rfl⟩
  have hk8 : 1 ≤ k ∧ k ≤ 8 := by omega
  have hkk : (n : Int) % 8 + 1 = k := by omega
  simp (disch := first | omega | assumption | decide | (simp <;> omega) | fail) [facts, hkk]
  refine (wrap_c v (8 * k) _ hv (by simp only [i64In]; omega)).mono ?_
  rintro r H2 ⟨rfl, rfl⟩
  have hxin := wrapZ_in v (8 * k) hv
  have hxx := wrapZ_wrapZ v (8 * k) (by omega)
  generalize wrapZ v (8 * (k : Int)) = x at hxin hxx
  have hX := wrap_u64_toNat x
  have hXlt : (x % 18446744073709551616).toNat < 2 ^ 64 := by omega
  have hsg := signed_bytes x k hk8 hxin hxx
  generalize (x % 18446744073709551616).toNat = X at hX hXlt hsg
  simp (disch := first | omega | assumption | decide | (simp <;> omega) | fail) [facts, hkk, hX]
  refine (bytes_c X k _ hXlt (by simp only [i64In]; omega)).mono ?_
  rintro r H3 ⟨hle3, hout⟩
  have hsz : sizeZ k = k := by unfold sizeZ; omega
  rw [hsz] at hout
  obtain ⟨a, c, rfl, hs⟩ := hout.sl
  simp (disch := first | omega | assumption | decide | (simp <;> omega) | fail) [facts, hkk]
  refine (signed_c a k c _ _ hs (by omega)).mono ?_
  rintro r H4 ⟨rfl, rfl⟩
  rw [hsg]
  simp (disch := first | omega | assumption | decide | (simp <;> omega) | fail) [facts, hkk]
  refine (narrow_c x (8 * k) _ hxin (by simp only [i64In]; omega)).mono ?_
  rintro r H5 ⟨rfl, rfl⟩
  have hnar : narrowZ x (8 * k) = .tuple #[.int .i64 x, .bool true] := by unfold narrowZ; rw [if_neg (by omega)]
  rw [hnar]
  simp (disch := first | omega | assumption | decide | (simp <;> omega) | fail) [facts, hkk]
  refine (rot_c w n _ (by simp only [i64In]; omega)).mono ?_
  rintro r H6 ⟨rfl, rfl⟩
  simp (disch := first | omega | assumption | decide | (simp <;> omega) | fail) [facts, hkk]
  refine (rot_c _ (32 - (n : Int) % 32) _ (by simp only [i64In]; omega)).mono ?_
  rintro r H7 ⟨rfl, rfl⟩
  rw [rot_back w n hw (by omega)]
  simp (disch := first | omega | assumption | decide | (simp <;> omega) | fail) [facts, hkk]
  have hV := wrap_u64_toNat v
  refine (low_c _ 64 _ (by rw [hV]; simp only [u64In]; omega) (by simp only [i64In]; omega)).mono ?_
  rintro r H8 ⟨rfl, rfl⟩
  rw [low_64]
  simp (disch := first | omega | assumption | decide | (simp <;> omega) | fail) [facts, hkk]
  exact ⟨_, Heap.le_refl _⟩
end Go.Proofs.Ytkeojbgafkiciaa.GL
