/- Layer 1, plain: a number's bytes are that number again; turning back. -/
import Derived.Test.YtkeojbgafkiciaaArG
namespace Go.Proofs.Ytkeojbgafkiciaa.GL
open Go Go.RowKit
set_option maxRecDepth 10000
set_option linter.unusedSimpArgs false
set_option linter.unusedVariables false

theorem bytesL_succ (v m : Nat) : bytesL v (m + 1) = byteAt v m :: bytesL v m := by
  unfold bytesL
  rw [List.range_succ_eq_map, List.map_cons, List.map_map]
  congr 1
  apply List.map_congr_left
  intro j _
  simp only [Function.comp]
  congr 1
  omega
theorem byteAt_nat (v i : Nat) (h : i < 8) : (byteAt v i).toNat = v / 256 ^ i % 256 := by
  unfold byteAt
  rw [if_pos h, UInt8.toNat_ofNat', Nat.pow_mul]
theorem numGo_bytes (v : Nat) : ∀ (m acc : Nat), m ≤ 8 → acc * 256 ^ m < 2 ^ 64 → numGo (bytesL v m) acc = some (acc * 256 ^ m + v % 256 ^ m)
  | 0, acc, _, _ => by simp [bytesL, numGo, Nat.mod_one]
  | m + 1, acc, hm, ha => by
    have hp : 0 < 256 ^ m := Nat.pow_pos (by decide)
    have hpow : 256 ^ (m + 1) = 256 ^ m * 256 := Nat.pow_succ ..
    rw [hpow] at ha ⊢
    have h1 : acc < 2 ^ 56 := by
      have h2 : acc * 256 ≤ acc * (256 ^ m * 256) := Nat.mul_le_mul_left _ (Nat.le_mul_of_pos_left _ hp)
      omega
    rw [bytesL_succ]
    simp only [numGo]
    rw [if_neg (by omega), byteAt_nat v m (by omega)]
    have hb : v / 256 ^ m % 256 < 256 := Nat.mod_lt _ (by decide)
    have hmod : v % (256 ^ m * 256) = v % 256 ^ m + 256 ^ m * (v / 256 ^ m % 256) := Nat.mod_mul
    have hlt : (acc * 256 + v / 256 ^ m % 256) * 256 ^ m < 2 ^ 64 := by
      have e : 2 ^ 64 = 256 ^ (m + 1) * 256 ^ (7 - m) := by
        rw [← Nat.pow_add, show m + 1 + (7 - m) = 8 by omega]
      have hq : 0 < 256 ^ (7 - m) := Nat.pow_pos (by decide)
      rw [hpow] at e
      have h3 : acc < 256 ^ (7 - m) := by
        rw [e, Nat.mul_comm] at ha
        exact Nat.lt_of_mul_lt_mul_left ha
      calc (acc * 256 + v / 256 ^ m % 256) * 256 ^ m < (acc * 256 + 256) * 256 ^ m := Nat.mul_lt_mul_of_pos_right (by omega) hp
        _ = (acc + 1) * (256 ^ m * 256) := by rw [show acc * 256 + 256 = (acc + 1) * 256 by omega, Nat.mul_assoc, Nat.mul_comm 256]
        _ ≤ 256 ^ (7 - m) * (256 ^ m * 256) := Nat.mul_le_mul_right _ h3
        _ = 2 ^ 64 := by rw [e, Nat.mul_comm]
    rw [numGo_bytes v m _ (by omega) hlt, hmod, Nat.add_mul, Nat.mul_assoc acc 256, Nat.mul_comm 256 (256 ^ m), Nat.mul_comm (v / 256 ^ m % 256)]
    congr 1
    omega
theorem numB_bytes (v m : Nat) (h : m ≤ 8) : numB (bytesL v m) = some (v % 256 ^ m) := by
  have := numGo_bytes v m 0 h (by simp)
  simpa [numB] using this

theorem wrapZ_congr (v w n : Int) (h1 : 1 ≤ n) (h2 : n < 64) (h : v % 2 ^ n.toNat = w % 2 ^ n.toNat) : wrapZ v n = wrapZ w n := by
  rw [wrapZ_eq v n h1 h2, wrapZ_eq w n h1 h2, h]
theorem wrapZ_range (v n : Int) (h1 : 1 ≤ n) (h2 : n < 64) : -2 ^ (n - 1).toNat ≤ wrapZ v n ∧ wrapZ v n < 2 ^ (n - 1).toNat := by
  rw [wrapZ_eq v n h1 h2]
  have hN2 : (2 : Int) ^ n.toNat = 2 * 2 ^ (n - 1).toNat := by
    have : n.toNat = (n - 1).toNat + 1 := by omega
    rw [this, Int.pow_succ]; omega
  have hp : (0 : Int) < 2 ^ (n - 1).toNat := Int.pow_pos (by decide)
  rw [hN2]
  generalize (2 : Int) ^ (n - 1).toNat = h at *
  have hr0 := Int.emod_nonneg v (show 2 * h ≠ 0 by omega)
  have hr1 := Int.emod_lt_of_pos v (show 0 < 2 * h by omega)
  split <;> omega
theorem wrapZ_wrapZ (v n : Int) (h1 : 1 ≤ n) : wrapZ (wrapZ v n) n = wrapZ v n := by
  by_cases h2 : n < 64
  · exact (wrapZ_self _ n h1 h2).2 (wrapZ_range v n h1 h2)
  · unfold wrapZ
    rw [if_neg (by omega), if_pos (by omega), if_neg (by omega), if_pos (by omega)]
theorem wrapZ_in (v n : Int) (hv : i64In v) : i64In (wrapZ v n) := by
  unfold wrapZ
  split
  · simp [i64In]
  · split
    · exact hv
    · exact shrK_in _ _ (shlK_in _ _)
theorem pow256 (k : Nat) : (256 : Nat) ^ k = 2 ^ (8 * k) := by rw [Nat.pow_mul]
theorem wrap_u64_toNat (x : Int) : IntKind.wrap .u64 x = ((x % 18446744073709551616).toNat : Int) := by
  simp only [IntKind.wrap, IntKind.bits, IntKind.signed, Bool.false_and]
  simp
  omega
/-- A number's k bytes, read as a signed number of k bytes. -/
theorem signed_bytes (x : Int) (k : Nat) (hk : 1 ≤ k ∧ k ≤ 8) (hx : i64In x) (hw : wrapZ x (8 * k) = x) : signedV (bytesL (x % 18446744073709551616).toNat k) = .tuple #[.int .i64 x, .bool true] := by
  have key : wrapZ (IntKind.wrap .i64 (((x % 18446744073709551616).toNat % 256 ^ k : Nat) : Int)) (8 * (k : Int)) = x := by
    unfold i64In at hx
    by_cases h8 : k = 8
    · subst h8
      have : ((x % 18446744073709551616).toNat % 256 ^ 8 : Nat) = (x % 18446744073709551616).toNat := Nat.mod_eq_of_lt (by omega)
      rw [this, IntKind.wrap_i64]
      unfold wrapZ
      rw [if_neg (by omega), if_pos (by omega)]
      omega
    · have hN : (2 : Nat) ^ (8 * k) ≤ 2 ^ 56 := Nat.pow_le_pow_right (by decide) (by omega)
      have hN0 : 0 < (2 : Nat) ^ (8 * k) := Nat.pow_pos (by decide)
      rw [pow256]
      have hlt : (x % 18446744073709551616).toNat % 2 ^ (8 * k) < 2 ^ (8 * k) := Nat.mod_lt _ hN0
      rw [wr_i64 (by omega) (by omega)]
      refine Eq.trans (wrapZ_congr _ x _ (by omega) (by omega) ?_) hw
      have e : ((8 : Int) * k).toNat = 8 * k := by omega
      rw [e]
      have e2 : (2 : Int) ^ (8 * k) = ((2 ^ (8 * k) : Nat) : Int) := by simp
      have e3 : (18446744073709551616 : Int) = ((2 ^ (8 * k) : Nat) : Int) * ((2 ^ (64 - 8 * k) : Nat) : Int) := by
        rw [← Int.natCast_mul, ← Nat.pow_add, show 8 * k + (64 - 8 * k) = 64 by omega]; rfl
      rw [e2, Int.natCast_emod, Int.toNat_of_nonneg (by omega), Int.emod_emod, e3, Int.emod_emod_of_dvd _ ⟨_, rfl⟩]
  unfold signedV
  rw [bytesL_len, if_neg (by omega), numB_bytes _ _ hk.2, Option.getD_some, key]

theorem wrap_u32_nat (m : Nat) : IntKind.wrap .u32 (m : Int) = ((m % 4294967296 : Nat) : Int) := by
  simp only [IntKind.wrap, IntKind.bits, IntKind.signed, Bool.false_and]
  simp
theorem rot_parts (a b k : Nat) (hk : k ≤ 31) (ha : a < 2 ^ k) (hb : b < 2 ^ (32 - k)) :
    orK .u32 (shlK .u32 ((a * 2 ^ (32 - k) + b : Nat) : Int) (k : Int)) (shrK .u32 ((a * 2 ^ (32 - k) + b : Nat) : Int) (32 - (k : Int))) = ((b * 2 ^ k + a : Nat) : Int) := by
  have hP : 2 ^ (32 - k) * 2 ^ k = 2 ^ 32 := by rw [← Nat.pow_add, show 32 - k + k = 32 by omega]
  have hQ : 0 < 2 ^ (32 - k) := Nat.pow_pos (by decide)
  have hR : 0 < 2 ^ k := Nat.pow_pos (by decide)
  have hbk : b * 2 ^ k < 2 ^ 32 := by rw [← hP]; exact Nat.mul_lt_mul_of_pos_right hb hR
  have e1 : shlK .u32 ((a * 2 ^ (32 - k) + b : Nat) : Int) (k : Int) = ((b * 2 ^ k : Nat) : Int) := by
    unfold shlK
    rw [Nat.min_eq_left (by simp only [IntKind.bits]; omega), Int.toNat_natCast]
    have : ((a * 2 ^ (32 - k) + b : Nat) : Int) * 2 ^ k = ((a * 2 ^ 32 + b * 2 ^ k : Nat) : Int) := by
      have h2 : (2 : Int) ^ k = ((2 ^ k : Nat) : Int) := by simp
      rw [h2, ← Int.natCast_mul, Nat.add_mul, Nat.mul_assoc, hP]
    rw [this, wrap_u32_nat]
    congr 1
    generalize b * 2 ^ k = q at hbk
    omega
  have e2 : shrK .u32 ((a * 2 ^ (32 - k) + b : Nat) : Int) (32 - (k : Int)) = (a : Int) := by
    rw [shrK_nat _ _ _ (by simp only [IntKind.bits]; omega), show (32 - (k : Int)).toNat = 32 - k by omega]
    rw [Nat.add_comm, Nat.add_mul_div_right _ _ hQ, Nat.div_eq_of_lt hb, Nat.zero_add]
  have ha2 : a < 2 ^ 32 := Nat.lt_of_lt_of_le ha (Nat.pow_le_pow_right (by decide) (by omega))
  rw [e1, e2, orK_nat _ _ _ (by simpa [IntKind.bits] using hbk) (by simpa [IntKind.bits] using ha2) rfl]
  have := Nat.two_pow_add_eq_or_of_lt (i := k) (b := a) ha b
  rw [Nat.mul_comm b, this]

theorem and31_nat (n : Nat) (h : n < 2 ^ 63) : andK .u64 (IntKind.wrap .u64 (n : Int)) 31 = ((n % 32 : Nat) : Int) := by
  have e : IntKind.wrap .u64 (n : Int) = n := wr_u64 (by omega) (by omega)
  rw [e]
  have := andK_nat .u64 n 31 (by simp only [IntKind.bits]; omega) (by decide) rfl
  rw [show (31 : Int) = ((31 : Nat) : Int) from rfl, this]
  congr 1
  exact Nat.and_two_pow_sub_one_eq_mod n 5
/-- Turning all the way round. -/
theorem rot_back (w n : Nat) (hw : w < 2 ^ 32) (hn : n < 2 ^ 63) : rotZ (rotZ w n) (32 - (n : Int) % 32) = w := by
  obtain ⟨k, hk⟩ : ∃ k : Nat, k = n % 32 := ⟨_, rfl⟩
  have hk31 : k ≤ 31 := by omega
  have h1 : andK .u64 (IntKind.wrap .u64 (n : Int)) 31 = (k : Int) := by rw [and31_nat n hn, hk]
  have e3 : (32 - (n : Int) % 32) = ((32 - k : Nat) : Int) := by omega
  have h2 : andK .u64 (IntKind.wrap .u64 (32 - (n : Int) % 32)) 31 = (((32 - k) % 32 : Nat) : Int) := by rw [e3, and31_nat _ (by omega)]
  have hQ : 0 < 2 ^ (32 - k) := Nat.pow_pos (by decide)
  have hP : 2 ^ (32 - k) * 2 ^ k = 2 ^ 32 := by rw [← Nat.pow_add, show 32 - k + k = 32 by omega]
  have hwd : w = w / 2 ^ (32 - k) * 2 ^ (32 - k) + w % 2 ^ (32 - k) := by rw [Nat.mul_comm]; exact (Nat.div_add_mod w _).symm
  have ha : w / 2 ^ (32 - k) < 2 ^ k := Nat.div_lt_of_lt_mul (by rw [hP]; exact hw)
  have hb : w % 2 ^ (32 - k) < 2 ^ (32 - k) := Nat.mod_lt _ hQ
  generalize w / 2 ^ (32 - k) = a at hwd ha
  generalize w % 2 ^ (32 - k) = b at hwd hb
  unfold rotZ
  rw [h1, h2, hwd, rot_parts a b k hk31 ha hb]
  by_cases h0 : k = 0
  · subst h0
    have ha0 : a = 0 := by simpa using ha
    subst ha0
    have := rot_parts 0 b 0 (by omega) (by decide) (by simpa using hb)
    simpa using this
  · have e4 : (32 - k) % 32 = 32 - k := Nat.mod_eq_of_lt (by omega)
    rw [e4]
    have e5 : 32 - (32 - k) = k := by omega
    have := rot_parts b a (32 - k) (by omega) hb (by rw [e5]; exact ha)
    rw [e5] at this
    exact this
theorem low_64 (v : Int) : lowZ v 64 = v := by unfold lowZ; rw [if_neg (by decide), if_pos (by decide)]
end Go.Proofs.Ytkeojbgafkiciaa.GL
