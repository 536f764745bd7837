/- Layer 2, plain: a sum in two halves; a product out of its size and its sign. -/
import Derived.Test.YtiaigpkaajnpoaaGlL
import Derived.Test.YtiaigpkaajnpoaaGlT
import Derived.Lib.Mul64
import Derived.Laws.Externs
namespace Go.Proofs.Ytiaigpkaajnpoaa.GL
open Go Go.RowKit
set_option maxRecDepth 10000
set_option pp.deepTerms.threshold 8
set_option pp.maxSteps 3000
set_option linter.unusedSimpArgs false
set_option linter.unusedVariables false

def i64In (v : Int) : Prop := -9223372036854775808 ≤ v ∧ v ≤ 9223372036854775807
instance (v : Int) : Decidable (i64In v) := inferInstanceAs (Decidable (_ ∧ _))
/-- A sum or product, if it fits. -/
def totV (S : Int) : Value := if i64In S then .tuple #[.int .i64 S, .bool true] else .tuple #[.int .i64 0, .bool false]

theorem wrapU (x : Int) : IntKind.wrap .u64 x = x % 18446744073709551616 := by simp [IntKind.wrap, IntKind.bits, IntKind.signed]
theorem shr63 (v : Int) (h : i64In v) : shrK .i64 v 63 = if v < 0 then -1 else 0 := by
  unfold shrK i64In at *
  have e : min (Int.toNat 63) IntKind.i64.bits = 63 := by decide
  rw [e, Int.fdiv_eq_ediv_of_nonneg _ (by decide)]
  split <;> omega

/-- The halves of a sum. -/
def loT (T : Int) : Int := T % 18446744073709551616
def hiT (T : Int) : Int := (T / 18446744073709551616) % 18446744073709551616
theorem lo_step (T v : Int) (h : i64In v) : (loT T + IntKind.wrap .u64 v + 0) % 18446744073709551616 = loT (T + v) := by
  unfold loT; rw [wrapU]; omega
theorem hi_step (T v : Int) (h : i64In v) : IntKind.wrap .u64 (hiT T + IntKind.wrap .u64 (IntKind.wrap .u64 (shrK .i64 v 63) + (loT T + IntKind.wrap .u64 v + 0) / 18446744073709551616)) = hiT (T + v) := by
  rw [shr63 v h]; unfold loT hiT i64In at *; simp only [wrapU]; split <;> omega
def midIn (T : Int) : Prop := -170141183460469231731687303715884105728 ≤ T ∧ T < 170141183460469231731687303715884105728
theorem tot_end (T : Int) (h : midIn T) : (¬ IntKind.wrap .i64 (hiT T) = shrK .i64 (IntKind.wrap .i64 (loT T)) 63) ↔ ¬ i64In T := by
  have hw : i64In (IntKind.wrap .i64 (loT T)) := by rw [IntKind.wrap_i64]; unfold i64In; omega
  rw [shr63 _ hw, IntKind.wrap_i64, IntKind.wrap_i64]
  unfold loT hiT i64In midIn at *
  split <;> omega
theorem tot_val (T : Int) (h : i64In T) : IntKind.wrap .i64 (loT T) = T := by
  rw [IntKind.wrap_i64]; unfold loT i64In at *; omega

theorem sum_in : ∀ (l : List Int), (∀ z ∈ l, i64In z) → -(9223372036854775808 * (l.length : Int)) ≤ l.sum ∧ l.sum ≤ 9223372036854775808 * (l.length : Int)
  | [], _ => by simp
  | x :: r, h => by
    have h1 := sum_in r (fun z hz => h z (by simp [hz]))
    have h2 := h x (by simp)
    unfold i64In at h2
    simp only [List.sum_cons, List.length_cons, Int.natCast_add, Int.natCast_one]
    omega
theorem sum_mid (l : List Int) (h : ∀ z ∈ l, i64In z) (hn : l.length ≤ 140737488355328) : midIn l.sum := by
  have := sum_in l h
  unfold midIn
  omega
theorem sum_take_succ (l : List Int) (k : Nat) (x : Int) (h : l[k]? = some x) : (l.take (k + 1)).sum = (l.take k).sum + x := by
  rw [take_snoc h, List.sum_append]; simp

/-- A number's size. -/
theorem size_neg (v : Int) (h : i64In v) (hn : v < 0) : IntKind.wrap .u64 (-(IntKind.wrap .u64 v)) = -v := by
  simp only [wrapU]; unfold i64In at h; omega
theorem size_pos (v : Int) (h : i64In v) (hn : ¬ v < 0) : IntKind.wrap .u64 v = v := by
  simp only [wrapU]; unfold i64In at h; omega

theorem shrK_in (a b : Int) (h : i64In a) : i64In (shrK .i64 a b) := by
  unfold shrK
  have hp : (0 : Int) < 2 ^ (min b.toNat IntKind.i64.bits) := Int.pow_pos (by decide)
  generalize (2 : Int) ^ (min b.toNat IntKind.i64.bits) = M at hp
  rw [Int.fdiv_eq_ediv_of_nonneg _ (by omega)]
  unfold i64In at h ⊢
  constructor
  · exact Int.le_ediv_of_mul_le hp (by
      have : (-9223372036854775808 : Int) * M ≤ -9223372036854775808 * 1 := Int.mul_le_mul_of_nonpos_left (by omega) (by omega)
      omega)
  · by_cases h0 : 0 ≤ a
    · exact Int.le_trans (Int.ediv_le_self _ h0) h.2
    · have := Int.ediv_neg_of_neg_of_pos (show a < 0 by omega) hp
      omega
theorem andK_small (v : Int) (m : Nat) (hm : m ≤ 100) : 0 ≤ andK .i64 v m ∧ andK .i64 v m ≤ m := by
  unfold andK
  have e : (BitVec.ofInt IntKind.i64.bits (m : Int)).toNat = m := ofInt_nat .i64 m (by simp only [IntKind.bits]; omega)
  have h : (BitVec.ofInt IntKind.i64.bits v &&& BitVec.ofInt IntKind.i64.bits (m : Int)).toNat ≤ m := by
    rw [BitVec.toNat_and, e]; exact Nat.and_le_right
  rw [wr_i64 (by omega) (by omega)]
  omega

/-- 'near'. -/
def nearZ (v : Int) (k : Nat) : Int :=
  if k % 6 = 0 then v else if k % 6 = 1 then 9223372036854775807 - andK .i64 v 7 else if k % 6 = 2 then -9223372036854775808 + andK .i64 v 7 else if k % 6 = 3 then shrK .i64 v 32
  else if k % 6 = 4 then andK .i64 v 15 else -(andK .i64 v 15)
theorem nearZ_in (v : Int) (k : Nat) (h : i64In v) : i64In (nearZ v k) := by
  have h1 := andK_small v 7 (by decide)
  have h2 := andK_small v 15 (by decide)
  have h3 := shrK_in v 32 h
  unfold nearZ
  unfold i64In at *
  simp only [Int.cast_ofNat_Int] at h1 h2
  repeat' split
  all_goals first | assumption | omega

theorem le_updN {H H1 : Heap} {b : Nat} (o : GObj) (hl : Heap.le H H1) (hb : H b = none) : Heap.le H (upd H1 b o) := fun i p e => by
  rw [upd_ne _ _ (ne_of_fresh hb e)]; exact hl i p e
end Go.Proofs.Ytiaigpkaajnpoaa.GL
