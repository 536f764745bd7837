/- Strings as lists of bytes: the conversion out of a slice, equality. -/
import Derived.Test.YtfpighmafofoeaaDoorGlJ
namespace Go.Proofs.YtfpighmafofoeaaDoor.GL
open Go Go.RowKit
set_option linter.unusedSimpArgs false
set_option linter.unusedVariables false

def mkS (l : List UInt8) : ByteArray := ⟨l.toArray⟩
theorem mkS_inj {x y : List UInt8} : mkS x = mkS y ↔ x = y := by
  simp [mkS]
theorem mkS_size (l : List UInt8) : (mkS l).size = l.length := by simp [mkS, ByteArray.size]
theorem mkS_list (l : List UInt8) : (mkS l).data.toList = l := by simp [mkS]
theorem mkS_of (x : ByteArray) : mkS x.data.toList = x := by cases x; simp [mkS]
theorem byteNs_map (l : List UInt8) : byteNs (l.map u8V) = some (l.map fun c => (c.toNat : Int)) := by
  induction l with
  | nil => rfl
  | cons c r ih => simp only [List.map_cons, u8V_def, byteNs, ih, Option.map_some]
theorem strOfNs_map (l : List UInt8) : strOfNs (l.map fun c => (c.toNat : Int)) = mkS l := by
  unfold strOfNs mkS
  rw [List.map_map]
  have : ((fun n : Int => UInt8.ofNat n.toNat) ∘ fun c : UInt8 => (c.toNat : Int)) = id := by
    funext c; simp
  rw [this, List.map_id]
/-- string(b). -/
theorem conv_bytes {P : Program} {H : Heap} {K : Kont} {el : TypeId} {a : Option Addr} {n c : Nat} {bs : List UInt8} (hu : und P el = .int .u8) (h : SlA H a n 1 (bs.map u8V)) :
    convK P (.slice el) .str (.slice a n c) H K = K (.string (mkS bs)) H := by
  have hl : bs.length = n := by simpa using h.len
  unfold convK qConvU
  cases a with
  | none =>
    have : n = 0 := by
      rcases Nat.eq_zero_or_pos n with h0 | h0
      · exact h0
      · have := h.there h0; cases this
    subst this
    have : bs = [] := List.eq_nil_of_length_eq_zero hl
    subst this
    simp only [hu]
    have := strOfNs_map []
    simp only [List.map_nil] at this
    rw [this]; simp [onSome]
  | some a =>
    obtain ⟨b, o, sp⟩ := a
    cases sp with
    | some x => have := h.plain; simp [plainA] at this
    | none =>
      simp only [hu]
      have hr : rdN H b o n = some (bs.map u8V) := by
        by_cases h0 : n = 0
        · have : bs = [] := List.eq_nil_of_length_eq_zero (by omega)
          subst this; subst h0
          simp [rdN]
        · have := h.getN 0 n (by omega) (by omega)
          simp only [atN, Nat.add_zero, List.drop_zero] at this
          rw [this, List.take_of_length_le (by simp; omega)]
      rw [hr]
      simp only [byteNs_map, Option.map_some, strOfNs_map, onSome_some]
theorem str_beq {x y : List UInt8} : (mkS x == mkS y) = decide (x = y) := by
  have e : (mkS x == mkS y) = (x.toArray == y.toArray) := Eq.trans rfl rfl
  rw [e, Bool.eq_iff_iff]
  simp
theorem beq_dec (x y : List UInt8) : (x == y) = decide (x = y) := by rw [Bool.eq_iff_iff]; simp
theorem mkS_toList (l : List UInt8) : (mkS l).toList = l := by rw [ByteArray.toList_eq]; exact mkS_list l
theorem b_eqlT {P : Program} {t : TypeId} {x y : List UInt8} : qBin P .eql t (.string (mkS x)) (.string (mkS y)) = some (.bool (decide (x = y))) := by
  simp only [qBin, qStr, mkS_toList, beq_dec]
theorem b_neqT {P : Program} {t : TypeId} {x y : List UInt8} : qBin P .neq t (.string (mkS x)) (.string (mkS y)) = some (.bool !(decide (x = y))) := by
  simp only [qBin, qStr, mkS_toList, beq_dec]
theorem b_eqlTl {P : Program} {t : TypeId} {x y : List UInt8} : qBin P .eql t (.string (mkS x)) (.string ⟨y.toArray⟩) = some (.bool (decide (x = y))) := b_eqlT
theorem b_neqTl {P : Program} {t : TypeId} {x y : List UInt8} : qBin P .neq t (.string (mkS x)) (.string ⟨y.toArray⟩) = some (.bool !(decide (x = y))) := b_neqT
attribute [simp] b_eqlT b_neqT b_eqlTl b_neqTl

theorem min2_int {k k' : IntKind} {x y : Int} : min2 (.int k x) (.int k' y) = some (.int k (min x y)) := by
  simp only [min2]; congr 2; split <;> omega
theorem max2_int {k k' : IntKind} {x y : Int} : max2 (.int k x) (.int k' y) = some (.int k (max x y)) := by
  simp only [max2]; congr 2; split <;> omega
attribute [simp] min2_int max2_int

theorem i8_wf (a : Int) : (Lit.int .i8 a).wf = true ↔ -128 ≤ a ∧ a ≤ 127 := by
  simp only [Lit.wf, Bool.and_eq_true, decide_eq_true_eq]
  have h1 : IntKind.i8.min = -128 := by decide
  have h2 : IntKind.i8.max = 127 := by decide
  rw [h1, h2]
theorem i64_wf (a : Int) : (Lit.int .i64 a).wf = true ↔ -9223372036854775808 ≤ a ∧ a ≤ 9223372036854775807 := by
  simp only [Lit.wf, Bool.and_eq_true, decide_eq_true_eq]
  have h1 : IntKind.i64.min = -9223372036854775808 := by decide
  have h2 : IntKind.i64.max = 9223372036854775807 := by decide
  rw [h1, h2]
theorem u64_wf (a : Int) : (Lit.int .u64 a).wf = true ↔ 0 ≤ a ∧ a ≤ 18446744073709551615 := by
  simp only [Lit.wf, Bool.and_eq_true, decide_eq_true_eq]
  have h1 : IntKind.u64.min = 0 := by decide
  have h2 : IntKind.u64.max = 18446744073709551615 := by decide
  rw [h1, h2]
theorem u32_wf (a : Int) : (Lit.int .u32 a).wf = true ↔ 0 ≤ a ∧ a ≤ 4294967295 := by
  simp only [Lit.wf, Bool.and_eq_true, decide_eq_true_eq]
  have h1 : IntKind.u32.min = 0 := by decide
  have h2 : IntKind.u32.max = 4294967295 := by decide
  rw [h1, h2]
end Go.Proofs.YtfpighmafofoeaaDoor.GL
