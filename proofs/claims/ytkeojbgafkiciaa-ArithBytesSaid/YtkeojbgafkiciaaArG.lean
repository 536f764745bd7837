/- Layer 1: the walk of ArithWidths. -/
import Derived.Test.YtkeojbgafkiciaaArF
namespace Go.Proofs.Ytkeojbgafkiciaa.GL
open Go Go.RowKit
set_option maxRecDepth 10000
set_option pp.deepTerms.threshold 8
set_option pp.maxSteps 3000
set_option linter.unusedSimpArgs false
set_option linter.unusedVariables false

theorem and_i64 (a : Int) (m : Nat) (h : m < 2 ^ 63) : 0 ≤ andK .i64 a (m : Int) ∧ andK .i64 a (m : Int) ≤ m := by
  unfold andK
  rw [BitVec.toNat_and, ofInt_nat .i64 m (by simp only [IntKind.bits]; omega)]
  have h2 : (BitVec.ofInt IntKind.i64.bits a).toNat &&& m ≤ m := Nat.and_le_right
  generalize (BitVec.ofInt IntKind.i64.bits a).toNat &&& m = q at h2
  rw [wr_i64 (by omega) (by omega)]
  omega
theorem shlK_in (a b : Int) : i64In (shlK .i64 a b) := wrap_i64_in _
theorem shrK_in (a b : Int) (h : i64In a) : i64In (shrK .i64 a b) := by
  unfold shrK
  have hp : (0 : Int) < 2 ^ (min b.toNat IntKind.i64.bits) := Int.pow_pos (by decide)
  generalize (2 : Int) ^ (min b.toNat IntKind.i64.bits) = M at hp
  rw [Int.fdiv_eq_ediv_of_nonneg _ (by omega)]
  unfold i64In at h ⊢
  constructor
  · exact Int.le_ediv_of_mul_le hp (by
      have : (-9223372036854775808 : Int) * M ≤ -9223372036854775808 * 1 := Int.mul_le_mul_of_nonpos_left (by omega) (by omega)
      omega)
  · have h1 : a / M ≤ 9223372036854775807 / M := Int.ediv_le_ediv hp h.2
    have h2 : (9223372036854775807 : Int) / M ≤ 9223372036854775807 := Int.ediv_le_self _ (by decide)
    omega

def widthKs (n : Int) : List Int := [n, andK .i64 n 63, andK .i64 n 7, 64, 0]
def widthXs (v n : Int) : List Int := [v, shrK .i64 v (andK .i64 n 63), shrK .i64 (IntKind.wrap .i64 (-v)) 40, shlK .i64 1 (andK .i64 n 63), shlK .i64 (-1) (andK .i64 n 63)]
theorem widthKs_in (n : Int) (h : i64In n) : ∀ x ∈ widthKs n, i64In x := by
  have h1 := and_i64 n 63 (by decide)
  have h2 := and_i64 n 7 (by decide)
  simp only [Int.cast_ofNat_Int] at h1 h2
  intro x hx
  simp only [widthKs, List.mem_cons, List.not_mem_nil, or_false] at hx
  unfold i64In at h ⊢
  rcases hx with rfl | rfl | rfl | rfl | rfl <;> omega
theorem widthXs_in (v n : Int) (h : i64In v) : ∀ x ∈ widthXs v n, i64In x := by
  intro x hx
  simp only [widthXs, List.mem_cons, List.not_mem_nil, or_false] at hx
  rcases hx with rfl | rfl | rfl | rfl | rfl
  · exact h
  · exact shrK_in _ _ h
  · exact shrK_in _ _ (wrap_i64_in _)
  · exact shlK_in _ _
  · exact shlK_in _ _

theorem row_i64 {H : Heap} {b : Nat} (xs : List Int) : SlA (upd H b (.row true 0 (xs.map i64V) 0)) (some ⟨b, 0, none⟩) xs.length 1 (xs.map i64V) :=
  SlA.row (upd_same _ _ _) (Nat.le_refl _) (by simp) (by simp) (by rw [Nat.sub_self, List.drop_zero, Nat.mul_one, List.take_of_length_le (by simp)])

theorem widths_c (v u w n : Int) (hv : i64In v) (hu : u64In u) (hn : i64In n) (H : Heap) :
    ECalls Try.prog 4 #[.int .i64 v, .int .u64 u, .int .u32 w, .int .i64 n] H fun r _ => r = .bool true := by
  refine ecalls_of_ewp (args := [_, _, _, _]) Try.func4 rfl rfl rfl (by simp [Try.ntmps4]) (by kernel_rfl) ?_
  simp (disch := first | omega | assumption | decide | (simp <;> omega) | fail) [facts, ]
  refine (known_c H).mono ?_
  rintro r H1 ⟨rfl, hle1⟩
  have hn' := hn
  unfold i64In at hn'
  have h63 := and_i64 n 63 (by decide)
  have h7 := and_i64 n 7 (by decide)
  simp only [Int.cast_ofNat_Int] at h63 h7
  simp (disch := first | omega | assumption | decide | (simp <;> omega) | fail) [facts, ]
  refine fresh_intro fun b hb => ?_
  simp (disch := first | omega | assumption | decide | (simp <;> omega) | fail) [facts, ]
  have hks : SlA (upd H1 b (.row true 0 ((widthKs n).map i64V) 0)) (some ⟨b, 0, none⟩) 5 1 ((widthKs n).map i64V) := row_i64 (widthKs n)
  obtain ⟨a, ha⟩ : ∃ a : Option Addr, a = some ⟨b, 0, none⟩ := ⟨_, rfl⟩
  rw [← ha] at hks
  refine w_loop (fun s => ∃ j : Nat, j ≤ 5 ∧ s.env 0 = .int .i64 v ∧ s.env 1 = .int .u64 u ∧ s.env 2 = .int .u32 w ∧ s.env 3 = .int .i64 n ∧ s.env 28 = .slice a 5 5 ∧ s.env 29 = .int .i64 5 ∧ s.env 30 = .int .i64 j ∧
    SlA s.heap a 5 1 ((widthKs n).map i64V)) (fun s => 5 - (intOf (s.env 30)).toNat) ?_ ?_
  · exact ⟨0, by decide, by simp, by simp, by simp, by simp, by simp [ha], by simp, by simp, hks⟩
  · rintro ⟨e, H2⟩ ⟨j, hj, e0, e1, e2, e3, e28, e29, e30, hk2⟩
    simp only at e0 e1 e2 e3 e28 e29 e30 hk2
    clear hks
    by_cases hlt : j < 5
    · obtain ⟨k, hk⟩ : ∃ k, (widthKs n)[j]? = some k := ⟨_, List.getElem?_eq_getElem (by simpa [widthKs] using hlt)⟩
      have hkin := widthKs_in n hn k (List.mem_of_getElem? hk)
      have hat := hk2.at hk
      rw [i64V_def] at hat
      have hp := hk2.plain
      have ht := hk2.there (by decide)
      have hlt' : (j : Int) < 5 := by omega
      simp (disch := first | omega | assumption | decide | (simp <;> omega) | fail) [facts, e0, e1, e2, e3, e28, e29, e30, hlt', hat]
      refine w_plan (P := Try.prog) (by simp [facts]) (opsP [0,1,2,3,4,5,6,7,8,9,10,11,12,13,16,14,15] .done) ?_ ?_
      · decide +kernel
      simp (disch := first | omega | assumption | decide | (simp <;> omega) | fail) [facts, e0, e1, e2, e3, e28, e29, e30]
      refine fresh_intro fun b2 hb2 => ?_
      simp (disch := first | omega | assumption | decide | (simp <;> omega) | fail) [facts, e0, e1, e2, e3, e28, e29, e30]
      have hle2 := le_upd (.row true 0 ((widthXs v n).map i64V) 0) hb2
      have hxs : SlA (upd H2 b2 (.row true 0 ((widthXs v n).map i64V) 0)) (some ⟨b2, 0, none⟩) 5 1 ((widthXs v n).map i64V) := row_i64 (widthXs v n)
      obtain ⟨a2, ha2⟩ : ∃ a : Option Addr, a = some ⟨b2, 0, none⟩ := ⟨_, rfl⟩
      rw [← ha2] at hxs
      have hk3 := hk2.le hle2
      refine w_loop (fun s => ∃ i : Nat, i ≤ 5 ∧ s.env 0 = .int .i64 v ∧ s.env 1 = .int .u64 u ∧ s.env 2 = .int .u32 w ∧ s.env 3 = .int .i64 n ∧ s.env 28 = .slice a 5 5 ∧ s.env 29 = .int .i64 5 ∧ s.env 30 = .int .i64 j ∧
        s.env 10 = .int .i64 k ∧ s.env 48 = .slice a2 5 5 ∧ s.env 49 = .int .i64 5 ∧ s.env 50 = .int .i64 i ∧ SlA s.heap a 5 1 ((widthKs n).map i64V) ∧ SlA s.heap a2 5 1 ((widthXs v n).map i64V)) (fun s => 5 - (intOf (s.env 50)).toNat) ?_ ?_
      · exact ⟨0, by decide, by simp [e0], by simp [e1], by simp [e2], by simp [e3], by simp [e28], by simp [e29], by simp [e30], by simp, by simp [ha2], by simp, by simp, hk3, hxs⟩
      · clear hxs hk3 hk2 hat hle2
        rintro ⟨e', H3⟩ ⟨i, hi, f0, f1, f2, f3, f28, f29, f30, f10, f48, f49, f50, hk3, hx3⟩
        simp only at f0 f1 f2 f3 f28 f29 f30 f10 f48 f49 f50 hk3 hx3
        by_cases hil : i < 5
        · obtain ⟨x, hx⟩ : ∃ x, (widthXs v n)[i]? = some x := ⟨_, List.getElem?_eq_getElem (by simpa [widthXs] using hil)⟩
          have hxin := widthXs_in v n hv x (List.mem_of_getElem? hx)
          have hat := hx3.at hx
          rw [i64V_def] at hat
          have hp2 := hx3.plain
          have ht2 := hx3.there (by decide)
          have hil' : (i : Int) < 5 := by omega
          simp (disch := first | omega | assumption | decide | (simp <;> omega) | fail) [facts, f0, f1, f2, f3, f28, f29, f30, f10, f48, f49, f50, hil', hat]
          refine (narrow_c _ _ _ hxin hkin).mono ?_
          rintro r H4 ⟨rfl, rfl⟩
          obtain ⟨y1, y2, hy⟩ : ∃ (y1 : Int) (y2 : Bool), narrowZ x k = .tuple #[.int .i64 y1, .bool y2] := by unfold narrowZ; split <;> exact ⟨_, _, rfl⟩
          rw [hy]
          simp (disch := first | omega | assumption | decide | (simp <;> omega) | fail) [facts, f0, f1, f2, f3, f28, f29, f30, f10, f48, f49, f50]
          refine (narrowR_c _ _ _ hxin hkin).mono ?_
          rintro r H5 ⟨rfl, rfl⟩
          rw [hy]
          simp (disch := first | omega | assumption | decide | (simp <;> omega) | fail) [facts, f0, f1, f2, f3, f28, f29, f30, f10, f48, f49, f50]
          refine (unsigned_c _ _ _ hxin hkin).mono ?_
          rintro r H6 ⟨rfl, rfl⟩
          obtain ⟨z1, z2, hz⟩ : ∃ (y1 : Int) (y2 : Bool), unsignedZ x k = .tuple #[.int .u64 y1, .bool y2] := by unfold unsignedZ; split <;> exact ⟨_, _, rfl⟩
          rw [hz]
          simp (disch := first | omega | assumption | decide | (simp <;> omega) | fail) [facts, f0, f1, f2, f3, f28, f29, f30, f10, f48, f49, f50]
          refine (unsignedR_c _ _ _ hxin hkin).mono ?_
          rintro r H7 ⟨rfl, rfl⟩
          rw [hz]
          simp (disch := first | omega | assumption | decide | (simp <;> omega) | fail) [facts, f0, f1, f2, f3, f28, f29, f30, f10, f48, f49, f50]
          refine (wrap_c _ _ _ hxin hkin).mono ?_
          rintro r H8 ⟨rfl, rfl⟩
          simp (disch := first | omega | assumption | decide | (simp <;> omega) | fail) [facts, f0, f1, f2, f3, f28, f29, f30, f10, f48, f49, f50]
          refine (wrapR_c _ _ _ hxin hkin).mono ?_
          rintro r H9 ⟨rfl, rfl⟩
          simp (disch := first | omega | assumption | decide | (simp <;> omega) | fail) [facts, f0, f1, f2, f3, f28, f29, f30, f10, f48, f49, f50]
          exact ⟨_, Heap.le_refl _, ⟨i + 1, by omega, by simp [f0], by simp [f1], by simp [f2], by simp [f3], by simp [f28], by simp [f29], by simp [f30], by simp [f10], by simp [f48], by simp [f49], by simp, hk3, hx3⟩, by simp [intOf, f50]; omega⟩
        · have hil' : ¬ (i : Int) < 5 := by omega
          simp (disch := first | omega | assumption | decide | (simp <;> omega) | fail) [facts, f0, f1, f2, f3, f28, f29, f30, f10, f48, f49, f50, hil']
          refine (low_c _ _ _ hu hkin).mono ?_
          rintro r H4 ⟨rfl, rfl⟩
          simp (disch := first | omega | assumption | decide | (simp <;> omega) | fail) [facts, f0, f1, f2, f3, f28, f29, f30, f10, f48, f49, f50]
          refine (lowR_c _ _ _ hu hkin).mono ?_
          rintro r H5 ⟨rfl, rfl⟩
          simp (disch := first | omega | assumption | decide | (simp <;> omega) | fail) [facts, f0, f1, f2, f3, f28, f29, f30, f10, f48, f49, f50]
          refine (rot_c _ _ _ hkin).mono ?_
          rintro r H6 ⟨rfl, rfl⟩
          simp (disch := first | omega | assumption | decide | (simp <;> omega) | fail) [facts, f0, f1, f2, f3, f28, f29, f30, f10, f48, f49, f50]
          refine (rotR_c _ _ _ hkin).mono ?_
          rintro r H7 ⟨rfl, rfl⟩
          simp (disch := first | omega | assumption | decide | (simp <;> omega) | fail) [facts, f0, f1, f2, f3, f28, f29, f30, f10, f48, f49, f50]
          exact ⟨_, Heap.le_refl _, ⟨j + 1, by omega, by simp [f0], by simp [f1], by simp [f2], by simp [f3], by simp [f28], by simp [f29], by simp, hk3⟩, by simp [intOf, e30]; omega⟩
    · have hj5 : j = 5 := by omega
      have hlt' : ¬ (j : Int) < 5 := by omega
      simp (disch := first | omega | assumption | decide | (simp <;> omega) | fail) [facts, e0, e1, e2, e3, e28, e29, e30, hlt']
      exact ⟨_, Heap.le_refl _⟩
end Go.Proofs.Ytkeojbgafkiciaa.GL
