/- Layer 23: sums (layer 2's contracts, turned). -/
import Derived.Test.YtfpighmafofoeaaDoorGlL
import Derived.Test.YtfpighmafofoeaaDoorGlT
import Derived.Laws.Externs
namespace Go.Proofs.YtfpighmafofoeaaDoor.GL.Su
open Go Go.RowKit
set_option maxRecDepth 10000
set_option pp.deepTerms.threshold 8
set_option pp.maxSteps 3000
set_option linter.unusedSimpArgs false
set_option linter.unusedVariables false

def i64In (v : Int) : Prop := -9223372036854775808 ≤ v ∧ v ≤ 9223372036854775807
instance (v : Int) : Decidable (i64In v) := inferInstanceAs (Decidable (_ ∧ _))
/-- A sum or product, if it fits. -/
def totV (S : Int) : Value := if i64In S then .tuple #[.int .i64 S, .bool true] else .tuple #[.int .i64 0, .bool false]

theorem wrapU (x : Int) : IntKind.wrap .u64 x = x % 18446744073709551616 := by simp [IntKind.wrap, IntKind.bits, IntKind.signed]
theorem shr63 (v : Int) (h : i64In v) : shrK .i64 v 63 = if v < 0 then -1 else 0 := by
  unfold shrK i64In at *
  have e : min (Int.toNat 63) IntKind.i64.bits = 63 := by decide
  rw [e, Int.fdiv_eq_ediv_of_nonneg _ (by decide)]
  split <;> omega

/-- The halves of a sum. -/
def loT (T : Int) : Int := T % 18446744073709551616
def hiT (T : Int) : Int := (T / 18446744073709551616) % 18446744073709551616
theorem lo_step (T v : Int) (h : i64In v) : (loT T + IntKind.wrap .u64 v + 0) % 18446744073709551616 = loT (T + v) := by
  unfold loT; rw [wrapU]; omega
theorem hi_step (T v : Int) (h : i64In v) : IntKind.wrap .u64 (hiT T + IntKind.wrap .u64 (IntKind.wrap .u64 (shrK .i64 v 63) + (loT T + IntKind.wrap .u64 v + 0) / 18446744073709551616)) = hiT (T + v) := by
  rw [shr63 v h]; unfold loT hiT i64In at *; simp only [wrapU]; split <;> omega
def midIn (T : Int) : Prop := -170141183460469231731687303715884105728 ≤ T ∧ T < 170141183460469231731687303715884105728
theorem tot_end (T : Int) (h : midIn T) : (¬ IntKind.wrap .i64 (hiT T) = shrK .i64 (IntKind.wrap .i64 (loT T)) 63) ↔ ¬ i64In T := by
  have hw : i64In (IntKind.wrap .i64 (loT T)) := by rw [IntKind.wrap_i64]; unfold i64In; omega
  rw [shr63 _ hw, IntKind.wrap_i64, IntKind.wrap_i64]
  unfold loT hiT i64In midIn at *
  split <;> omega
theorem tot_val (T : Int) (h : i64In T) : IntKind.wrap .i64 (loT T) = T := by
  rw [IntKind.wrap_i64]; unfold loT i64In at *; omega

theorem sum_in : ∀ (l : List Int), (∀ z ∈ l, i64In z) → -(9223372036854775808 * (l.length : Int)) ≤ l.sum ∧ l.sum ≤ 9223372036854775808 * (l.length : Int)
  | [], _ => by simp
  | x :: r, h => by
    have h1 := sum_in r (fun z hz => h z (by simp [hz]))
    have h2 := h x (by simp)
    unfold i64In at h2
    simp only [List.sum_cons, List.length_cons, Int.natCast_add, Int.natCast_one]
    omega
theorem sum_mid (l : List Int) (h : ∀ z ∈ l, i64In z) (hn : l.length ≤ 140737488355328) : midIn l.sum := by
  have := sum_in l h
  unfold midIn
  omega
theorem sum_take_succ (l : List Int) (k : Nat) (x : Int) (h : l[k]? = some x) : (l.take (k + 1)).sum = (l.take k).sum + x := by
  rw [take_snoc h, List.sum_append]; simp

/-- A number's size. -/
theorem size_neg (v : Int) (h : i64In v) (hn : v < 0) : IntKind.wrap .u64 (-(IntKind.wrap .u64 v)) = -v := by
  simp only [wrapU]; unfold i64In at h; omega
theorem size_pos (v : Int) (h : i64In v) (hn : ¬ v < 0) : IntKind.wrap .u64 v = v := by
  simp only [wrapU]; unfold i64In at h; omega

theorem shrK_in (a b : Int) (h : i64In a) : i64In (shrK .i64 a b) := by
  unfold shrK
  have hp : (0 : Int) < 2 ^ (min b.toNat IntKind.i64.bits) := Int.pow_pos (by decide)
  generalize (2 : Int) ^ (min b.toNat IntKind.i64.bits) = M at hp
  rw [Int.fdiv_eq_ediv_of_nonneg _ (by omega)]
  unfold i64In at h ⊢
  constructor
  · exact Int.le_ediv_of_mul_le hp (by
      have : (-9223372036854775808 : Int) * M ≤ -9223372036854775808 * 1 := Int.mul_le_mul_of_nonpos_left (by omega) (by omega)
      omega)
  · by_cases h0 : 0 ≤ a
    · exact Int.le_trans (Int.ediv_le_self _ h0) h.2
    · have := Int.ediv_neg_of_neg_of_pos (show a < 0 by omega) hp
      omega
theorem andK_small (v : Int) (m : Nat) (hm : m ≤ 100) : 0 ≤ andK .i64 v m ∧ andK .i64 v m ≤ m := by
  unfold andK
  have e : (BitVec.ofInt IntKind.i64.bits (m : Int)).toNat = m := ofInt_nat .i64 m (by simp only [IntKind.bits]; omega)
  have h : (BitVec.ofInt IntKind.i64.bits v &&& BitVec.ofInt IntKind.i64.bits (m : Int)).toNat ≤ m := by
    rw [BitVec.toNat_and, e]; exact Nat.and_le_right
  rw [wr_i64 (by omega) (by omega)]
  omega

/-- 'near'. -/
def nearZ (v : Int) (k : Nat) : Int :=
  if k % 6 = 0 then v else if k % 6 = 1 then 9223372036854775807 - andK .i64 v 7 else if k % 6 = 2 then -9223372036854775808 + andK .i64 v 7 else if k % 6 = 3 then shrK .i64 v 32
  else if k % 6 = 4 then andK .i64 v 15 else -(andK .i64 v 15)
theorem nearZ_in (v : Int) (k : Nat) (h : i64In v) : i64In (nearZ v k) := by
  have h1 := andK_small v 7 (by decide)
  have h2 := andK_small v 15 (by decide)
  have h3 := shrK_in v 32 h
  unfold nearZ
  unfold i64In at *
  simp only [Int.cast_ofNat_Int] at h1 h2
  repeat' split
  all_goals first | assumption | omega

theorem le_updN {H H1 : Heap} {b : Nat} (o : GObj) (hl : Heap.le H H1) (hb : H b = none) : Heap.le H (upd H1 b o) := fun i p e => by
  rw [upd_ne _ _ (ne_of_fresh hb e)]; exact hl i p e
end Go.Proofs.YtfpighmafofoeaaDoor.GL.Su
namespace Go.Proofs.YtfpighmafofoeaaDoor.GL.Su
open Go Go.RowKit
set_option maxRecDepth 10000
set_option pp.deepTerms.threshold 8
set_option pp.maxSteps 3000
set_option linter.unusedSimpArgs false
set_option linter.unusedVariables false

theorem add64_x {K : Kont} {H : Heap} {x y : Int} (hx : 0 ≤ x) (hy : 0 ≤ y) (hk : K (.tuple #[.int .u64 ((x + y) % 18446744073709551616), .int .u64 ((x + y) / 18446744073709551616)]) H) :
    eExt Tryd.prog 31 #[.int .u64 x, .int .u64 y, .int .u64 0] H K := by
  refine ext_intro (fun w => ?_) hk
  rw [run_callFunc_extern Tryd.func31 (by kernel_rfl) (by kernel_rfl) (by kernel_rfl) (e := add64Entry) (by kernel_rfl), run_add64 x y 0 hx hy (by decide) (by decide)]
  simp [Result.andThen]

theorem total_c (a : Option Addr) (n c : Nat) (zs : List Int) (H : Heap) (h : SlA H a n 1 (zs.map i64V)) (hz : ∀ z ∈ zs, i64In z) (hn : n ≤ 140737488351232) :
    ECalls Tryd.prog 19 #[.slice a n c] H fun r H' => r = totV zs.sum ∧ H' = H := by
  refine ecalls_of_ewp (args := [_]) Tryd.func19 rfl rfl rfl (by simp [Tryd.ntmps19]) (by kernel_rfl) ?_
  have hl : zs.length = n := by simpa using h.len
  simp (disch := first | omega | assumption | decide | (simp <;> omega) | fail) [facts, ]
  refine w_loop (fun s => ∃ k : Nat, k ≤ n ∧ s.env 10 = .slice a n c ∧ s.env 11 = .int .i64 n ∧ s.env 12 = .int .i64 k ∧ s.env 4 = .int .u64 (hiT (zs.take k).sum) ∧ s.env 5 = .int .u64 (loT (zs.take k).sum) ∧ s.heap = H) (fun s => n - (intOf (s.env 12)).toNat) ?_ ?_
  · exact ⟨0, Nat.zero_le _, by simp, by simp, by simp, by simp [hiT], by simp [loT], rfl⟩
  · rintro ⟨e, H1⟩ ⟨k, hk, e10, e11, e12, e4, e5, hH⟩
    simp only at e10 e11 e12 e4 e5 hH
    subst hH
    by_cases hlt : k < n
    · obtain ⟨x, hx⟩ : ∃ x, zs[k]? = some x := ⟨_, List.getElem?_eq_getElem (by omega)⟩
      have gx := h.at hx
      rw [i64V_def] at gx
      have px := h.plain
      have tx := h.there (by omega)
      have hxin : i64In x := hz x (List.mem_of_getElem? hx)
      have hst := sum_take_succ zs k x hx
      have h1 := lo_step (zs.take k).sum x hxin
      have h2 := hi_step (zs.take k).sum x hxin
      rw [← hst] at h1 h2
      have hlo : 0 ≤ loT (zs.take k).sum := by unfold loT; omega
      have hux : 0 ≤ IntKind.wrap .u64 x := by rw [wrapU]; omega
      obtain ⟨u, hu⟩ : ∃ u, IntKind.wrap .u64 x = u := ⟨_, rfl⟩
      obtain ⟨w, hw⟩ : ∃ w, IntKind.wrap .u64 (shrK .i64 x 63) = w := ⟨_, rfl⟩
      rw [hu, Int.add_zero] at h1
      rw [hu, hw, Int.add_zero] at h2
      rw [hu] at hux
      simp (disch := first | omega | assumption | decide | (simp <;> omega) | fail) [facts, e10, e11, e12, e4, e5, hlt, gx, hu]
      refine add64_x hlo hux ?_
      generalize (loT (zs.take k).sum + u) / 18446744073709551616 = cy at h2
      rw [h1]
      obtain ⟨y, hy⟩ : ∃ y, IntKind.wrap .u64 (w + cy) = y := ⟨_, rfl⟩
      rw [hy] at h2
      simp (disch := first | omega | assumption | decide | (simp <;> omega) | fail) [facts, e10, e11, e12, e4, e5, hw, hy, h2]
      exact ⟨_, Heap.le_refl _, ⟨k + 1, by omega, by simp [e10], by simp [e11], by simp, by simp, by simp, rfl⟩, by simp [intOf, e12]; omega⟩
    · have hkn : k = n := by omega
      subst hkn
      rw [List.take_of_length_le (by omega)] at e4 e5
      have hmid := sum_mid zs hz (by omega)
      have hend := tot_end _ hmid
      by_cases hin : i64In zs.sum
      · have hv := tot_val _ hin
        have hne : IntKind.wrap .i64 (hiT zs.sum) = shrK .i64 zs.sum 63 := by
          have := fun hc => hend.1 hc hin
          rw [hv] at this
          exact Classical.not_not.1 this
        simp (disch := first | omega | assumption | decide | (simp <;> omega) | fail) [facts, e10, e11, e12, e4, e5, hlt, hv, hne, totV, hin]
      · have hne := hend.2 hin
        simp (disch := first | omega | assumption | decide | (simp <;> omega) | fail) [facts, e10, e11, e12, e4, e5, hlt, hne, totV, hin]
end Go.Proofs.YtfpighmafofoeaaDoor.GL.Su
namespace Go.Proofs.YtfpighmafofoeaaDoor.GL.Su
open Go Go.RowKit
set_option maxRecDepth 10000
set_option pp.deepTerms.threshold 8
set_option pp.maxSteps 3000
set_option linter.unusedSimpArgs false
set_option linter.unusedVariables false

theorem hi_mid (T : Int) (h : midIn T) : i64In (T / 18446744073709551616) := by unfold midIn at h; unfold i64In; omega
theorem wadd_c (T v : Int) (H : Heap) (hv : i64In v) (hT : midIn T) (hTv : midIn (T + v)) :
    ECalls Tryd.prog 32 #[.agg #[.int .i64 (T / 18446744073709551616), .int .u64 (loT T)], .int .i64 v] H fun r H' => r = .agg #[.int .i64 ((T + v) / 18446744073709551616), .int .u64 (loT (T + v))] ∧ Heap.le H H' := by
  refine ecalls_of_ewp (args := [_, _]) Tryd.func32 rfl rfl rfl (by simp [Tryd.ntmps32]) (by kernel_rfl) ?_
  have h1 := lo_step T v hv
  rw [Int.add_zero] at h1
  have hlo : 0 ≤ loT T := by unfold loT; omega
  have hux : 0 ≤ IntKind.wrap .u64 v := by rw [wrapU]; omega
  have hhi : IntKind.wrap .i64 (IntKind.wrap .i64 (T / 18446744073709551616 + shrK .i64 v 63) + IntKind.wrap .i64 ((loT T + IntKind.wrap .u64 v) / 18446744073709551616)) = (T + v) / 18446744073709551616 := by
    rw [shr63 v hv]
    unfold loT i64In midIn at *
    simp only [wrapU, IntKind.wrap_i64]
    split <;> omega
  obtain ⟨u, hu⟩ : ∃ u, IntKind.wrap .u64 v = u := ⟨_, rfl⟩
  obtain ⟨w, hw⟩ : ∃ w, IntKind.wrap .i64 (T / 18446744073709551616 + shrK .i64 v 63) = w := ⟨_, rfl⟩
  rw [hu] at h1 hux
  rw [hu, hw] at hhi
  simp (disch := first | omega | assumption | decide | (simp <;> omega) | fail) [facts, ]
  refine fresh_intro fun b hb => ?_
  simp (disch := first | omega | assumption | decide | (simp <;> omega) | fail) [facts, ]
  refine fresh_intro fun b2 hb2 => ?_
  have hbb : b ≠ b2 := ne_of_fresh hb2 (upd_same _ _ _)
  have hl2 : upd (upd H b (.row true 0 [.int .i64 (T / 18446744073709551616), .int .u64 (loT T)] 0)) b2 (.row true 0 [.int .i64 0, .int .u64 0] 0) b = some (.row true 0 [.int .i64 (T / 18446744073709551616), .int .u64 (loT T)] 0) := by rw [upd_ne _ _ hbb, upd_same]
  simp (disch := first | omega | assumption | decide | (simp <;> omega) | fail) [facts, hl2, hu]
  refine add64_x hlo hux ?_
  generalize (loT T + u) / 18446744073709551616 = cy at hhi
  rw [h1]
  simp (disch := first | omega | assumption | decide | (simp <;> omega) | fail) [facts, hl2, hu, hw]
  obtain ⟨c1, hc1⟩ : ∃ c, IntKind.wrap .i64 cy = c := ⟨_, rfl⟩
  rw [hc1] at hhi
  simp (disch := first | omega | assumption | decide | (simp <;> omega) | fail) [facts, hl2, hu, hw, hc1, hhi]
  exact ⟨_, Heap.le_refl _, le_updN _ (Heap.le_trans (le_upd _ hb) (le_upd _ hb2)) (le_of_none (le_upd _ hb) hb2)⟩
theorem wnarrow_c (T : Int) (H : Heap) (hT : midIn T) :
    ECalls Tryd.prog 33 #[.agg #[.int .i64 (T / 18446744073709551616), .int .u64 (loT T)]] H fun r H' => r = totV T ∧ Heap.le H H' := by
  refine ecalls_of_ewp (args := [_]) Tryd.func33 rfl rfl rfl (by simp [Tryd.ntmps33]) (by kernel_rfl) ?_
  have hend : (T / 18446744073709551616 = shrK .i64 (IntKind.wrap .i64 (loT T)) 63) ↔ i64In T := by
    have hw : i64In (IntKind.wrap .i64 (loT T)) := by rw [IntKind.wrap_i64]; unfold i64In; omega
    rw [shr63 _ hw, IntKind.wrap_i64]
    unfold loT i64In midIn at *
    split <;> omega
  simp (disch := first | omega | assumption | decide | (simp <;> omega) | fail) [facts, ]
  refine fresh_intro fun b hb => ?_
  by_cases hin : i64In T
  · have hv := tot_val _ hin
    have hne := hend.2 hin
    rw [hv] at hne
    simp (disch := first | omega | assumption | decide | (simp <;> omega) | fail) [facts, hv, hne, totV, hin]
    exact ⟨_, Heap.le_refl _, le_upd _ hb⟩
  · have hne : ¬ T / 18446744073709551616 = shrK .i64 (IntKind.wrap .i64 (loT T)) 63 := fun h => hin (hend.1 h)
    simp (disch := first | omega | assumption | decide | (simp <;> omega) | fail) [facts, hne, totV, hin]
    exact ⟨_, Heap.le_refl _, le_upd _ hb⟩

theorem totalR_c (a : Option Addr) (n c : Nat) (zs : List Int) (H : Heap) (h : SlA H a n 1 (zs.map i64V)) (hz : ∀ z ∈ zs, i64In z) (hn : n ≤ 140737488351232) :
    ECalls Tryd.prog 20 #[.slice a n c] H fun r H' => r = totV zs.sum ∧ Heap.le H H' := by
  refine ecalls_of_ewp (args := [_]) Tryd.func20 rfl rfl rfl (by simp [Tryd.ntmps20]) (by kernel_rfl) ?_
  have hl : zs.length = n := by simpa using h.len
  have hmid : ∀ k, midIn (zs.take k).sum := fun k => sum_mid _ (fun z hz' => hz z (List.mem_of_mem_take hz')) (by rw [List.length_take]; omega)
  simp (disch := first | omega | assumption | decide | (simp <;> omega) | fail) [facts, ]
  refine fresh_intro fun b hb => ?_
  simp (disch := first | omega | assumption | decide | (simp <;> omega) | fail) [facts, upd_upd]
  refine w_loop (fun s => ∃ k : Nat, k ≤ n ∧ s.env 0 = .slice a n c ∧ s.env 4 = .pointer (some ⟨b, 0, none⟩) ∧ s.env 5 = .int .i64 k ∧ Heap.le H s.heap ∧ s.heap b = some (.row true 0 [.int .i64 ((zs.take k).sum / 18446744073709551616), .int .u64 (loT (zs.take k).sum)] 0)) (fun s => n - (intOf (s.env 5)).toNat) ?_ ?_
  · exact ⟨0, Nat.zero_le _, by simp, by simp, by simp, by simpa using le_upd _ hb, by simp [loT]⟩
  · rintro ⟨e, H1⟩ ⟨k, hk, e0, e4, e5, hle, hbl⟩
    simp only at e0 e4 e5 hle hbl
    by_cases hlt : k < n
    · obtain ⟨x, hx⟩ : ∃ x, zs[k]? = some x := ⟨_, List.getElem?_eq_getElem (by omega)⟩
      have gx := (h.le hle).at hx
      rw [i64V_def] at gx
      have px := h.plain
      have tx := h.there (by omega)
      have hxin : i64In x := hz x (List.mem_of_getElem? hx)
      have hst := sum_take_succ zs k x hx
      have hm1 := hmid k
      have hm2 := hmid (k + 1)
      rw [hst] at hm2
      simp (disch := first | omega | assumption | decide | (simp <;> omega) | fail) [facts, e0, e4, e5, hlt]
      refine w_plan (P := Tryd.prog) (by simp [facts]) (opsP [0,1,2,3,4,5,6] .done) ?_ ?_
      · decide +kernel
      simp (disch := first | omega | assumption | decide | (simp <;> omega) | fail) [facts, e0, e4, e5, hlt, gx, hbl]
      refine (wadd_c _ x _ hxin hm1 hm2).mono ?_
      rintro r H2 ⟨rfl, hle2⟩
      have hbl2 := hle2 _ _ hbl
      simp (disch := first | omega | assumption | decide | (simp <;> omega) | fail) [facts, e0, e4, e5, hlt, hbl2]
      exact ⟨_, Heap.le_refl _, ⟨k + 1, by omega, by simp [e0], by simp [e4], by simp, by simpa using le_updN _ (Heap.le_trans hle hle2) hb, by simp [hst]⟩, by simp [intOf, e5]; omega⟩
    · have hkn : k = n := by omega
      subst hkn
      rw [List.take_of_length_le (by omega)] at hbl
      simp (disch := first | omega | assumption | decide | (simp <;> omega) | fail) [facts, e0, e4, e5, hlt, hbl]
      have hm := hmid k
      rw [List.take_of_length_le (by omega)] at hm
      refine (wnarrow_c _ _ hm).mono ?_
      rintro r H2 ⟨rfl, hle2⟩
      by_cases hin : i64In zs.sum
      · simp (disch := first | omega | assumption | decide | (simp <;> omega) | fail) [facts, totV, hin]
        exact ⟨_, Heap.le_refl _, Heap.le_trans hle hle2⟩
      · simp (disch := first | omega | assumption | decide | (simp <;> omega) | fail) [facts, totV, hin]
        exact ⟨_, Heap.le_refl _, Heap.le_trans hle hle2⟩

end Go.Proofs.YtfpighmafofoeaaDoor.GL.Su
namespace Go.Proofs.YtfpighmafofoeaaDoor.GL.Su
open Go Go.RowKit
set_option maxRecDepth 10000
set_option pp.deepTerms.threshold 8
set_option pp.maxSteps 3000
set_option linter.unusedSimpArgs false
set_option linter.unusedVariables false

theorem and32 (x : Nat) (h : x < 18446744073709551616) : andK .u64 (x : Int) 4294967295 = ((x % 4294967296 : Nat) : Int) := by
  have := andK_nat .u64 x 4294967295 (by simp only [IntKind.bits]; omega) (by decide) rfl
  rw [show (4294967295 : Int) = ((4294967295 : Nat) : Int) from rfl, this]
  congr 1
  exact Nat.and_two_pow_sub_one_eq_mod x 32
theorem shr32 (x : Nat) : shrK .u64 (x : Int) 32 = ((x / 4294967296 : Nat) : Int) := shrK_nat _ _ _ (by decide)

theorem totV_no {S : Int} (h : ¬ i64In S) : totV S = .tuple #[.int .i64 0, .bool false] := if_neg h
theorem totV_yes {S : Int} (h : i64In S) : totV S = .tuple #[.int .i64 S, .bool true] := if_pos h
theorem nat_mul (a b : Int) : ((a.natAbs * b.natAbs : Nat) : Int) = if (a < 0 ↔ b < 0) then a * b else -(a * b) := by
  rw [← Int.natAbs_mul]
  by_cases ha : a < 0 <;> by_cases hb : b < 0 <;> simp only [ha, hb]
  · have := Int.mul_pos_of_neg_of_neg ha hb; simp; omega
  · have := Int.mul_nonpos_of_nonpos_of_nonneg (Int.le_of_lt ha) (Int.not_lt.1 hb); simp; omega
  · have := Int.mul_nonpos_of_nonneg_of_nonpos (Int.not_lt.1 ha) (Int.le_of_lt hb); simp; omega
  · have := Int.mul_nonneg (Int.not_lt.1 ha) (Int.not_lt.1 hb); simp; omega

theorem row_i64 {H : Heap} {b : Nat} (xs : List Int) : SlA (upd H b (.row true 0 (xs.map i64V) 0)) (some ⟨b, 0, none⟩) xs.length 1 (xs.map i64V) :=
  SlA.row (upd_same _ _ _) (Nat.le_refl _) (by simp) (by simp) (by rw [Nat.sub_self, List.drop_zero, Nat.mul_one, List.take_of_length_le (by simp)])
theorem sub_c (a b : Int) (H : Heap) (ha : i64In a) (hb : i64In b) :
    ECalls Tryd.prog 29 #[.int .i64 a, .int .i64 b] H fun r H' => r = totV (a - b) ∧ H' = H := by
  refine ecalls_of_ewp (args := [_, _]) Tryd.func29 rfl rfl rfl (by simp [Tryd.ntmps29]) (by kernel_rfl) ?_
  obtain ⟨w, hw⟩ : ∃ w, IntKind.wrap .i64 (a - b) = w := ⟨_, rfl⟩
  have hw2 := hw
  rw [IntKind.wrap_i64] at hw2
  unfold i64In at ha hb
  by_cases hin : i64In (a - b)
  · rw [totV_yes hin]
    unfold i64In at hin
    have hwr : w = a - b := by omega
    by_cases h1 : a < b
    · simp (disch := first | omega | assumption | decide | (simp <;> omega) | fail) [facts, h1, show a - b < 0 by omega]
    · simp (disch := first | omega | assumption | decide | (simp <;> omega) | fail) [facts, h1, show ¬ a - b < 0 by omega]
  · rw [totV_no hin]
    unfold i64In at hin
    by_cases h1 : a < b
    · simp (disch := first | omega | assumption | decide | (simp <;> omega) | fail) [facts, h1, hw, show ¬ w < 0 by omega]
    · simp (disch := first | omega | assumption | decide | (simp <;> omega) | fail) [facts, h1, hw, show w < 0 by omega]
end Go.Proofs.YtfpighmafofoeaaDoor.GL.Su
