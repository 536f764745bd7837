/- Layer 21: the sum of all accounts, in whatever order they are walked. -/
import Derived.Test.YtdeffhibolcebaaLeB
namespace Go.Proofs.Ytdeffhibolcebaa.GL
open Go Go.RowKit Go.MapKept
set_option maxRecDepth 10000
set_option pp.deepTerms.threshold 8
set_option pp.maxSteps 3000
set_option linter.unusedSimpArgs false
set_option linter.unusedVariables false

theorem perm_sum {l l' : List Int} (h : l.Perm l') : l.sum = l'.sum := by
  induction h with
  | nil => rfl
  | cons x _ ih => simp [ih]
  | swap x y l => simp; omega
  | trans _ _ a b => exact a.trans b
/-- Distinct places: with those that are not among them, all. -/
theorem places {n : Nat} {l : List Nat} (hn : l.Nodup) (hl : ∀ i ∈ l, i < n) : (l ++ (List.range n).filter fun i => decide (i ∉ l)).Perm (List.range n) := by
  refine (List.perm_ext_iff_of_nodup ?_ List.nodup_range).2 fun a => ?_
  · refine List.nodup_append.2 ⟨hn, List.nodup_range.filter _, fun a ha b hb => ?_⟩
    have := (List.mem_filter.1 hb).2
    intro e; subst e
    simp [ha] at this
  · simp only [List.mem_append, List.mem_filter, List.mem_range, decide_eq_true_eq]
    constructor
    · rintro (h | h)
      · exact hl a h
      · exact h.1
    · intro h
      by_cases ha : a ∈ l
      · exact .inl ha
      · exact .inr ⟨h, ha⟩
theorem places_len {n : Nat} {l : List Nat} (hn : l.Nodup) (hl : ∀ i ∈ l, i < n) : l.length ≤ n := by
  have := (places hn hl).length_eq
  simp at this; omega
def vF (F : List Acc) (i : Nat) : Int := ((F[i]?).map (·.2)).getD 0
def sumF (F : List Acc) : Int := (F.map (·.2)).sum
theorem sum_all {F : List Acc} {l : List Nat} (hn : l.Nodup) (hl : ∀ i ∈ l, i < F.length) (ha : ∀ i, i < F.length → i ∈ l) : (l.map (vF F)).sum = sumF F := by
  have hp : l.Perm (List.range F.length) := (List.perm_ext_iff_of_nodup hn List.nodup_range).2 fun a => ⟨fun h => List.mem_range.2 (hl a h), fun h => ha a (List.mem_range.1 h)⟩
  rw [perm_sum (hp.map (vF F))]
  unfold sumF
  congr 1
  refine List.ext_getElem (by simp) fun i h1 h2 => ?_
  simp at h1
  simp [vF, h1]
theorem sum_bound {F : List Acc} {B : Int} (hB : 0 ≤ B) (hv : ∀ x ∈ F, 0 ≤ x.2 ∧ x.2 ≤ B) : ∀ l : List Nat, 0 ≤ (l.map (vF F)).sum ∧ (l.map (vF F)).sum ≤ l.length * B
  | [] => by simp
  | i :: l => by
    have ih := sum_bound hB hv l
    have : 0 ≤ vF F i ∧ vF F i ≤ B := by
      unfold vF
      cases h : F[i]? with
      | none => simpa using hB
      | some x => simpa using hv x (List.mem_of_getElem? h)
    simp only [List.map_cons, List.sum_cons, List.length_cons]
    have e : ((l.length + 1 : Nat) : Int) * B = l.length * B + B := by rw [Int.natCast_add, Int.add_mul]; simp
    omega

def totInv (H : Heap) (fm b : Nat) (F : List Acc) (st : St) : Prop :=
  ∃ seen : List Nat, st.env 10 = .pointer (some ⟨b, 0, none⟩) ∧ st.env 3 = .int .i64 ((seen.map (vF F)).sum) ∧ seen.Nodup ∧ (∀ i ∈ seen, i < F.length) ∧ st.heap = upd H b (.iter fm F.length seen F.length)
def totMs (b n : Nat) (st : St) : Nat := match st.heap b with | some (.iter _ _ seen _) => n - seen.length | _ => 0
section
variable {H R : Heap} {p : Nat} {F : List Acc} {L : List LE} {fm lm : Nat}
theorem total_c (hR : Heap.le R H) (h : Led R p F L fm lm) (hn : F.length ≤ 64) (hv : ∀ x ∈ F, 0 ≤ x.2 ∧ x.2 ≤ 10000000000000) : ECalls Try.prog 17 #[.pointer (some ⟨p, 0, none⟩)] H fun v H' => v = .int .i64 (sumF F) ∧ Heap.le H H' := by
  refine ecalls_of_ewp (args := [_]) Try.func17 rfl rfl rfl (by simp [Try.ntmps17]) (by kernel_rfl) ?_
  have hp := hR _ _ h.row
  have hf := hR _ _ h.fs
  have hrange : ∀ (K : Kont), (∀ b, H b = none → K (.pointer (some ⟨b, 0, none⟩)) (upd H b (.iter fm F.length [] F.length))) → eRange Try.prog 53 (.map (some fm)) H K := fun K hK => by
    unfold eRange
    simp only [(by simp [facts] : und Try.prog 53 = .map 9 2), hf]
    simpa using hK
  simp (disch := first | omega | assumption | decide | (simp <;> omega) | fail) [facts, hp]
  refine hrange _ fun b hb => ?_
  simp (disch := first | omega | assumption | decide | (simp <;> omega) | fail) [facts, ]
  refine w_loop (totInv H fm b F) (totMs b F.length) ?_ ?_
  · exact ⟨[], by simp, by simp, List.nodup_nil, by simp, by simp⟩
  rintro ⟨env, G⟩ ⟨seen, e10, e3, hnd, hlt, hG⟩
  simp only at e10 e3 hG
  subst hG
  have hfb : fm ≠ b := ne_of_fresh hb hf
  simp (disch := first | omega | assumption | decide | (simp <;> omega) | fail) [facts, e10, e3]
  unfold eNext
  simp only [upd_same, upd_ne _ _ hfb, hf, List.length_map, and_self, true_and]
  refine ⟨fun hall => ?_, fun i e hi he => ?_⟩
  · have hsum := sum_all hnd hlt hall
    simp (disch := first | omega | assumption | decide | (simp <;> omega) | fail) [facts, e10, e3, hsum]
    exact ⟨_, Heap.le_refl _, le_upd _ hb⟩
  · obtain ⟨x, hx, rfl⟩ : ∃ x, F[i]? = some x ∧ fE x = e := by
      rw [List.getElem?_map] at he
      cases hx : F[i]? with
      | none => rw [hx] at he; cases he
      | some x => rw [hx] at he; exact ⟨x, rfl, by simpa using he⟩
    have hi2 : i < F.length := (List.getElem?_eq_some_iff.1 hx).1
    have hq : qEntry (.pointer (some ⟨b, 0, none⟩)) (upd (upd H b (.iter fm F.length seen F.length)) b (.iter fm F.length (seen ++ [i]) F.length)) = some (.tuple #[.string x.1, .int .i64 x.2]) := by
      unfold qEntry
      simp [upd_same, upd_ne _ _ hfb, hf, hx, fE]
    have hnd2 : (seen ++ [i]).Nodup := List.nodup_append.2 ⟨hnd, by simp, fun a ha c hc => by simp at hc; subst hc; exact fun e => hi (e ▸ ha)⟩
    have hlt2 : ∀ j ∈ seen ++ [i], j < F.length := fun j hj => by
      rcases List.mem_append.1 hj with h1 | h1
      · exact hlt j h1
      · simp at h1; subst h1; exact hi2
    have hb2 := sum_bound (F := F) (B := 10000000000000) (by decide) hv seen
    have hl2 := places_len hnd2 hlt2
    have hxv := hv x (List.mem_of_getElem? hx)
    have hvx : vF F i = x.2 := by simp [vF, hx]
    have hmul : (seen.length : Int) * 10000000000000 ≤ 64 * 10000000000000 := Int.mul_le_mul_of_nonneg_right (by simp at hl2; omega) (by decide)
    generalize hsm : (seen.map (vF F)).sum = sm at *
    simp (disch := first | omega | assumption | decide | (simp <;> omega) | fail) [facts, e10, e3, hq, fE]
    refine ⟨_, Heap.le_refl _, ⟨seen ++ [i], by simp [e10], by simp [hvx, hsm], hnd2, hlt2, by simp [upd_upd]⟩, ?_⟩
    simp only [totMs, upd_same]
    simp at hl2 ⊢
    omega
end
end Go.Proofs.Ytdeffhibolcebaa.GL
