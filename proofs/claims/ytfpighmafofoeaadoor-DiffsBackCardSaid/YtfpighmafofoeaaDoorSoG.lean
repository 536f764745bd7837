/- Layer 20: slices.SortedFunc of a map's keys: the keys, sorted (2). -/
import Derived.Test.YtfpighmafofoeaaDoorSoF
namespace Go.Proofs.YtfpighmafofoeaaDoor.GL
open Go Go.RowKit Go.Shelf
set_option maxRecDepth 100000
set_option pp.deepTerms.threshold 8
set_option pp.maxSteps 3000
set_option linter.unusedSimpArgs false
set_option linter.unusedVariables false

abbrev keysFn : Value := .func (.func 52) #[] #[]
theorem collect_c (H : Heap) (bm m : Nat) (es : List (Value × Value)) (ks : List KZ) (hb : H bm = some (.row true 0 [.map (some m)] 0)) (hm : H m = some (.map es)) (hk : es.map (·.1) = ks.map encK) (hn : ks.length ≤ 1000000) :
    ECalls Tryd.prog 50 #[.func (.func 52) #[] #[.pointer (some ⟨bm, 0, none⟩)]] H fun v H' => ∃ ks', ks'.Perm ks ∧ KeyRow H ks' v H' := by
  refine ecalls_of_ewp (args := [_]) Tryd.func50 rfl rfl rfl (by simp [Tryd.ntmps50]) (by kernel_rfl) ?_
  simp (disch := first | omega | assumption | decide | (simp <;> omega) | fail) [facts, ]
  refine (appendSeq_c H bm m es ks hb hm hk hn).mono ?_
  rintro v H' hv
  simp (disch := first | omega | assumption | decide | (simp <;> omega) | fail) [facts, ]
  exact ⟨_, Heap.le_refl _, hv⟩
/-- The keys in their order. -/
def KSorted (ks : List KZ) : Prop := ks.Pairwise (fun a b => ¬ KZ.lt b a)
theorem sorted_c (H : Heap) (bm m : Nat) (es : List (Value × Value)) (ks : List KZ) (hb : H bm = some (.row true 0 [.map (some m)] 0)) (hm : H m = some (.map es)) (hk : es.map (·.1) = ks.map encK) (hn : ks.length ≤ 1000000) :
    ECalls Tryd.prog 44 #[.func (.func 52) #[] #[.pointer (some ⟨bm, 0, none⟩)], .func (.func 46) #[] #[]] H fun v H' => ∃ ks', ks'.Perm ks ∧ KSorted ks' ∧ KeyRow H ks' v H' := by
  refine ecalls_of_ewp (args := [_, _]) Tryd.func44 rfl rfl rfl (by simp [Tryd.ntmps44]) (by kernel_rfl) ?_
  simp (disch := first | omega | assumption | decide | (simp <;> omega) | fail) [facts, ]
  refine (collect_c H bm m es ks hb hm hk hn).mono ?_
  rintro v H' ⟨ks1, hp1, ⟨rfl, rfl, rfl⟩ | ⟨g, cap, tail, hg, rfl, rfl, hcap, htl⟩⟩
  · simp (disch := first | omega | assumption | decide | (simp <;> omega) | fail) [facts, ]
    refine (sort_0 _ _).mono ?_
    rintro v H' ⟨rfl, rfl⟩
    simp (disch := first | omega | assumption | decide | (simp <;> omega) | fail) [facts, ]
    exact ⟨_, Heap.le_refl _, [], hp1, List.Pairwise.nil, .inl ⟨rfl, rfl, rfl⟩⟩
  · generalize hG : upd H g _ = G
    have hg1 : G g = some (.row true 0 (rowsC KZ.cells ks1 ++ tail) 0) := by rw [← hG, upd_same]
    simp (disch := first | omega | assumption | decide | (simp <;> omega) | fail) [facts, ]
    refine (sortFunc_c hg1 (by rw [hp1.length_eq]; exact hn)).mono ?_
    rintro v H' ⟨rfl, ks2, hp2, hs2, rfl⟩
    simp (disch := first | omega | assumption | decide | (simp <;> omega) | fail) [facts, ]
    refine ⟨_, Heap.le_refl _, ks2, hp2.trans hp1, hs2, .inr ⟨g, cap, tail, hg, by rw [hp2.length_eq], by rw [← hG, upd_upd], by rw [hp2.length_eq]; exact hcap, by rw [hp2.length_eq]; exact htl⟩⟩
end Go.Proofs.YtfpighmafofoeaaDoor.GL
