/- Layer 2: the contracts of Worth, Count and the reference's. -/
import Derived.Test.YtiaigpkaajnpoaaCaSD
namespace Go.Proofs.Ytiaigpkaajnpoaa.GL
open Go Go.RowKit
set_option maxRecDepth 10000
set_option pp.deepTerms.threshold 8
set_option pp.maxSteps 3000
set_option linter.unusedSimpArgs false
set_option linter.unusedVariables false

def prods (ns ds : List Int) : List Int := List.zipWith (· * ·) ns ds
def allIn (l : List Int) : Prop := ∀ z ∈ l, i64In z
instance (l : List Int) : Decidable (allIn l) := inferInstanceAs (Decidable (∀ z ∈ l, i64In z))
def aggV (ns : List Int) : Value := .agg (ns.map i64V).toArray
def worthV (ns ds : List Int) : Value := if allIn (prods ns ds) then totV (prods ns ds).sum else .tuple #[.int .i64 0, .bool false]
theorem allIn_take {l : List Int} {k : Nat} {x : Int} (h : allIn (l.take k)) (hx : l[k]? = some x) (hi : i64In x) : allIn (l.take (k + 1)) := by
  rw [take_snoc hx]; intro z hz; simp at hz; rcases hz with hz | rfl
  · exact h z hz
  · exact hi
theorem allIn_not {l : List Int} {k : Nat} {x : Int} (hx : l[k]? = some x) (hi : ¬ i64In x) : ¬ allIn l := fun h => hi (h x (List.mem_of_getElem? hx))

theorem worth_c (ns ds : List Int) (H : Heap) (hn : ns.length = 4) (hd : ds.length = 4) (hni : allIn ns) (hdi : allIn ds) :
    ECalls Try.prog 21 #[aggV ns, aggV ds] H fun r H' => r = worthV ns ds ∧ Heap.le H H' := by
  refine ecalls_of_ewp (args := [_, _]) Try.func21 rfl rfl rfl (by simp [Try.ntmps21]) (by kernel_rfl) ?_
  have hpl : (prods ns ds).length = 4 := by simp [prods, hn, hd]
  have htn : List.take 4 (ns.map i64V) = ns.map i64V := List.take_of_length_le (by simp [hn])
  unfold aggV
  simp (disch := first | omega | assumption | decide | (simp <;> omega) | fail) [facts, ]
  refine fresh_intro fun b hb => ?_
  simp (disch := first | omega | assumption | decide | (simp <;> omega) | fail) [facts, ]
  refine fresh_intro fun b3 hb3 => ?_
  have hbb : b ≠ b3 := ne_of_fresh hb3 (upd_same _ _ _)
  have hl2 : upd (upd H b (.row true 0 (ns.map i64V) 0)) b3 (.row true 0 (ds.map i64V) 0) b = some (.row true 0 (ns.map i64V) 0) := by rw [upd_ne _ _ hbb, upd_same]
  have hl3 : upd (upd H b (.row true 0 (ns.map i64V) 0)) b3 (.row true 0 (ds.map i64V) 0) b3 = some (.row true 0 (ds.map i64V) 0) := upd_same _ _ _
  have hle0 : Heap.le H (upd (upd H b (.row true 0 (ns.map i64V) 0)) b3 (.row true 0 (ds.map i64V) 0)) := Heap.le_trans (le_upd _ hb) (le_upd _ hb3)
  generalize upd (upd H b (.row true 0 (ns.map i64V) 0)) b3 (.row true 0 (ds.map i64V) 0) = H2 at *
  simp (disch := first | omega | assumption | decide | (simp <;> omega) | fail) [facts, hl2, htn]
  refine w_loop (fun s => ∃ k : Nat, k ≤ 4 ∧ s.env 3 = .pointer (some ⟨b3, 0, none⟩) ∧ s.env 11 = .agg (ns.map i64V).toArray ∧ s.env 12 = .int .i64 k ∧ Heap.le H2 s.heap ∧ allIn ((prods ns ds).take k) ∧ Out H2 s.heap (s.env 6) 1 k (((prods ns ds).map i64V).take k)) (fun s => 4 - (intOf (s.env 12)).toNat) ?_ ?_
  · exact ⟨0, by decide, by simp, by simp, by simp, by simp [Heap.le_refl], by simp [allIn], by simp [Out.nil]⟩
  · rintro ⟨e, H1⟩ ⟨k, hk, e3, e11, e12, hle, hall, hout⟩
    simp only at e3 e11 e12 hle hout
    generalize e6 : e 6 = sv at hout
    by_cases hlt : (k : Int) < 4
    · obtain ⟨x, hx⟩ : ∃ x, ns[k]? = some x := ⟨_, List.getElem?_eq_getElem (by omega)⟩
      obtain ⟨d, hdx⟩ : ∃ d, ds[k]? = some d := ⟨_, List.getElem?_eq_getElem (by omega)⟩
      have hp : (prods ns ds)[k]? = some (x * d) := by simp [prods, List.getElem?_zipWith, hx, hdx]
      have hl1 := hle _ _ hl3
      have hxin : i64In x := hni x (List.mem_of_getElem? hx)
      obtain ⟨hxk, hx'⟩ := List.getElem?_eq_some_iff.1 hx
      have hdin : i64In d := hdi d (List.mem_of_getElem? hdx)
      obtain ⟨hdk, hdx'⟩ := List.getElem?_eq_some_iff.1 hdx
      simp (disch := first | omega | assumption | decide | (simp <;> omega) | fail) [facts, e3, e11, e12, e6, hlt, hx, hdx, hx', hdx', hl1, hn, hd]
      refine (mul_c x d _ hxin hdin).mono ?_
      rintro r H3 ⟨rfl, rfl⟩
      by_cases hin : i64In (x * d)
      · rw [totV_yes hin]
        simp (disch := first | omega | assumption | decide | (simp <;> omega) | fail) [facts, e3, e11, e12, e6, hlt]
        refine fresh_intro fun b4 hb4 => ?_
        simp (disch := first | omega | assumption | decide | (simp <;> omega) | fail) [facts, e3, e11, e12, e6, hlt]
        refine Out.app (e := 2) (s := 1) (nbs := 8) (z := .int .i64 0) (H := H2) (by simp [facts]) (by simp [facts]) (by simp [facts]) (by simp [facts]) rfl (by decide) (Heap.le_trans hle (le_upd _ hb4)) (hout.up (le_upd _ hb4))
          (srcOne (e1 := 2) (z := .int .i64 0) (by simp [facts]) (by simp [facts]) (by simp [facts]) rfl) (by simp) (by simp [Value.oneCell']) (by omega) ?_
        intro sv2 H4 hle4 _ hout4
        simp (disch := first | omega | assumption | decide | (simp <;> omega) | fail) [facts, e3, e11, e12, e6, hlt]
        refine ⟨_, Heap.le_refl _, ⟨k + 1, by omega, by simp [e3], by simp [e11], by simp, by simpa using hle4, allIn_take hall hp hin, ?_⟩, by simp [intOf, e12]; omega⟩
        rw [take_snoc (xs := (prods ns ds).map i64V) (x := i64V (x * d)) (by rw [List.getElem?_map, hp]; rfl)]; simpa using hout4
      · rw [totV_no hin]
        simp (disch := first | omega | assumption | decide | (simp <;> omega) | fail) [facts, e3, e11, e12, e6, hlt, worthV, allIn_not hp hin]
        exact ⟨_, Heap.le_refl _, Heap.le_trans hle0 hle⟩
    · have hk4 : k = 4 := by omega
      subst hk4
      rw [List.take_of_length_le (by simp [hpl])] at hout
      rw [List.take_of_length_le (by omega)] at hall
      obtain ⟨a6, c6, rfl, hsl⟩ := hout.sl
      simp (disch := first | omega | assumption | decide | (simp <;> omega) | fail) [facts, e3, e11, e12, e6, hlt]
      refine (total_c a6 4 c6 _ _ hsl hall (by decide)).mono ?_
      rintro r H3 ⟨rfl, rfl⟩
      unfold worthV
      rw [if_pos hall]
      by_cases hin : i64In (prods ns ds).sum
      · rw [totV_yes hin]
        simp (disch := first | omega | assumption | decide | (simp <;> omega) | fail) [facts, e3, e11, e12, e6, hlt]
        exact ⟨_, Heap.le_refl _, Heap.le_trans hle0 hle⟩
      · rw [totV_no hin]
        simp (disch := first | omega | assumption | decide | (simp <;> omega) | fail) [facts, e3, e11, e12, e6, hlt]
        exact ⟨_, Heap.le_refl _, Heap.le_trans hle0 hle⟩

theorem worthR_c (ns ds : List Int) (H : Heap) (hn : ns.length = 4) (hd : ds.length = 4) (hni : allIn ns) (hdi : allIn ds) :
    ECalls Try.prog 22 #[aggV ns, aggV ds] H fun r H' => r = worthV ns ds ∧ Heap.le H H' := by
  refine ecalls_of_ewp (args := [_, _]) Try.func22 rfl rfl rfl (by simp [Try.ntmps22]) (by kernel_rfl) ?_
  have hpl : (prods ns ds).length = 4 := by simp [prods, hn, hd]
  unfold aggV
  simp (disch := first | omega | assumption | decide | (simp <;> omega) | fail) [facts, ]
  refine fresh_intro fun b hb => ?_
  simp (disch := first | omega | assumption | decide | (simp <;> omega) | fail) [facts, ]
  refine fresh_intro fun b3 hb3 => ?_
  have hbb : b ≠ b3 := ne_of_fresh hb3 (upd_same _ _ _)
  have hl2 : upd (upd H b (.row true 0 (ns.map i64V) 0)) b3 (.row true 0 (ds.map i64V) 0) b = some (.row true 0 (ns.map i64V) 0) := by rw [upd_ne _ _ hbb, upd_same]
  have hl3 : upd (upd H b (.row true 0 (ns.map i64V) 0)) b3 (.row true 0 (ds.map i64V) 0) b3 = some (.row true 0 (ds.map i64V) 0) := upd_same _ _ _
  have hle0 : Heap.le H (upd (upd H b (.row true 0 (ns.map i64V) 0)) b3 (.row true 0 (ds.map i64V) 0)) := Heap.le_trans (le_upd _ hb) (le_upd _ hb3)
  generalize upd (upd H b (.row true 0 (ns.map i64V) 0)) b3 (.row true 0 (ds.map i64V) 0) = H2 at *
  simp (disch := first | omega | assumption | decide | (simp <;> omega) | fail) [facts, hl2]
  refine w_loop (fun s => ∃ k : Nat, k ≤ 4 ∧ s.env 2 = .pointer (some ⟨b, 0, none⟩) ∧ s.env 3 = .pointer (some ⟨b3, 0, none⟩) ∧ s.env 7 = .int .i64 k ∧ Heap.le H2 s.heap ∧ allIn ((prods ns ds).take k) ∧ Out H2 s.heap (s.env 6) 1 k (((prods ns ds).map i64V).take k)) (fun s => 4 - (intOf (s.env 7)).toNat) ?_ ?_
  · exact ⟨0, by decide, by simp, by simp, by simp, by simp [Heap.le_refl], by simp [allIn], by simp [Out.nil]⟩
  · rintro ⟨e, H1⟩ ⟨k, hk, e2, e3, e7, hle, hall, hout⟩
    simp only at e2 e3 e7 hle hout
    generalize e6 : e 6 = sv at hout
    by_cases hlt : (k : Int) < 4
    · obtain ⟨x, hx⟩ : ∃ x, ns[k]? = some x := ⟨_, List.getElem?_eq_getElem (by omega)⟩
      obtain ⟨d, hdx⟩ : ∃ d, ds[k]? = some d := ⟨_, List.getElem?_eq_getElem (by omega)⟩
      have hp : (prods ns ds)[k]? = some (x * d) := by simp [prods, List.getElem?_zipWith, hx, hdx]
      have hl1 := hle _ _ hl3
      have hl0 := hle _ _ hl2
      have hxin : i64In x := hni x (List.mem_of_getElem? hx)
      obtain ⟨hxk, hx'⟩ := List.getElem?_eq_some_iff.1 hx
      have hdin : i64In d := hdi d (List.mem_of_getElem? hdx)
      obtain ⟨hdk, hdx'⟩ := List.getElem?_eq_some_iff.1 hdx
      simp (disch := first | omega | assumption | decide | (simp <;> omega) | fail) [facts, e2, e3, e7, e6, hlt]
      refine w_plan (P := Try.prog) (by simp [facts]) (opsP [0,1,2,3,4,5,6,7,8,9,10,11] .done) ?_ ?_
      · decide +kernel
      simp (disch := first | omega | assumption | decide | (simp <;> omega) | fail) [facts, e2, e3, e7, e6, hlt, hx, hdx, hx', hdx', hl1, hl0, hn, hd]
      refine (mulR_c x d _ hxin hdin).mono ?_
      rintro r H3 ⟨rfl, rfl⟩
      by_cases hin : i64In (x * d)
      · rw [totV_yes hin]
        simp (disch := first | omega | assumption | decide | (simp <;> omega) | fail) [facts, e2, e3, e7, e6, hlt]
        refine fresh_intro fun b4 hb4 => ?_
        simp (disch := first | omega | assumption | decide | (simp <;> omega) | fail) [facts, e2, e3, e7, e6, hlt]
        refine Out.app (e := 2) (s := 1) (nbs := 8) (z := .int .i64 0) (H := H2) (by simp [facts]) (by simp [facts]) (by simp [facts]) (by simp [facts]) rfl (by decide) (Heap.le_trans hle (le_upd _ hb4)) (hout.up (le_upd _ hb4))
          (srcOne (e1 := 2) (z := .int .i64 0) (by simp [facts]) (by simp [facts]) (by simp [facts]) rfl) (by simp) (by simp [Value.oneCell']) (by omega) ?_
        intro sv2 H4 hle4 _ hout4
        simp (disch := first | omega | assumption | decide | (simp <;> omega) | fail) [facts, e2, e3, e7, e6, hlt]
        refine ⟨_, Heap.le_refl _, ⟨k + 1, by omega, by simp [e2], by simp [e3], by simp, by simpa using hle4, allIn_take hall hp hin, ?_⟩, by simp [intOf, e7]; omega⟩
        rw [take_snoc (xs := (prods ns ds).map i64V) (x := i64V (x * d)) (by rw [List.getElem?_map, hp]; rfl)]; simpa using hout4
      · rw [totV_no hin]
        simp (disch := first | omega | assumption | decide | (simp <;> omega) | fail) [facts, e2, e3, e7, e6, hlt, worthV, allIn_not hp hin]
        exact ⟨_, Heap.le_refl _, Heap.le_trans hle0 hle⟩
    · have hk4 : k = 4 := by omega
      subst hk4
      rw [List.take_of_length_le (by simp [hpl])] at hout
      rw [List.take_of_length_le (by omega)] at hall
      obtain ⟨a6, c6, rfl, hsl⟩ := hout.sl
      simp (disch := first | omega | assumption | decide | (simp <;> omega) | fail) [facts, e2, e3, e7, e6, hlt]
      refine (totalR_c a6 4 c6 _ _ hsl hall (by decide)).mono ?_
      rintro r H3 ⟨rfl, hle3⟩
      unfold worthV
      rw [if_pos hall]
      have hle9 := Heap.le_trans hle0 (Heap.le_trans hle hle3)
      by_cases hin : i64In (prods ns ds).sum
      · rw [totV_yes hin]
        simp (disch := first | omega | assumption | decide | (simp <;> omega) | fail) [facts, e2, e3, e7, e6, hlt]
        exact ⟨_, Heap.le_refl _, hle9⟩
      · rw [totV_no hin]
        simp (disch := first | omega | assumption | decide | (simp <;> omega) | fail) [facts, e2, e3, e7, e6, hlt]
        exact ⟨_, Heap.le_refl _, hle9⟩

end Go.Proofs.Ytiaigpkaajnpoaa.GL
