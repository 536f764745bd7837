/- Layer 2: the contracts of Plus and the reference's; the chapter's example. -/
import Derived.Test.YteflnceomhndmaaSuE
namespace Go.Proofs.Yteflnceomhndmaa.GL
open Go Go.RowKit
set_option maxRecDepth 10000
set_option pp.deepTerms.threshold 8
set_option pp.maxSteps 3000
set_option linter.unusedSimpArgs false
set_option linter.unusedVariables false

def plusL (ns ds : List Int) : List Int := List.zipWith (· + ·) ns ds
def plusV (ns ds : List Int) : Value := if allIn (plusL ns ds) then .tuple #[aggV (plusL ns ds), .bool true] else .tuple #[aggV [0, 0, 0, 0], .bool false]
def accL (l : List Int) (k : Nat) : List Int := l.take k ++ List.replicate (4 - k) 0
theorem accL_len (l : List Int) (k : Nat) (hl : l.length = 4) (hk : k ≤ 4) : (accL l k).length = 4 := by simp [accL, hl]; omega
theorem accL_set (l : List Int) (k : Nat) (y : Int) (hl : l.length = 4) (hk : k < 4) (hy : l[k]? = some y) : ((accL l k).map i64V).set k (.int .i64 y) = (accL l (k + 1)).map i64V := by
  have e : (accL l k).set k y = accL l (k + 1) := by
    unfold accL
    rw [List.set_append_right _ _ (by simp [hl]; omega), show (l.take k).length = k by simp [hl]; omega, Nat.sub_self, take_snoc hy, List.append_assoc]
    congr 1
    rw [show 4 - k = (4 - (k + 1)) + 1 by omega, List.replicate_succ]
    simp
  rw [← e, List.map_set]; rfl
theorem accL_all (l : List Int) (hl : l.length = 4) : accL l 4 = l := by
  unfold accL; rw [List.take_of_length_le (by omega)]; simp

theorem plus_c (ns ds : List Int) (H : Heap) (hn : ns.length = 4) (hd : ds.length = 4) (hni : allIn ns) (hdi : allIn ds) :
    ECalls Try.prog 13 #[aggV ns, aggV ds] H fun r H' => r = plusV ns ds ∧ Heap.le H H' := by
  refine ecalls_of_ewp (args := [_, _]) Try.func13 rfl rfl rfl (by simp [Try.ntmps13]) (by kernel_rfl) ?_
  have hpl : (plusL ns ds).length = 4 := by simp [plusL, hn, hd]
  have htn : List.take 4 (ns.map i64V) = ns.map i64V := List.take_of_length_le (by simp [hn])
  unfold aggV
  simp (disch := first | omega | assumption | decide | (simp <;> omega) | fail) [facts, ]
  refine fresh_intro fun b hb => ?_
  simp (disch := first | omega | assumption | decide | (simp <;> omega) | fail) [facts, ]
  refine fresh_intro fun b3 hb3 => ?_
  have hbb : b ≠ b3 := ne_of_fresh hb3 (upd_same _ _ _)
  have hl2 : upd (upd H b (.row true 0 (ns.map i64V) 0)) b3 (.row true 0 (ds.map i64V) 0) b = some (.row true 0 (ns.map i64V) 0) := by rw [upd_ne _ _ hbb, upd_same]
  have hl3 : upd (upd H b (.row true 0 (ns.map i64V) 0)) b3 (.row true 0 (ds.map i64V) 0) b3 = some (.row true 0 (ds.map i64V) 0) := upd_same _ _ _
  have hle0 : Heap.le H (upd (upd H b (.row true 0 (ns.map i64V) 0)) b3 (.row true 0 (ds.map i64V) 0)) := Heap.le_trans (le_upd _ hb) (le_upd _ hb3)
  generalize upd (upd H b (.row true 0 (ns.map i64V) 0)) b3 (.row true 0 (ds.map i64V) 0) = H2 at *
  simp (disch := first | omega | assumption | decide | (simp <;> omega) | fail) [facts, ]
  refine fresh_intro fun b4 hb4 => ?_
  simp (disch := first | omega | assumption | decide | (simp <;> omega) | fail) [facts, ]
  refine fresh_intro fun b6 hb6 => ?_
  have h46 : b4 ≠ b6 := ne_of_fresh hb6 (upd_same _ _ _)
  have hb6' := le_of_none (le_upd _ hb4) hb6
  have hl6 := upd_same (upd H2 b4 (.row true 0 [.int .i64 0, .int .i64 0, .int .i64 0, .int .i64 0] 0)) b6 (.row true 0 [.int .i64 0, .int .i64 0, .int .i64 0, .int .i64 0] 0)
  have hl4 : upd (upd H2 b4 (.row true 0 [.int .i64 0, .int .i64 0, .int .i64 0, .int .i64 0] 0)) b6 (.row true 0 [.int .i64 0, .int .i64 0, .int .i64 0, .int .i64 0] 0) b4 = some (.row true 0 [.int .i64 0, .int .i64 0, .int .i64 0, .int .i64 0] 0) := by rw [upd_ne _ _ h46, upd_same]
  have hle2 : Heap.le H2 (upd (upd H2 b4 (.row true 0 [.int .i64 0, .int .i64 0, .int .i64 0, .int .i64 0] 0)) b6 (.row true 0 [.int .i64 0, .int .i64 0, .int .i64 0, .int .i64 0] 0)) := Heap.le_trans (le_upd _ hb4) (le_upd _ hb6)
  generalize upd (upd H2 b4 (.row true 0 [.int .i64 0, .int .i64 0, .int .i64 0, .int .i64 0] 0)) b6 (.row true 0 [.int .i64 0, .int .i64 0, .int .i64 0, .int .i64 0] 0) = H6 at *
  have hl2' := hle2 _ _ hl2
  simp (disch := first | omega | assumption | decide | (simp <;> omega) | fail) [facts, hl2', htn]
  refine w_loop (fun s => ∃ k : Nat, k ≤ 4 ∧ s.env 3 = .pointer (some ⟨b3, 0, none⟩) ∧ s.env 4 = .pointer (some ⟨b4, 0, none⟩) ∧ s.env 6 = .pointer (some ⟨b6, 0, none⟩) ∧ s.env 11 = .agg (ns.map i64V).toArray ∧ s.env 12 = .int .i64 k ∧ Heap.le H2 s.heap ∧
    s.heap b4 = some (.row true 0 [.int .i64 0, .int .i64 0, .int .i64 0, .int .i64 0] 0) ∧ allIn ((plusL ns ds).take k) ∧ s.heap b6 = some (.row true 0 ((accL (plusL ns ds) k).map i64V) 0)) (fun s => 4 - (intOf (s.env 12)).toNat) ?_ ?_
  · exact ⟨0, by decide, by simp, by simp, by simp, by simp, by simp, hle2, hl4, by simp [allIn], by simpa [accL, List.replicate] using hl6⟩
  · rintro ⟨e, H1⟩ ⟨k, hk, e3, e4, e6, e11, e12, hle, hl4', hall, hl6'⟩
    simp only at e3 e4 e6 e11 e12 hle hl4' hl6'
    obtain ⟨row, hrow⟩ : ∃ row, row = (accL (plusL ns ds) k).map i64V := ⟨_, rfl⟩
    rw [← hrow] at hl6'
    have hrl : row.length = 4 := by rw [hrow]; simp [accL_len _ _ hpl hk]
    by_cases hlt : (k : Int) < 4
    · obtain ⟨x, hx⟩ : ∃ x, ns[k]? = some x := ⟨_, List.getElem?_eq_getElem (by omega)⟩
      obtain ⟨d, hdx⟩ : ∃ d, ds[k]? = some d := ⟨_, List.getElem?_eq_getElem (by omega)⟩
      have hp : (plusL ns ds)[k]? = some (x + d) := by simp [plusL, List.getElem?_zipWith, hx, hdx]
      have hl1 := hle _ _ hl3
      have hxin : i64In x := hni x (List.mem_of_getElem? hx)
      obtain ⟨hxk, hx'⟩ := List.getElem?_eq_some_iff.1 hx
      have hdin : i64In d := hdi d (List.mem_of_getElem? hdx)
      obtain ⟨hdk, hdx'⟩ := List.getElem?_eq_some_iff.1 hdx
      simp (disch := first | omega | assumption | decide | (simp <;> omega) | fail) [facts, e3, e4, e6, e11, e12, hlt, hx, hdx, hx', hdx', hl1, hn, hd]
      refine (add_c x d _ hxin hdin).mono ?_
      rintro r H3 ⟨rfl, hle3⟩
      have g4 := hle3 _ _ hl4'
      have g6 := hle3 _ _ hl6'
      by_cases hin : i64In (x + d)
      · rw [totV_yes hin]
        have hin2 := hin
        unfold i64In at hin2
        simp (disch := first | omega | assumption | decide | (simp <;> omega) | fail) [facts, e3, e4, e6, e11, e12, hlt, g6, hrl]
        refine ⟨_, Heap.le_refl _, ⟨k + 1, by omega, by simp [e3], by simp [e4], by simp [e6], by simp [e11], by simp, by simpa using le_updN _ (Heap.le_trans hle hle3) hb6', by simp [upd_ne _ _ h46, g4], allIn_take hall hp hin, ?_⟩, by simp [intOf, e12]; omega⟩
        have hset : row.set k (.int .i64 (x + d)) = (accL (plusL ns ds) (k + 1)).map i64V := by rw [hrow]; exact accL_set _ _ _ hpl (by omega) hp
        simp only [upd_same, hset]
      · rw [totV_no hin]
        simp (disch := first | omega | assumption | decide | (simp <;> omega) | fail) [facts, e3, e4, e6, e11, e12, hlt, g4, plusV, allIn_not hp hin, aggV]
        exact ⟨_, Heap.le_refl _, le_updN _ (Heap.le_trans hle0 (Heap.le_trans hle hle3)) (le_of_none hle0 hb4)⟩
    · have hk4 : k = 4 := by omega
      subst hk4
      rw [List.take_of_length_le (by omega)] at hall
      rw [accL_all _ hpl] at hrow
      have htr : List.take 4 row = row := List.take_of_length_le (by omega)
      have hones : row.all (·.oneCell') = true := by rw [hrow]; exact all_i64 _
      simp (disch := first | omega | assumption | decide | (simp <;> omega) | fail) [facts, e3, e4, e6, e11, e12, hlt, hl6', hl4', htr, hrl, hones]
      refine ⟨_, Heap.le_refl _, ?_, le_updN _ (Heap.le_trans hle0 hle) (le_of_none hle0 hb4)⟩
      unfold plusV
      rw [if_pos hall, hrow]
      rfl
theorem plusR_c (ns ds : List Int) (H : Heap) (hn : ns.length = 4) (hd : ds.length = 4) (hni : allIn ns) (hdi : allIn ds) :
    ECalls Try.prog 14 #[aggV ns, aggV ds] H fun r H' => r = plusV ns ds ∧ Heap.le H H' := by
  refine ecalls_of_ewp (args := [_, _]) Try.func14 rfl rfl rfl (by simp [Try.ntmps14]) (by kernel_rfl) ?_
  have hpl : (plusL ns ds).length = 4 := by simp [plusL, hn, hd]
  have htn : List.take 4 (ns.map i64V) = ns.map i64V := List.take_of_length_le (by simp [hn])
  unfold aggV
  simp (disch := first | omega | assumption | decide | (simp <;> omega) | fail) [facts, ]
  refine fresh_intro fun b hb => ?_
  simp (disch := first | omega | assumption | decide | (simp <;> omega) | fail) [facts, ]
  refine fresh_intro fun b3 hb3 => ?_
  have hbb : b ≠ b3 := ne_of_fresh hb3 (upd_same _ _ _)
  have hl2 : upd (upd H b (.row true 0 (ns.map i64V) 0)) b3 (.row true 0 (ds.map i64V) 0) b = some (.row true 0 (ns.map i64V) 0) := by rw [upd_ne _ _ hbb, upd_same]
  have hl3 : upd (upd H b (.row true 0 (ns.map i64V) 0)) b3 (.row true 0 (ds.map i64V) 0) b3 = some (.row true 0 (ds.map i64V) 0) := upd_same _ _ _
  have hle0 : Heap.le H (upd (upd H b (.row true 0 (ns.map i64V) 0)) b3 (.row true 0 (ds.map i64V) 0)) := Heap.le_trans (le_upd _ hb) (le_upd _ hb3)
  generalize upd (upd H b (.row true 0 (ns.map i64V) 0)) b3 (.row true 0 (ds.map i64V) 0) = H2 at *
  simp (disch := first | omega | assumption | decide | (simp <;> omega) | fail) [facts, ]
  refine fresh_intro fun b4 hb4 => ?_
  simp (disch := first | omega | assumption | decide | (simp <;> omega) | fail) [facts, ]
  refine fresh_intro fun b6 hb6 => ?_
  have h46 : b4 ≠ b6 := ne_of_fresh hb6 (upd_same _ _ _)
  have hb6' := le_of_none (le_upd _ hb4) hb6
  have hl6 := upd_same (upd H2 b4 (.row true 0 [.int .i64 0, .int .i64 0, .int .i64 0, .int .i64 0] 0)) b6 (.row true 0 [.int .i64 0, .int .i64 0, .int .i64 0, .int .i64 0] 0)
  have hl4 : upd (upd H2 b4 (.row true 0 [.int .i64 0, .int .i64 0, .int .i64 0, .int .i64 0] 0)) b6 (.row true 0 [.int .i64 0, .int .i64 0, .int .i64 0, .int .i64 0] 0) b4 = some (.row true 0 [.int .i64 0, .int .i64 0, .int .i64 0, .int .i64 0] 0) := by rw [upd_ne _ _ h46, upd_same]
  have hle2 : Heap.le H2 (upd (upd H2 b4 (.row true 0 [.int .i64 0, .int .i64 0, .int .i64 0, .int .i64 0] 0)) b6 (.row true 0 [.int .i64 0, .int .i64 0, .int .i64 0, .int .i64 0] 0)) := Heap.le_trans (le_upd _ hb4) (le_upd _ hb6)
  generalize upd (upd H2 b4 (.row true 0 [.int .i64 0, .int .i64 0, .int .i64 0, .int .i64 0] 0)) b6 (.row true 0 [.int .i64 0, .int .i64 0, .int .i64 0, .int .i64 0] 0) = H6 at *
  have hl2' := hle2 _ _ hl2
  simp (disch := first | omega | assumption | decide | (simp <;> omega) | fail) [facts, ]
  refine w_loop (fun s => ∃ k : Nat, k ≤ 4 ∧ s.env 3 = .pointer (some ⟨b3, 0, none⟩) ∧ s.env 4 = .pointer (some ⟨b4, 0, none⟩) ∧ s.env 6 = .pointer (some ⟨b6, 0, none⟩) ∧ s.env 2 = .pointer (some ⟨b, 0, none⟩) ∧ s.env 7 = .int .i64 k ∧ Heap.le H2 s.heap ∧
    s.heap b4 = some (.row true 0 [.int .i64 0, .int .i64 0, .int .i64 0, .int .i64 0] 0) ∧ allIn ((plusL ns ds).take k) ∧ s.heap b6 = some (.row true 0 ((accL (plusL ns ds) k).map i64V) 0)) (fun s => 4 - (intOf (s.env 7)).toNat) ?_ ?_
  · exact ⟨0, by decide, by simp, by simp, by simp, by simp, by simp, hle2, hl4, by simp [allIn], by simpa [accL, List.replicate] using hl6⟩
  · rintro ⟨e, H1⟩ ⟨k, hk, e3, e4, e6, e2, e7, hle, hl4', hall, hl6'⟩
    simp only at e3 e4 e6 e2 e7 hle hl4' hl6'
    obtain ⟨row, hrow⟩ : ∃ row, row = (accL (plusL ns ds) k).map i64V := ⟨_, rfl⟩
    rw [← hrow] at hl6'
    have hrl : row.length = 4 := by rw [hrow]; simp [accL_len _ _ hpl hk]
    by_cases hlt : (k : Int) < 4
    · obtain ⟨x, hx⟩ : ∃ x, ns[k]? = some x := ⟨_, List.getElem?_eq_getElem (by omega)⟩
      obtain ⟨d, hdx⟩ : ∃ d, ds[k]? = some d := ⟨_, List.getElem?_eq_getElem (by omega)⟩
      have hp : (plusL ns ds)[k]? = some (x + d) := by simp [plusL, List.getElem?_zipWith, hx, hdx]
      have hl1 := hle _ _ hl3
      have hxin : i64In x := hni x (List.mem_of_getElem? hx)
      obtain ⟨hxk, hx'⟩ := List.getElem?_eq_some_iff.1 hx
      have hdin : i64In d := hdi d (List.mem_of_getElem? hdx)
      obtain ⟨hdk, hdx'⟩ := List.getElem?_eq_some_iff.1 hdx
      have hl0 := hle _ _ hl2
      simp (disch := first | omega | assumption | decide | (simp <;> omega) | fail) [facts, e3, e4, e6, e2, e7, hlt]
      refine w_plan (P := Try.prog) (by simp [facts]) (opsP [0,1,2,3,4,5,6,7,8,9,10,11] .done) ?_ ?_
      · decide +kernel
      simp (disch := first | omega | assumption | decide | (simp <;> omega) | fail) [facts, e3, e4, e6, e2, e7, hlt, hx, hdx, hx', hdx', hl1, hl0, hn, hd]
      refine (addR_c x d _ hxin hdin).mono ?_
      rintro r H3 ⟨rfl, hle3⟩
      have g4 := hle3 _ _ hl4'
      have g6 := hle3 _ _ hl6'
      by_cases hin : i64In (x + d)
      · rw [totV_yes hin]
        have hin2 := hin
        unfold i64In at hin2
        simp (disch := first | omega | assumption | decide | (simp <;> omega) | fail) [facts, e3, e4, e6, e2, e7, hlt, g6, hrl]
        refine ⟨_, Heap.le_refl _, ⟨k + 1, by omega, by simp [e3], by simp [e4], by simp [e6], by simp [e2], by simp, by simpa using le_updN _ (Heap.le_trans hle hle3) hb6', by simp [upd_ne _ _ h46, g4], allIn_take hall hp hin, ?_⟩, by simp [intOf, e7]; omega⟩
        have hset : row.set k (.int .i64 (x + d)) = (accL (plusL ns ds) (k + 1)).map i64V := by rw [hrow]; exact accL_set _ _ _ hpl (by omega) hp
        simp only [upd_same, hset]
      · rw [totV_no hin]
        simp (disch := first | omega | assumption | decide | (simp <;> omega) | fail) [facts, e3, e4, e6, e2, e7, hlt, g4, plusV, allIn_not hp hin, aggV]
        exact ⟨_, Heap.le_refl _, le_updN _ (Heap.le_trans hle0 (Heap.le_trans hle hle3)) (le_of_none hle0 hb4)⟩
    · have hk4 : k = 4 := by omega
      subst hk4
      rw [List.take_of_length_le (by omega)] at hall
      rw [accL_all _ hpl] at hrow
      have htr : List.take 4 row = row := List.take_of_length_le (by omega)
      have hones : row.all (·.oneCell') = true := by rw [hrow]; exact all_i64 _
      simp (disch := first | omega | assumption | decide | (simp <;> omega) | fail) [facts, e3, e4, e6, e2, e7, hlt, hl6', hl4', htr, hrl, hones]
      refine ⟨_, Heap.le_refl _, ?_, le_updN _ (Heap.le_trans hle0 hle) (le_of_none hle0 hb4)⟩
      unfold plusV
      rw [if_pos hall, hrow]
      rfl

theorem known_c (H : Heap) : ECalls Try.prog 7 #[] H fun v H' => v = .bool true ∧ Heap.le H H' := by
  refine ecalls_of_ewp (args := []) Try.func7 rfl rfl rfl (by simp [Try.ntmps7]) (by kernel_rfl) ?_
  have k1 : totV (9223372036854775807 + 1) = .tuple #[.int .i64 0, .bool false] := totV_no (by decide)
  have k2 : totV (2 + 3) = .tuple #[.int .i64 5, .bool true] := totV_yes (by decide)
  have k3 : worthV [1, 2, 0, 0] [10, 20, 0, 0] = .tuple #[.int .i64 50, .bool true] := by
    unfold worthV; rw [if_pos (by decide)]; exact totV_yes (by decide)
  have k4 : plusV [1, 0, 0, 0] [2, 0, 0, 0] = .tuple #[aggV [3, 0, 0, 0], .bool true] := by
    unfold plusV; rw [if_pos (by decide)]; rfl
  have k5 : totV ([1, 2, 3, 4] : List Int).sum = .tuple #[.int .i64 10, .bool true] := totV_yes (by decide)
  simp (disch := first | omega | assumption | decide | (simp <;> omega) | fail) [facts, ]
  refine (add_c 9223372036854775807 1 H (by decide) (by decide)).mono ?_
  rintro r H1 ⟨rfl, hle1⟩
  rw [k1]
  simp (disch := first | omega | assumption | decide | (simp <;> omega) | fail) [facts, ]
  refine (add_c 2 3 _ (by decide) (by decide)).mono ?_
  rintro r H2 ⟨rfl, hle2⟩
  rw [k2]
  simp (disch := first | omega | assumption | decide | (simp <;> omega) | fail) [facts, ]
  refine (worth_c [1, 2, 0, 0] [10, 20, 0, 0] _ rfl rfl (by decide) (by decide)).mono ?_
  rintro r H3 ⟨rfl, hle3⟩
  rw [k3]
  simp (disch := first | omega | assumption | decide | (simp <;> omega) | fail) [facts, ]
  refine (plus_c [1, 0, 0, 0] [2, 0, 0, 0] _ rfl rfl (by decide) (by decide)).mono ?_
  rintro r H4 ⟨rfl, hle4⟩
  rw [k4]
  simp only [aggV, List.map_cons, List.map_nil, i64V_def]
  simp (disch := first | omega | assumption | decide | (simp <;> omega) | fail) [facts, ]
  refine fresh_intro fun b hb => ?_
  simp (disch := first | omega | assumption | decide | (simp <;> omega) | fail) [facts, ]
  refine (count_c [1, 2, 3, 4] _ rfl (by decide)).mono ?_
  rintro r H5 ⟨rfl, hle5⟩
  have hb5 := hle5 _ _ (upd_same _ _ _)
  rw [k5]
  simp (disch := first | omega | assumption | decide | (simp <;> omega) | fail) [facts, hb5]
  rw [upd_upd] at hle5
  exact ⟨_, Heap.le_refl _, Heap.le_trans hle1 (Heap.le_trans hle2 (Heap.le_trans hle3 (Heap.le_trans hle4 (Heap.le_trans (le_upd _ hb) hle5))))⟩
end Go.Proofs.Yteflnceomhndmaa.GL
