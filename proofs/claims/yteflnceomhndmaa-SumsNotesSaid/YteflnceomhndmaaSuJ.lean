/- Layer 2: the walk of SumsNotes. -/
import Derived.Test.YteflnceomhndmaaSuF
namespace Go.Proofs.Yteflnceomhndmaa.GL
open Go Go.RowKit
set_option maxRecDepth 10000
set_option pp.deepTerms.threshold 8
set_option pp.maxSteps 3000
set_option linter.unusedSimpArgs false
set_option linter.unusedVariables false

theorem tmod_in (x m : Int) (h : 0 < m) (hm : m < 9223372036854775807) : i64In (x.tmod m) := by
  have h1 := Int.tmod_lt_of_pos x h
  have h3 : (-x).tmod m = -(x.tmod m) := Int.neg_tmod x m
  have h4 := Int.tmod_lt_of_pos (-x) h
  unfold i64In; omega
theorem totV_form (S : Int) : ∃ w b, totV S = .tuple #[.int .i64 w, .bool b] ∧ i64In w := by
  unfold totV; split
  · rename_i h; exact ⟨_, _, rfl, h⟩
  · exact ⟨_, _, rfl, by decide⟩
theorem worthV_form (n d : List Int) : ∃ w b, worthV n d = .tuple #[.int .i64 w, .bool b] := by
  unfold worthV; split
  · obtain ⟨w, b, h, _⟩ := totV_form (prods n d).sum; exact ⟨w, b, h⟩
  · exact ⟨_, _, rfl⟩
theorem list4n (l : List Int) (h : l.length = 4) : ∃ a b c d, l = [a, b, c, d] := by
  match l, h with
  | [a, b, c, d], _ => exact ⟨a, b, c, d, rfl⟩
theorem plusV_form (n d : List Int) (hn : n.length = 4) (hd : d.length = 4) : ∃ p0 p1 p2 p3 b, plusV n d = .tuple #[.agg #[.int .i64 p0, .int .i64 p1, .int .i64 p2, .int .i64 p3], .bool b] := by
  unfold plusV; split
  · obtain ⟨a, b, c, e, h⟩ := list4n (plusL n d) (by simp [plusL, hn, hd])
    rw [h]
    exact ⟨_, _, _, _, _, rfl⟩
  · exact ⟨_, _, _, _, _, rfl⟩
theorem set_in {X : List Int} {k : Nat} {v : Int} (h : allIn X) (hv : i64In v) : allIn (X.set k v) := fun z hz => by
  rcases List.mem_or_eq_of_mem_set hz with h1 | rfl
  · exact h z h1
  · exact hv
theorem set_map (X : List Int) (k : Nat) (v : Int) : (X.map i64V).set k (.int .i64 v) = (X.set k v).map i64V := by rw [List.map_set]; rfl

set_option maxHeartbeats 8000000 in
theorem sumsNotes_c (xs ys : List Int) (k : Nat) (small : Bool) (H : Heap) (la : xs.length = 4) (lb : ys.length = 4) (ha : allIn xs) (hb : allIn ys) (hk : k < 256) :
    ECalls Try.prog 4 #[aggV xs, aggV ys, .int .u8 k, .bool small] H fun r _ => r = .bool true := by
  refine ecalls_of_ewp (args := [_, _, _, _]) Try.func4 rfl rfl rfl (by simp [Try.ntmps4]) (by kernel_rfl) ?_
  unfold aggV
  simp (disch := first | omega | assumption | decide | (simp <;> omega) | fail) [facts, ]
  refine fresh_intro fun b4 hb4 => ?_
  simp (disch := first | omega | assumption | decide | (simp <;> omega) | fail) [facts, ]
  refine fresh_intro fun b5 hb5 => ?_
  have q45 : b4 ≠ b5 := ne_of_fresh hb5 (upd_same _ _ _)
  have l4 : upd (upd H b4 (.row true 0 (xs.map i64V) 0)) b5 (.row true 0 (ys.map i64V) 0) b4 = some (.row true 0 (xs.map i64V) 0) := by rw [upd_ne _ _ q45, upd_same]
  have l5 : upd (upd H b4 (.row true 0 (xs.map i64V) 0)) b5 (.row true 0 (ys.map i64V) 0) b5 = some (.row true 0 (ys.map i64V) 0) := upd_same _ _ _
  generalize upd (upd H b4 (.row true 0 (xs.map i64V) 0)) b5 (.row true 0 (ys.map i64V) 0) = H0 at *
  simp (disch := first | omega | assumption | decide | (simp <;> omega) | fail) [facts, ]
  refine (known_c H0).mono ?_
  rintro r H1 ⟨rfl, hle1⟩
  replace l4 := hle1 _ _ l4
  replace l5 := hle1 _ _ l5
  simp (disch := first | omega | assumption | decide | (simp <;> omega) | fail) [facts, ]
  refine w_cut (fun s => s.env 2 = .int .u8 k ∧ s.env 3 = .bool small ∧ s.env 4 = .pointer (some ⟨b4, 0, none⟩) ∧ s.env 5 = .pointer (some ⟨b5, 0, none⟩) ∧ ∃ b9 b10, s.env 9 = .pointer (some ⟨b9, 0, none⟩) ∧ s.env 10 = .pointer (some ⟨b10, 0, none⟩) ∧
    b9 ≠ b10 ∧ b4 ≠ b9 ∧ b4 ≠ b10 ∧ b5 ≠ b9 ∧ b5 ≠ b10 ∧ s.heap b4 = some (.row true 0 (xs.map i64V) 0) ∧ s.heap b5 = some (.row true 0 (ys.map i64V) 0) ∧ s.heap b9 = some (.row true 0 (xs.map i64V) 0) ∧ s.heap b10 = some (.row true 0 (ys.map i64V) 0)) ?_ ?_
  · have tx : List.take 4 (xs.map i64V) = xs.map i64V := List.take_of_length_le (by simp [la])
    have ty : List.take 4 (ys.map i64V) = ys.map i64V := List.take_of_length_le (by simp [lb])
    have rx : (xs.map i64V).length = 4 := by simp [la]
    have ry : (ys.map i64V).length = 4 := by simp [lb]
    have ox : (xs.map i64V).all (·.oneCell') = true := all_i64 _
    have oy : (ys.map i64V).all (·.oneCell') = true := all_i64 _
    generalize xs.map i64V = VX at *
    generalize ys.map i64V = VY at *
    refine w_plan (P := Try.prog) (by simp [facts]) (.both (opsP [0] (.both (opsP [1] (.both (opsP [2,3,4,5] .done) (opsP [3,2,4,5] .done))) (.both (opsP [2] (.both (opsP [1,3,4,5] .done) (opsP [3] (.both (opsP [1,4,5] .done) (opsP [4,1,5] .done))))) (opsP [3] (.both (opsP [1,2,4,5] .done) (opsP [2] (.both (opsP [1,4,5] .done) (opsP [4,1,5] .done)))))))) (.both (opsP [1] (.both (opsP [0] (.both (opsP [2,3,4,5] .done) (opsP [3,2,4,5] .done))) (.both (opsP [2] (.both (opsP [0,3,4,5] .done) (opsP [3,0,4,5] .done))) (opsP [3] (.both (opsP [0,2,4,5] .done) (opsP [2,0,4,5] .done)))))) (.both (opsP [2] (.both (opsP [0] (.both (opsP [1,3,4,5] .done) (opsP [3] (.both (opsP [1,4,5] .done) (opsP [4,1,5] .done))))) (.both (opsP [1] (.both (opsP [0,3,4,5] .done) (opsP [3,0,4,5] .done))) (opsP [3] (.both (opsP [0] (.both (opsP [1,4,5] .done) (opsP [4,1,5] .done))) (opsP [1,0,4,5] .done)))))) (opsP [3] (.both (opsP [0] (.both (opsP [1,2,4,5] .done) (opsP [2] (.both (opsP [1,4,5] .done) (opsP [4,1,5] .done))))) (.both (opsP [1] (.both (opsP [0,2,4,5] .done) (opsP [2,0,4,5] .done))) (opsP [2] (.both (opsP [0] (.both (opsP [1,4,5] .done) (opsP [4,1,5] .done))) (opsP [1,0,4,5] .done))))))))) ?_ ?_
    · decide +kernel
    simp (disch := first | omega | assumption | decide | (simp <;> omega) | fail) [facts, l4, l5, tx, ty, rx, ry]
    repeat' apply And.intro
    all_goals
      refine fresh_intro fun b hb => ?_
      have n4 : b4 ≠ b := fun h => by subst h; rw [l4] at hb; cases hb
      have n5 : b5 ≠ b := fun h => by subst h; rw [l5] at hb; cases hb
      simp (disch := first | omega | assumption | decide | (simp <;> omega) | fail) [facts, l4, l5, tx, ty, rx, ry, ox, oy, upd_ne, upd_upd]
      try (repeat' apply And.intro)
      all_goals
        refine fresh_intro fun c hc => ?_
        have mb : b ≠ c := fun h => by subst h; simp at hc
        have m4 : b4 ≠ c := fun h => by subst h; simp [upd_ne _ _ n4, l4] at hc
        have m5 : b5 ≠ c := fun h => by subst h; simp [upd_ne _ _ n5, l5] at hc
        have mb' := mb.symm
        simp (disch := first | omega | assumption | decide | (simp <;> omega) | fail) [facts, l4, l5, tx, ty, rx, ry, ox, oy, upd_ne, upd_upd]
        first | exact ⟨mb, n4, m4, n5, m5⟩ | exact ⟨mb', m4, n4, m5, n5⟩
  · rintro ⟨e, H2⟩ ⟨e2, e3, e4, e5, b9, b10, e9, e10, n910, n49, n410, n59, n510, l4, l5, l9, l10⟩
    simp only at e2 e3 e4 e5 e9 e10 l4 l5 l9 l10
    have n109 := n910.symm
    simp (disch := first | omega | assumption | decide | (simp <;> omega) | fail) [facts, e2, e3, e4, e5, e9, e10]
    refine w_cutB (fun s => s.env 9 = .pointer (some ⟨b9, 0, none⟩) ∧ s.env 10 = .pointer (some ⟨b10, 0, none⟩) ∧ ∃ X : List Int, X.length = 4 ∧ allIn X ∧ s.heap b9 = some (.row true 0 (X.map i64V) 0) ∧ ∃ Y : List Int, Y.length = 4 ∧ allIn Y ∧ s.heap b10 = some (.row true 0 (Y.map i64V) 0)) ?_ ?_
    · refine w_loop (fun s => ∃ j : Nat, j ≤ 4 ∧ s.env 2 = .int .u8 k ∧ s.env 3 = .bool small ∧ s.env 4 = .pointer (some ⟨b4, 0, none⟩) ∧ s.env 5 = .pointer (some ⟨b5, 0, none⟩) ∧ s.env 9 = .pointer (some ⟨b9, 0, none⟩) ∧ s.env 10 = .pointer (some ⟨b10, 0, none⟩) ∧ s.env 11 = .int .i64 j ∧
        s.heap b4 = some (.row true 0 (xs.map i64V) 0) ∧ s.heap b5 = some (.row true 0 (ys.map i64V) 0) ∧ ∃ X : List Int, X.length = 4 ∧ allIn X ∧ s.heap b9 = some (.row true 0 (X.map i64V) 0) ∧ ∃ Y : List Int, Y.length = 4 ∧ allIn Y ∧ s.heap b10 = some (.row true 0 (Y.map i64V) 0)) (fun s => 4 - (intOf (s.env 11)).toNat) ?_ ?_
      · exact ⟨0, by decide, by simp [e2], by simp [e3], by simp [e4], by simp [e5], by simp [e9], by simp [e10], by simp, l4, l5, xs, la, ha, l9, ys, lb, hb, l10⟩
      · rintro ⟨e, H3⟩ ⟨j, hj, e2, e3, e4, e5, e9, e10, e11, l4, l5, X, lX, hX, l9, Y, lY, hY, l10⟩
        simp only at e2 e3 e4 e5 e9 e10 e11 l4 l5 l9 l10
        by_cases hlt : (j : Int) < 4
        · obtain ⟨x, hx⟩ : ∃ x, xs[j]? = some x := ⟨_, List.getElem?_eq_getElem (by omega)⟩
          obtain ⟨y, hy⟩ : ∃ y, ys[j]? = some y := ⟨_, List.getElem?_eq_getElem (by omega)⟩
          have hxin : i64In x := ha x (List.mem_of_getElem? hx)
          have hyin : i64In y := hb y (List.mem_of_getElem? hy)
          have gx : (xs.map i64V)[j]? = some (.int .i64 x) := by rw [List.getElem?_map, hx]; rfl
          have gy : (ys.map i64V)[j]? = some (.int .i64 y) := by rw [List.getElem?_map, hy]; rfl
          have rx : (xs.map i64V).length = 4 := by simp [la]
          have ry : (ys.map i64V).length = 4 := by simp [lb]
          have rX : (X.map i64V).length = 4 := by simp [lX]
          have rY : (Y.map i64V).length = 4 := by simp [lY]
          have setX := fun v => set_map X j v
          have setY := fun v => set_map Y j v
          generalize xs.map i64V = VX at *
          generalize ys.map i64V = VY at *
          generalize hUX : X.map i64V = UX at *
          generalize hUY : Y.map i64V = UY at *
          obtain ⟨_, gx'⟩ := List.getElem?_eq_some_iff.1 gx
          obtain ⟨_, gy'⟩ := List.getElem?_eq_some_iff.1 gy
          cases small with
          | true =>
            simp (disch := first | omega | assumption | decide | (simp <;> omega) | fail) [facts, e2, e3, e4, e5, e9, e10, e11, hlt]
            refine w_plan (P := Try.prog) (by simp [facts]) (opsP [0,1,2,3,4,5,6,7,10] (.both (opsP [8,9,11,12,13] .done) (opsP [11,8,9,12,13] .done))) ?_ ?_
            · decide +kernel
            simp (disch := first | omega | assumption | decide | (simp <;> omega) | fail) [facts, e2, e3, e4, e5, e9, e10, e11, l4, l5, l9, l10, gx, gy, gx', gy', rx, ry, rX, rY, upd_ne]
            try (repeat' apply And.intro)
            all_goals
              exact ⟨_, Heap.le_refl _, ⟨j + 1, by omega, by simp [e2], by simp [e3], by simp [e4], by simp [e5], by simp [e9], by simp [e10], by simp, by simp [upd_ne, n49, n410, l4], by simp [upd_ne, n59, n510, l5],
                X.set j (x.tmod 10001), by simp [lX], set_in hX (tmod_in x 10001 (by decide) (by decide)), by rw [← setX]; simp [upd_ne, n910], Y.set j (y.tmod 100001), by simp [lY], set_in hY (tmod_in y 100001 (by decide) (by decide)), by rw [← setY]; simp [upd_ne, n109]⟩, by simp [intOf, e11]; omega⟩
          | false =>
            have hsh : shrK .u8 (k : Int) (j : Int) = ((k / 2 ^ j : Nat) : Int) := shrK_nat _ _ _ (by simp only [IntKind.bits]; omega)
            have hq1 : k / 2 ^ j < 256 := Nat.lt_of_le_of_lt (Nat.div_le_self _ _) hk
            have hq2 : k / 2 < 256 := by omega
            have hh : (k : Int) / 2 = ((k / 2 : Nat) : Int) := by omega
            generalize k / 2 ^ j = k1 at hsh hq1
            generalize k / 2 = k2 at hh hq2
            simp (disch := first | omega | assumption | decide | (simp <;> omega) | fail) [facts, e2, e3, e4, e5, e9, e10, e11, hlt]
            refine w_plan (P := Try.prog) (by simp [facts]) (opsP [0,1,2,3,5,6,7,9,10,12,13] (.both (opsP [4] (.both (opsP [8,15,11,14,16,17,18] .done) (opsP [11,8,15,14,16,17,18] .done))) (opsP [11,4,8,15,14,16,17,18] .done))) ?_ ?_
            · decide +kernel
            simp (disch := first | omega | assumption | decide | (simp <;> omega) | fail) [facts, e2, e3, e4, e5, e9, e10, e11, l4, l5, l9, l10, gx, gy, gx', gy', rx, ry, rX, rY, upd_ne, hsh, hh]
            try (repeat' apply And.intro)
            all_goals
              refine (near_c x k1 _ hxin hq1).mono ?_
              rintro r H4 ⟨rfl, rfl⟩
              simp (disch := first | omega | assumption | decide | (simp <;> omega) | fail) [facts, e2, e3, e4, e5, e9, e10, e11, l4, l5, l9, l10, gx, gy, gx', gy', rx, ry, rX, rY, upd_ne, hsh, hh]
              refine (near_c y k2 _ hyin hq2).mono ?_
              rintro r H4 ⟨rfl, rfl⟩
              simp (disch := first | omega | assumption | decide | (simp <;> omega) | fail) [facts, e2, e3, e4, e5, e9, e10, e11, l4, l5, l9, l10, gx, gy, gx', gy', rx, ry, rX, rY, upd_ne, hsh, hh]
              exact ⟨_, Heap.le_refl _, ⟨j + 1, by omega, by simp [e2], by simp [e3], by simp [e4], by simp [e5], by simp [e9], by simp [e10], by simp, by simp [upd_ne, n49, n410, l4], by simp [upd_ne, n59, n510, l5],
                X.set j (nearZ x k1), by simp [lX], set_in hX (nearZ_in _ _ hxin), by rw [← setX]; simp [upd_ne, n910], Y.set j (nearZ y k2), by simp [lY], set_in hY (nearZ_in _ _ hyin), by rw [← setY]; simp [upd_ne, n109]⟩, by simp [intOf, e11]; omega⟩
        · have hj4 : j = 4 := by omega
          subst hj4
          simp (disch := first | omega | assumption | decide | (simp <;> omega) | fail) [facts, e2, e3, e4, e5, e9, e10, e11, hlt]
          exact ⟨X, lX, hX, l9, Y, lY, hY, l10⟩
    · rintro ⟨e, H3⟩ ⟨e9, e10, X, lX, hX, l9, Y, lY, hY, l10⟩
      simp only at e9 e10 l9 l10
      have tX : List.take 4 (X.map i64V) = X.map i64V := List.take_of_length_le (by simp [lX])
      have tY : List.take 4 (Y.map i64V) = Y.map i64V := List.take_of_length_le (by simp [lY])
      have rX : (X.map i64V).length = 4 := by simp [lX]
      have rY : (Y.map i64V).length = 4 := by simp [lY]
      have cw := fun H => worth_c X Y H lX lY hX hY
      have cwR := fun H => worthR_c X Y H lX lY hX hY
      have cp := fun H => plus_c X Y H lX lY hX hY
      have cpR := fun H => plusR_c X Y H lX lY hX hY
      have cc := fun H => count_c X H lX hX
      have ccR := fun H => countR_c X H lX hX
      obtain ⟨w, wb, fw⟩ := worthV_form X Y
      obtain ⟨p0, p1, p2, p3, pb, fp⟩ := plusV_form X Y lX lY
      obtain ⟨t, tb, ft, htin⟩ := totV_form X.sum
      unfold i64In at htin
      rw [fw] at cw cwR
      rw [fp] at cp cpR
      rw [ft] at cc ccR
      unfold aggV at cw cwR cp cpR cc ccR
      generalize X.map i64V = VX at *
      generalize Y.map i64V = VY at *
      simp (disch := first | omega | assumption | decide | (simp <;> omega) | fail) [facts, e9, e10, l9, l10, tX, tY, rX, rY]
      refine (cw _).mono ?_
      rintro r H4 ⟨rfl, hle4⟩
      replace l9 := hle4 _ _ l9
      replace l10 := hle4 _ _ l10
      simp (disch := first | omega | assumption | decide | (simp <;> omega) | fail) [facts, e9, e10, l9, l10, tX, tY, rX, rY]
      refine (cwR _).mono ?_
      rintro r H5 ⟨rfl, hle5⟩
      replace l9 := hle5 _ _ l9
      replace l10 := hle5 _ _ l10
      simp (disch := first | omega | assumption | decide | (simp <;> omega) | fail) [facts, e9, e10, l9, l10, tX, tY, rX, rY]
      refine (cp _).mono ?_
      rintro r H6 ⟨rfl, hle6⟩
      replace l9 := hle6 _ _ l9
      replace l10 := hle6 _ _ l10
      simp (disch := first | omega | assumption | decide | (simp <;> omega) | fail) [facts, e9, e10, l9, l10, tX, tY, rX, rY]
      refine fresh_intro fun b16 hb16 => ?_
      simp (disch := first | omega | assumption | decide | (simp <;> omega) | fail) [facts, e9, e10, l9, l10, tX, tY, rX, rY, upd_upd]
      replace l9 := upd_other (o := .row true 0 [.int .i64 p0, .int .i64 p1, .int .i64 p2, .int .i64 p3] 0) hb16 l9
      replace l10 := upd_other (o := .row true 0 [.int .i64 p0, .int .i64 p1, .int .i64 p2, .int .i64 p3] 0) hb16 l10
      have l16 := upd_same H6 b16 (.row true 0 [.int .i64 p0, .int .i64 p1, .int .i64 p2, .int .i64 p3] 0)
      generalize upd H6 b16 (.row true 0 [.int .i64 p0, .int .i64 p1, .int .i64 p2, .int .i64 p3] 0) = H7 at *
      simp (disch := first | omega | assumption | decide | (simp <;> omega) | fail) [facts, e9, e10, l9, l10, tX, tY, rX, rY]
      refine (cpR _).mono ?_
      rintro r H8 ⟨rfl, hle8⟩
      replace l9 := hle8 _ _ l9
      replace l10 := hle8 _ _ l10
      replace l16 := hle8 _ _ l16
      simp (disch := first | omega | assumption | decide | (simp <;> omega) | fail) [facts, e9, e10, l9, l10, tX, tY, rX, rY]
      refine fresh_intro fun b18 hb18 => ?_
      simp (disch := first | omega | assumption | decide | (simp <;> omega) | fail) [facts, e9, e10, l9, l10, tX, tY, rX, rY, upd_upd]
      replace l9 := upd_other (o := .row true 0 [.int .i64 p0, .int .i64 p1, .int .i64 p2, .int .i64 p3] 0) hb18 l9
      replace l16 := upd_other (o := .row true 0 [.int .i64 p0, .int .i64 p1, .int .i64 p2, .int .i64 p3] 0) hb18 l16
      have l18 := upd_same H8 b18 (.row true 0 [.int .i64 p0, .int .i64 p1, .int .i64 p2, .int .i64 p3] 0)
      generalize upd H8 b18 (.row true 0 [.int .i64 p0, .int .i64 p1, .int .i64 p2, .int .i64 p3] 0) = H9 at *
      simp (disch := first | omega | assumption | decide | (simp <;> omega) | fail) [facts, e9, e10, l9, tX, rX]
      refine (cc _).mono ?_
      rintro r H10 ⟨rfl, hle10⟩
      replace l9 := hle10 _ _ l9
      replace l16 := hle10 _ _ l16
      replace l18 := hle10 _ _ l18
      simp (disch := first | omega | assumption | decide | (simp <;> omega) | fail) [facts, e9, e10, l9, tX, rX]
      refine (ccR _).mono ?_
      rintro r H11 ⟨rfl, hle11⟩
      replace l16 := hle11 _ _ l16
      replace l18 := hle11 _ _ l18
      simp (disch := first | omega | assumption | decide | (simp <;> omega) | fail) [facts, e9, e10, l16, l18]
      exact ⟨_, Heap.le_refl _⟩
end Go.Proofs.Yteflnceomhndmaa.GL
