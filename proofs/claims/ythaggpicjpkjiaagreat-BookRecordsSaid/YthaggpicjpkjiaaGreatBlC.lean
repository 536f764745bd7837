/- Layer 20: known. -/
import Derived.Test.YthaggpicjpkjiaaGreatBlB
namespace Go.Proofs.YthaggpicjpkjiaaGreat.GL
open Go Go.RowKit
open St (Txn txnL txnV zeroT RightT OkT Rec recV stepF)
open Ca (S4 flat setV OkS CassOk newS)
set_option maxRecDepth 10000
set_option pp.deepTerms.threshold 8
set_option pp.maxSteps 3000
set_option linter.unusedSimpArgs false
set_option linter.unusedVariables false

def kr1 : Rec := ⟨1, 1, 2, [53, 49], 600, 0, 0, 0, 0, 0, 0, 0, 0, 0, 0, 0, 0⟩
def kr2 : Rec := ⟨9, 99, 0, [], 0, 0, 0, 0, 0, 0, 0, 0, 0, 0, 0, 0, 0⟩
def kt1 : Txn := (stepF zeroT kr1).1
theorem bok_new {T : List S4} (h : ∀ s ∈ T, CassOk s) (hT : T.length ≤ 8) : BOk ⟨T.map tm0, []⟩ := by
  refine ⟨by simpa using hT, fun x hx => ?_, by simp [Sorted], by simp, by simp⟩
  obtain ⟨s, hs, rfl⟩ := List.mem_map.1 hx
  exact ok_newS (h s hs)
theorem kstep1 : (stepF zeroT kr1).2 = 0 := by decide +kernel
theorem kright1 : kr1.rz.right = true := by decide +kernel
theorem kright2 : kr2.rz.right = true := by decide +kernel
theorem kdo1 {T : List Tm} (hT : T.length = 3) : doB ⟨T, []⟩ kr1 = (⟨T, [kt1]⟩, 0) := by
  obtain ⟨x, hx⟩ : ∃ x, T[1]? = some x := ⟨_, List.getElem?_eq_getElem (by omega)⟩
  unfold doB
  rw [kright1, if_neg (by decide)]
  have h1 : T[kr1.term.toNat]? = some x := hx
  simp only [h1]
  rw [if_neg (by decide), if_neg (by decide)]
  unfold stepB
  have hg : getK (kyR kr1) [] = none := rfl
  simp only [hg, Option.getD_none, kstep1]
  rw [if_neg (by decide), if_neg (by decide), if_neg (by decide)]
  rfl
theorem kdo2 {T : List Tm} (hT : T.length = 3) : doB ⟨T, [kt1]⟩ kr2 = (⟨T, [kt1]⟩, 32) := by
  unfold doB
  rw [kright2, if_neg (by decide)]
  have h1 : T[kr2.term.toNat]? = none := List.getElem?_eq_none (by show T.length ≤ 99; omega)
  simp only [h1]
set_option maxHeartbeats 1600000 in
theorem known20_c (H : Heap) : ECalls Tryz.prog 4 #[] H fun v H' => v = .bool true ∧ Heap.le H H' := by
  refine ecalls_of_ewp (args := []) Tryz.func4 rfl rfl rfl (by simp [Tryz.ntmps4]) (by kernel_rfl) ?_
  have hb1 := fun H => bank_c 2 1 H (by decide) (by decide)
  simp (disch := first | omega | assumption | decide | (simp <;> omega) | fail) [facts, ]
  refine (hb1 H).mono ?_
  rintro v H1 ⟨T, U, owU, hC, hT⟩
  have hT3 : T.length = 3 := by omega
  simp (disch := first | omega | assumption | decide | (simp <;> omega) | fail) [facts, ]
  refine (bnew_c v T 1 U H1 owU.le hC (by omega) (by omega) (by decide)).mono ?_
  rintro w H2 ⟨p, R, fv, tv, m, rfl, ow, hB, _⟩
  have hok := bok_new hC.ok (by omega)
  have hTl : (T.map tm0).length = 3 := by rw [List.length_map]; exact hT3
  have hT1 : ∃ x : Tm, (T.map tm0)[1]? = some x ∧ x.out = false ∧ x.ld = 0 := by
    obtain ⟨s, hs⟩ : ∃ s, T[1]? = some s := ⟨_, List.getElem?_eq_getElem (by omega)⟩
    exact ⟨tm0 s, by rw [List.getElem?_map, hs]; rfl, rfl, rfl⟩
  generalize T.map tm0 = Tm0 at hB hok hTl hT1
  have hd1 := kdo1 hTl
  have hd2 := kdo2 hTl
  have hle := Heap.le_trans owU.all ow.all
  have hok1 := doB_ok hok kr1 (by decide)
  rw [hd1] at hok1
  simp only at hok1
  simp (disch := first | omega | assumption | decide | (simp <;> omega) | fail) [facts, ]
  refine fresh_intro fun b2 hb2 => ?_
  have r2 := upd_same H2 b2 (.row true 0 [.int .u16 1, .int .u32 2] 0)
  have ow2 := ow.grow (le_upd (.row true 0 [.int .u16 1, .int .u32 2] 0) hb2)
  simp (disch := first | omega | assumption | decide | (simp <;> omega) | fail) [facts, upd_upd]
  generalize upd H2 b2 _ = H3 at *
  have c1 := bdo_c H3 R p fv tv m [] [] Tm0 ow2.le hB (List.Perm.refl _) hok kr1 (by decide) (by decide) (by decide)
  rw [hd1] at c1
  simp only [recV, kr1] at c1
  refine c1.mono ?_
  rintro v H4 ⟨rfl, R4, M4, ow4, hB4, hp4⟩
  have ow5 := ow2.trans ow4
  have c2 := bdo_c H4 R4 p fv tv m M4 [kt1] Tm0 ow5.le hB4 hp4 hok1 kr2 (by decide) (by decide) (by decide)
  rw [hd2] at c2
  simp only [recV, kr2] at c2
  simp (disch := first | omega | assumption | decide | (simp <;> omega) | fail) [facts, ]
  refine c2.mono ?_
  rintro v H5 ⟨rfl, R5, M5, ow6, hB5, hp5⟩
  have ow7 := ow5.trans ow6
  have r2' : H5 b2 = some (.row true 0 [.int .u16 1, .int .u32 2] 0) := ((ow4.trans ow6).mv b2 _ (le_of_none ow.le hb2) r2).2
  have c3 := get_c H5 p fv tv m M5 Tm0 (hB5.le ow7.le) ⟨1, 2⟩
  have hM5 : M5 = [kt1] := List.perm_singleton.1 hp5
  have hg5 : getK ⟨1, 2⟩ M5 = some kt1 := by rw [hM5]; rfl
  rw [hg5] at c3
  simp only [encK, Option.getD_some, Option.isSome_some] at c3
  simp (disch := first | omega | assumption | decide | (simp <;> omega) | fail) [facts, r2']
  refine c3.mono ?_
  rintro v H6 ⟨rfl, hle6⟩
  have ow8 := ow7.grow hle6
  simp only [txnV]
  obtain ⟨tl, htl⟩ : ∃ tl, tl = txnL kt1 := ⟨_, rfl⟩
  rw [← htl]
  have tl11 : tl.length = 11 := by rw [htl]; rfl
  have tl1 : tl.all (·.oneCell') = true := by rw [htl]; rfl
  have hsp : splice [.int .u16 0, .int .u32 0, .string (mkS []), .int .i64 0, .int .i64 0, .int .i64 0, .int .i64 0, .int .i64 0, .int .i64 0, .int .i64 0, .int .i64 0] 0 tl = tl := splice_all (by rw [tl11]; rfl)
  have g4 : tl[4]? = some (.int .i64 1) := by rw [htl]; rfl
  obtain ⟨_, g4b⟩ := List.getElem?_eq_some_iff.1 g4
  simp (disch := first | omega | assumption | decide | (simp <;> omega) | fail) [facts, ]
  refine fresh_intro fun b3 hb3 => ?_
  have r3 := upd_same H6 b3 (.row true 0 tl 0)
  have ow9 := ow8.grow (le_upd (.row true 0 tl 0) hb3)
  simp (disch := first | omega | assumption | decide | (simp <;> omega) | fail) [facts, upd_upd, hsp]
  generalize upd H6 b3 _ = H7 at *
  have c4 := cassettes_c H7 p fv tv m M5 Tm0 (hB5.le ow9.le) 99 (by decide) (by omega)
  have hcz : cassZ Tm0 99 = .tuple #[.agg (flat zeroS).toArray, .bool false] := by
    unfold cassZ
    have h1 : Tm0[99]? = none := List.getElem?_eq_none (by omega)
    have h2 : ¬ 99 < Tm0.length := by omega
    simp only [h1, h2, decide_false]
    rfl
  rw [hcz] at c4
  refine c4.mono ?_
  rintro v H8 ⟨rfl, hle8⟩
  have ow10 := ow9.grow hle8
  have r3' := hle8 _ _ r3
  obtain ⟨zl, hzl⟩ : ∃ zl, zl = flat zeroS := ⟨_, rfl⟩
  rw [← hzl]
  have zl16 : zl.length = 16 := by rw [hzl]; rfl
  have zl1 : zl.all (·.oneCell') = true := by rw [hzl]; rfl
  have hsz : splice [.int .i64 0, .int .i64 0, .int .i64 0, .int .i64 0, .int .i64 0, .int .i64 0, .int .i64 0, .int .i64 0, .int .i64 0, .int .i64 0, .int .i64 0, .int .i64 0, .int .i64 0, .int .i64 0, .int .i64 0, .int .i64 0] 0 zl = zl := splice_all (by rw [zl16]; rfl)
  simp (disch := first | omega | assumption | decide | (simp <;> omega) | fail) [facts, ]
  refine fresh_intro fun b5 hb5 => ?_
  have r3b := upd_other (o := .row true 0 zl 0) hb5 r3'
  have ow11 := ow10.grow (le_upd (.row true 0 zl 0) hb5)
  simp (disch := first | omega | assumption | decide | (simp <;> omega) | fail) [facts, upd_upd, hsz]
  generalize upd H8 b5 _ = H9 at *
  have hs1 : Sorted [kt1] := by simp [Sorted]
  have c5 := all_c H9 p fv tv m M5 [kt1] Tm0 (hB5.le ow11.le) hp5 hs1 (by decide)
  simp (disch := first | omega | assumption | decide | (simp <;> omega) | fail) [facts, r3b, g4, g4b]
  refine c5.mono ?_
  rintro v HA ⟨RA, owA, lA⟩
  obtain ⟨aA, cA, rfl, _, _⟩ := lA.sl owA.le
  have owB := ow11.grow owA.all
  have c6 := bopen_c HA p fv tv m M5 [kt1] Tm0 (hB5.le owB.le) hp5 hs1 (by decide) 1
  have hf1 : [kt1].filter (keepB 1) = [kt1] := by
    have : keepB 1 kt1 = true := by decide +kernel
    simp [List.filter, this]
  have hf0 : [kt1].filter (keepB 0) = [] := by
    have : keepB 0 kt1 = false := by decide +kernel
    simp [List.filter, this]
  rw [hf1] at c6
  simp (disch := first | omega | assumption | decide | (simp <;> omega) | fail) [facts, ]
  refine c6.mono ?_
  rintro v HB ⟨RB, owC, lB⟩
  obtain ⟨aB, cB, rfl, _, _⟩ := lB.sl owC.le
  have owD := owB.grow owC.all
  have c7 := bopen_c HB p fv tv m M5 [kt1] Tm0 (hB5.le owD.le) hp5 hs1 (by decide) 0
  rw [hf0] at c7
  simp (disch := first | omega | assumption | decide | (simp <;> omega) | fail) [facts, ]
  refine c7.mono ?_
  rintro v HC ⟨RC, owE, lC⟩
  obtain ⟨aC, cC, rfl, _, _⟩ := lC.sl owE.le
  have owF := owD.grow owE.all
  obtain ⟨x1, hx1, hxo, hxl⟩ := hT1
  have c8 := out_c HC p fv tv m M5 Tm0 (hB5.le owF.le) 1 (by decide) (by omega)
  have c9 := loads_c HC p fv tv m M5 Tm0 (hB5.le owF.le) 1 (by decide) (by omega)
  rw [hx1] at c8 c9
  simp only [hxo, hxl] at c8 c9
  simp (disch := first | omega | assumption | decide | (simp <;> omega) | fail) [facts, ]
  refine c8.mono ?_
  rintro v HD ⟨rfl, rfl⟩
  simp (disch := first | omega | assumption | decide | (simp <;> omega) | fail) [facts, ]
  refine c9.mono ?_
  rintro v HD ⟨rfl, rfl⟩
  simp (disch := first | omega | assumption | decide | (simp <;> omega) | fail) [facts, ]
  exact ⟨_, Heap.le_refl _, Heap.le_trans owU.all owF.all⟩
end Go.Proofs.YthaggpicjpkjiaaGreat.GL
