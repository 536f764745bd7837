/- Layer 23: cassettes that count otherwise: report.Diffs and the reference's. -/
import Derived.Test.YtfpighmafofoeaaDoorRpA
import Derived.Test.YtfpighmafofoeaaDoorBkS
import Derived.Test.YtfpighmafofoeaaDoorGlOb
namespace Go.Proofs.YtfpighmafofoeaaDoor.GL
open Go Go.RowKit
open Su (i64In)
open Ca (Cs S4 flat setV)
set_option maxRecDepth 10000
set_option pp.deepTerms.threshold 8
set_option pp.maxSteps 3000
set_option linter.unusedSimpArgs false
set_option linter.unusedVariables false

def csC (c : Cs) : List Value := [.int .i64 c.d, .int .i64 c.l, .int .i64 c.g, .int .i64 c.r]
theorem csC4 (c : Cs) : (csC c).length = 4 := rfl
theorem csC1 (c : Cs) : (csC c).all (·.oneCell') = true := rfl
/-- A difference told. -/
structure Df where
  i : Nat
  g : Int
  r : Int
def Df.cells (d : Df) : List Value := [.int .i64 d.i, .int .i64 d.g, .int .i64 d.r]
theorem df3 (d : Df) : d.cells.length = 3 := rfl
theorem df1 (d : Df) : d.cells.all (·.oneCell') = true := rfl
def dfAt (cs : List Cs) (gs rs : List Int) (k : Nat) : List Df :=
  match cs[k]?, gs[k]?, rs[k]? with
  | some c, some g, some r => if g = c.g ∧ r = c.r then [] else [⟨k, lessZ g c.g, lessZ r c.r⟩]
  | _, _, _ => []
def dfTo (cs : List Cs) (gs rs : List Int) (k : Nat) : List Df := (List.range k).flatMap (dfAt cs gs rs)
theorem dfTo_succ (cs : List Cs) (gs rs : List Int) (k : Nat) : dfTo cs gs rs (k + 1) = dfTo cs gs rs k ++ dfAt cs gs rs k := by
  unfold dfTo
  rw [List.range_succ, List.flatMap_append]
  simp
theorem dfAt_len (cs : List Cs) (gs rs : List Int) (k : Nat) : (dfAt cs gs rs k).length ≤ 1 := by
  unfold dfAt
  split
  · split <;> simp
  · simp
theorem dfTo_len (cs : List Cs) (gs rs : List Int) : ∀ k, (dfTo cs gs rs k).length ≤ k
  | 0 => by simp [dfTo]
  | k + 1 => by
    have h1 := dfTo_len cs gs rs k
    have h2 := dfAt_len cs gs rs k
    rw [dfTo_succ, List.length_append]; omega
def notV (ns : List Int) : Value := .agg (ns.map i64V).toArray
def cssV (cs : List Cs) : Value := .agg (rowsC csC cs).toArray
theorem zeroDf : zeroV Tryd.prog 46 = some (.agg #[.int .i64 0, .int .i64 0, .int .i64 0]) := by
  simp [facts]
theorem df_app {H H1 : Heap} {K : Kont} {v : Value} {n b : Nat} {cs : List Value} {d : Df} (ho : Out H H1 v 3 n cs) (hle : Heap.le H H1) (hb : H1 b = some (.row true 0 d.cells 0)) (hn : n ≤ 1000)
    (hK : ∀ v' H', Heap.le H H' → Out H H' v' 3 (n + 1) (cs ++ d.cells) → K v' H') :
    eApp Tryd.prog 30 30 v (.slice (some ⟨b, 0, none⟩) 1 1) H1 K := by
  have hs : SlA H1 (some ⟨b, 0, none⟩) 1 3 (rowsC Df.cells [d]) := SlA.row hb (Nat.le_refl _) rfl (Nat.le_refl 3) rfl
  have e : rowsC Df.cells [d] = d.cells := rowsC_single d
  rw [e] at hs
  refine Out.app (e := 46) (s := 3) (nbs := 24) (z := .agg #[.int .i64 0, .int .i64 0, .int .i64 0]) (H := H) (m := 1) (ys := d.cells) (by simp [facts]) (by simp [facts]) (by simp [facts]) zeroDf rfl (by decide) hle ho
    (src_sl (e1 := 46) (z := .agg #[.int .i64 0, .int .i64 0, .int .i64 0]) (by simp [facts]) (by simp [facts]) zeroDf hs) rfl (df1 d) (by omega) ?_
  intro v' H' h1 _ h2
  exact hK v' H' h1 h2
def dInv (F : Heap) (b4 b5 : Nat) (xl : List Value) (cs : List Cs) (gs rs : List Int) (s : St) : Prop :=
  ∃ k : Nat, k ≤ 4 ∧ s.env 4 = .pointer (some ⟨b4, 0, none⟩) ∧ s.env 5 = .pointer (some ⟨b5, 0, none⟩) ∧ s.env 10 = .agg xl.toArray ∧ s.env 11 = .int .i64 k ∧ Heap.le F s.heap ∧ ∃ v, s.env 7 = v ∧ Out F s.heap v 3 (dfTo cs gs rs k).length (rowsC Df.cells (dfTo cs gs rs k))
def drInv (F : Heap) (b3 b4 b5 : Nat) (cs : List Cs) (gs rs : List Int) (s : St) : Prop :=
  ∃ k : Nat, k ≤ 4 ∧ s.env 3 = .pointer (some ⟨b3, 0, none⟩) ∧ s.env 4 = .pointer (some ⟨b4, 0, none⟩) ∧ s.env 5 = .pointer (some ⟨b5, 0, none⟩) ∧ s.env 8 = .int .i64 k ∧ Heap.le F s.heap ∧ ∃ v, s.env 7 = v ∧ Out F s.heap v 3 (dfTo cs gs rs k).length (rowsC Df.cells (dfTo cs gs rs k))
/-- What is told of differences. -/
def DfOut (H : Heap) (D : List Df) (v : Value) (H' : Heap) : Prop := Heap.le H H' ∧ ∃ a c, v = .slice a D.length c ∧ SlA H' a D.length 3 (rowsC Df.cells D)
set_option maxHeartbeats 1000000 in
theorem diffs_o (cs : List Cs) (gs rs : List Int) (H : Heap) (hc : cs.length = 4) (hg : gs.length = 4) (hr : rs.length = 4) (hci : ∀ c ∈ cs, i64In c.g ∧ i64In c.r) (hgi : ∀ z ∈ gs, i64In z) (hri : ∀ z ∈ rs, i64In z) :
    ECalls Tryd.prog 9 #[cssV cs, notV gs, notV rs] H fun v H' => Heap.le H H' ∧ Out H H' v 3 (dfTo cs gs rs 4).length (rowsC Df.cells (dfTo cs gs rs 4)) := by
  refine ecalls_of_ewp (args := [_, _, _]) Tryd.func9 rfl rfl rfl (by simp [Tryd.ntmps9]) (by kernel_rfl) ?_
  unfold cssV notV
  have hat : ∀ (k : Nat) (c : Cs), cs[k]? = some c → List.take 4 (List.drop (k * 4) (rowsC csC cs)) = csC c := fun k c h => rowsC_at csC4 h
  obtain ⟨xl, hxl⟩ : ∃ xl, xl = rowsC csC cs := ⟨_, rfl⟩
  have xl16 : xl.length = 16 := by rw [hxl, rowsC_len csC4, hc]
  have k16 : List.take 16 xl = xl := List.take_of_length_le (by omega)
  rw [← hxl]
  rw [← hxl] at hat
  have kg : List.take 4 (gs.map i64V) = gs.map i64V := List.take_of_length_le (by simp [hg])
  have kr : List.take 4 (rs.map i64V) = rs.map i64V := List.take_of_length_le (by simp [hr])
  simp (disch := first | omega | assumption | decide | (simp <;> omega) | fail) [facts, ]
  refine fresh_intro fun b3 hb3 => ?_
  simp (disch := first | omega | assumption | decide | (simp <;> omega) | fail) [facts, ]
  refine fresh_intro fun b4 hb4 => ?_
  simp (disch := first | omega | assumption | decide | (simp <;> omega) | fail) [facts, ]
  refine fresh_intro fun b5 hb5 => ?_
  have r3 := upd_other (o := .row true 0 (rs.map i64V) 0) hb5 (upd_other (o := .row true 0 (gs.map i64V) 0) hb4 (upd_same H b3 (.row true 0 xl 0)))
  have r4 := upd_other (o := .row true 0 (rs.map i64V) 0) hb5 (upd_same (upd H b3 (.row true 0 xl 0)) b4 (.row true 0 (gs.map i64V) 0))
  have r5 := upd_same (upd (upd H b3 (.row true 0 xl 0)) b4 (.row true 0 (gs.map i64V) 0)) b5 (.row true 0 (rs.map i64V) 0)
  have hF := Heap.le_trans (le_upd (.row true 0 xl 0) hb3) (Heap.le_trans (le_upd (.row true 0 (gs.map i64V) 0) hb4) (le_upd (.row true 0 (rs.map i64V) 0) hb5))
  generalize upd (upd (upd H b3 (.row true 0 xl 0)) b4 (.row true 0 (gs.map i64V) 0)) b5 (.row true 0 (rs.map i64V) 0) = F at *
  simp (disch := first | omega | assumption | decide | (simp <;> omega) | fail) [facts, r3, k16]
  refine w_loop (dInv F b4 b5 xl cs gs rs) (fun s => 4 - (intOf (s.env 11)).toNat) ?_ ?_
  · exact ⟨0, Nat.zero_le _, by simp, by simp, by simp, by simp, Heap.le_refl _, .slice none 0 0, by simp, Out.nil _ _ _⟩
  rintro ⟨e, G⟩ ⟨k, hk, e4, e5, e10, e11, hle, v, e7, hout⟩
  simp only at e4 e5 e10 e11 e7 hle hout
  have hkl := dfTo_len cs gs rs k
  by_cases hlt : k < 4
  · have hltI : (k : Int) < 4 := by omega
    obtain ⟨c, hcx⟩ : ∃ c, cs[k]? = some c := ⟨_, List.getElem?_eq_getElem (by omega)⟩
    obtain ⟨g, hgx⟩ : ∃ g, gs[k]? = some g := ⟨_, List.getElem?_eq_getElem (by omega)⟩
    obtain ⟨r, hrx⟩ : ∃ r, rs[k]? = some r := ⟨_, List.getElem?_eq_getElem (by omega)⟩
    obtain ⟨hgk, hgx'⟩ := List.getElem?_eq_some_iff.1 hgx
    obtain ⟨hrk, hrx'⟩ := List.getElem?_eq_some_iff.1 hrx
    have hci' := hci c (List.mem_of_getElem? hcx)
    have hgi' := hgi g (List.mem_of_getElem? hgx)
    have hri' := hri r (List.mem_of_getElem? hrx)
    have hca := hat k c hcx
    have hda : dfAt cs gs rs k = if g = c.g ∧ r = c.r then [] else [⟨k, lessZ g c.g, lessZ r c.r⟩] := by unfold dfAt; rw [hcx, hgx, hrx]
    have hsu := dfTo_succ cs gs rs k
    unfold csC at hca
    have hspl : splice [.int .i64 0, .int .i64 0, .int .i64 0, .int .i64 0] 0 [.int .i64 c.d, .int .i64 c.l, .int .i64 c.g, .int .i64 c.r] = [.int .i64 c.d, .int .i64 c.l, .int .i64 c.g, .int .i64 c.r] := rfl
    have g4 := hle _ _ r4
    have g5 := hle _ _ r5
    simp (disch := first | omega | assumption | decide | (simp <;> omega) | fail) [facts, e10, e11, hltI, hca]
    refine fresh_intro fun b9 hb9 => ?_
    have r9 := upd_same G b9 (.row true 0 [.int .i64 c.d, .int .i64 c.l, .int .i64 c.g, .int .i64 c.r] 0)
    have h4 := upd_other (o := .row true 0 [.int .i64 c.d, .int .i64 c.l, .int .i64 c.g, .int .i64 c.r] 0) hb9 g4
    have h5 := upd_other (o := .row true 0 [.int .i64 c.d, .int .i64 c.l, .int .i64 c.g, .int .i64 c.r] 0) hb9 g5
    have hle9 := Heap.le_trans hle (le_upd (.row true 0 [.int .i64 c.d, .int .i64 c.l, .int .i64 c.g, .int .i64 c.r] 0) hb9)
    have hout9 := hout.up (le_upd (.row true 0 [.int .i64 c.d, .int .i64 c.l, .int .i64 c.g, .int .i64 c.r] 0) hb9)
    simp (disch := first | omega | assumption | decide | (simp <;> omega) | fail) [facts, upd_upd, hspl]
    generalize upd G b9 _ = G9 at *
    refine w_plan (P := Tryd.prog) (by simp [facts]) (opsP [0,1,2,3,4,5,6,7,8,9,10,11,12,13] .done) ?_ ?_
    · decide +kernel
    by_cases heq : g = c.g ∧ r = c.r
    · obtain ⟨q1, q2⟩ := heq
      subst q1 q2
      have hda0 : dfAt cs gs rs k = [] := by rw [hda]; simp
      rw [hda0, List.append_nil] at hsu
      simp (disch := first | omega | assumption | decide | (simp <;> omega) | fail) [facts, e4, e5, h4, h5, r9, hgx, hgx', hrx, hrx', hg, hr, e11]
      refine ⟨_, Heap.le_refl _, ⟨k + 1, by omega, by simp [e4], by simp [e5], by simp [e10], by simp, hle9, v, by simp [e7], by rw [hsu]; exact hout9⟩, by simp [intOf, e11]; omega⟩
    · have hda1 : dfAt cs gs rs k = [⟨k, lessZ g c.g, lessZ r c.r⟩] := by rw [hda, if_neg heq]
      rw [hda1] at hsu
      have cl1 := fun H => less_c g c.g H hgi' hci'.1
      have cl2 := fun H => less_c r c.r H hri' hci'.2
      obtain ⟨d1, hd1⟩ : ∃ z, lessZ g c.g = z := ⟨_, rfl⟩
      obtain ⟨d2, hd2⟩ : ∃ z, lessZ r c.r = z := ⟨_, rfl⟩
      rw [hd1] at cl1 hsu
      rw [hd2] at cl2 hsu
      have hspl3 : splice (zeros [.int .i64 0, .int .i64 0, .int .i64 0] 1) 0 [.int .i64 k, .int .i64 d1, .int .i64 d2] = [.int .i64 k, .int .i64 d1, .int .i64 d2] := rfl
      by_cases q1 : g = c.g
      all_goals first
        | (have q2 : ¬ r = c.r := fun q2 => heq ⟨q1, q2⟩
           simp (disch := first | omega | assumption | decide | (simp <;> omega) | fail) [facts, e4, e5, h4, h5, r9, hgx, hgx', hrx, hrx', hg, hr, e11, eq_true q1, q2])
        | simp (disch := first | omega | assumption | decide | (simp <;> omega) | fail) [facts, e4, e5, h4, h5, r9, hgx, hgx', hrx, hrx', hg, hr, e11, q1]
      all_goals
        refine w_growL2 (by simp [facts]) 16 [29,30,31,32,33,34,35,36,37,38,39,40,41,42,43,44] [.eq v, .eq (.int .i64 k), .eq (.int .i64 k), .eq (.pointer (some ⟨b4, k, none⟩)), .eq (.int .i64 g), .eq (.pointer (some ⟨b9, 2, none⟩)), .eq (.int .i64 c.g), .eq (.int .i64 d1), .eq (.int .i64 k), .eq (.pointer (some ⟨b5, k, none⟩)), .eq (.int .i64 r), .eq (.pointer (some ⟨b9, 3, none⟩)), .eq (.int .i64 c.r), .eq (.int .i64 d2), .eq (.agg #[.int .i64 k, .int .i64 d1, .int .i64 d2]), .new G9 [.int .i64 k, .int .i64 d1, .int .i64 d2] (fun b => .slice (some ⟨b, 0, none⟩) 1 1)] (by decide +kernel) rfl ?_ ?_
        · simp only [List.take_succ_cons, List.take_zero, allL_cons, allL_nil]
          refine ⟨?_, ?_, ?_, ?_, ?_, ?_, ?_, ?_, ?_, ?_, ?_, ?_, ?_, ?_, ?_, ?_, trivial⟩
          all_goals (unfold stepL; intro f Hx hl ha; have x4 := hl _ _ h4; have x5 := hl _ _ h5; have x9 := hl _ _ r9)
          all_goals try (simp (disch := first | omega | assumption | decide | (simp <;> omega) | fail) [facts, e4, e5, e7, e11, x4, x5, x9, hgx, hgx', hrx, hrx', hg, hr, hltI]; done)
          · simp (disch := first | omega | assumption | decide | (simp <;> omega) | fail) [facts, ]
            refine (cl1 Hx).mono ?_
            rintro v H' ⟨rfl, hle'⟩
            simp (disch := first | omega | assumption | decide | (simp <;> omega) | fail) [facts, ]
            exact hle'
          · simp (disch := first | omega | assumption | decide | (simp <;> omega) | fail) [facts, ]
            refine (cl2 Hx).mono ?_
            rintro v H' ⟨rfl, hle'⟩
            simp (disch := first | omega | assumption | decide | (simp <;> omega) | fail) [facts, ]
            exact hle'
          · simp (disch := first | omega | assumption | decide | (simp <;> omega) | fail) [facts, ]
            refine fresh_intro fun b hb => ?_
            simp (disch := first | omega | assumption | decide | (simp <;> omega) | fail) [facts, hspl3]
            exact ⟨le_upd _ hb, le_of_none hl hb⟩
        intro f G4 hle4 hkn
        replace hkn : (∃ b, f 44 = .slice (some ⟨b, 0, none⟩) 1 1 ∧ G9 b = none ∧ G4 b = some (.row true 0 [.int .i64 k, .int .i64 d1, .int .i64 d2] 0)) := by simpa using hkn
        obtain ⟨b44, f44, _, r44⟩ := hkn
        simp (disch := first | omega | assumption | decide | (simp <;> omega) | fail) [facts, f44]
        refine df_app (d := ⟨k, d1, d2⟩) (hout9.up hle4) (Heap.le_trans hle9 hle4) r44 (by omega) ?_
        intro v' H' h1 h2
        simp (disch := first | omega | assumption | decide | (simp <;> omega) | fail) [facts, e11]
        refine ⟨_, Heap.le_refl _, ⟨k + 1, by omega, by simp [e4], by simp [e5], by simp [e10], by simp, h1, v', by simp, ?_⟩, by simp [intOf, e11]; omega⟩
        rw [hsu, List.length_append, rowsC_app, rowsC_single]
        exact h2
  · have hltI : ¬ (k : Int) < 4 := by omega
    have hk4 : k = 4 := by omega
    subst hk4
    obtain ⟨a, c, rfl, hsl⟩ := hout.sl
    simp (disch := first | omega | assumption | decide | (simp <;> omega) | fail) [facts, e11, e7]
    exact ⟨_, Heap.le_refl _, Heap.le_trans hF hle, hout.down hF⟩
theorem diffs_c (cs : List Cs) (gs rs : List Int) (H : Heap) (hc : cs.length = 4) (hg : gs.length = 4) (hr : rs.length = 4) (hci : ∀ c ∈ cs, i64In c.g ∧ i64In c.r) (hgi : ∀ z ∈ gs, i64In z) (hri : ∀ z ∈ rs, i64In z) :
    ECalls Tryd.prog 9 #[cssV cs, notV gs, notV rs] H (DfOut H (dfTo cs gs rs 4)) := by
  refine (diffs_o cs gs rs H hc hg hr hci hgi hri).mono ?_
  rintro v H' ⟨hle, ho⟩
  obtain ⟨a, c, rfl, hsl⟩ := ho.sl
  exact ⟨hle, a, c, rfl, hsl⟩
end Go.Proofs.YtfpighmafofoeaaDoor.GL
