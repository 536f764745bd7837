/- Layer 22: acknowledged, ticks. -/
import Derived.Test.YthejhhllpjfojaaQuB
namespace Go.Proofs.Ythejhhllpjfojaa.GL
open Go Go.RowKit
set_option maxRecDepth 10000
set_option pp.deepTerms.threshold 8
set_option pp.maxSteps 3000
set_option linter.unusedSimpArgs false
set_option linter.unusedVariables false

theorem deleteQ_c (q o cap room i : Nat) (ms : List QZ) (tail : List Value) (H : Heap) (hrow : H q = some (.row true o (rowsC QZ.cells ms ++ tail) room)) (hi : i < ms.length) (hc : ms.length ≤ cap) (hms : ms.length ≤ 1000000) :
    ECalls Try.prog 19 #[.slice (some ⟨q, o, none⟩) ms.length cap, .int .i64 i, .int .i64 ((i : Int) + 1)] H fun v H' => v = .slice (some ⟨q, o, none⟩) (ms.length - 1) cap ∧ ∃ tail', tail'.length = tail.length + 4 ∧ H' = upd H q (.row true o (rowsC QZ.cells (ms.eraseIdx i) ++ tail') room) := by
  refine ecalls_of_ewp (args := [_, _, _]) Try.func19 rfl rfl rfl (by simp [Try.ntmps19]) (by kernel_rfl) ?_
  have hiI : (i : Int) < (ms.length : Int) := by omega
  have hne : ¬ (i : Int) = (i : Int) + 1 := by omega
  have hcI : (ms.length : Int) ≤ (cap : Int) := by omega
  simp (disch := first | omega | assumption | decide | (simp <;> omega) | fail) [facts, hne]
  refine w_plan (P := Try.prog) (by simp [facts]) (opsP [0,1,2,3,4,5,6,7] .done) ?_ ?_
  · decide +kernel
  simp (disch := first | omega | assumption | decide | (simp <;> omega) | fail) [facts, hne]
  have hl := rowsC_len q4 ms
  have hsl : SlA H (if cap = i + 1 then some ⟨q, o, none⟩ else some ⟨q, o + (i + 1) * 4, none⟩) (ms.length - (i + 1)) 4 (rowsC QZ.cells (ms.drop (i + 1))) := by
    by_cases hcap : cap = i + 1
    · rw [if_pos hcap]
      have h0 : ms.length - (i + 1) = 0 := by omega
      have hd : ms.drop (i + 1) = [] := List.drop_eq_nil_of_le (by omega)
      rw [h0, hd]
      exact SlA.row hrow (Nat.le_refl _) rfl (by omega) (by simp [rowsC])
    · rw [if_neg hcap]
      refine SlA.row hrow (by omega) (by rw [rowsC_len q4, List.length_drop]) (by rw [List.length_append, hl]; omega) ?_
      rw [show o + (i + 1) * 4 - o = (i + 1) * 4 by omega, List.drop_append_of_le_length (by rw [hl]; omega), rowsC_drop q4, List.take_append_of_le_length (by rw [rowsC_len q4, List.length_drop]; omega), List.take_of_length_le (by rw [rowsC_len q4, List.length_drop]; omega)]
  obtain ⟨old, hold, hsp⟩ := rowsC_erase q4 hi tail
  refine app_in (e := 55) (s := 4) (nbs := 24) (z := .agg #[.int .u16 0, .int .u32 0, .int .i64 0, .bool false]) (n := ms.length - (i + 1)) (ys := rowsC QZ.cells (ms.drop (i + 1))) (by simp [facts]) (by simp [facts]) (by simp [facts]) (by simp [facts]) rfl (by decide) hrow
    (src_sl (e1 := 55) (z := .agg #[.int .u16 0, .int .u32 0, .int .i64 0, .bool false]) (by simp [facts]) (by simp [facts]) (by simp [facts]) hsl) (by rw [rowsC_len q4, List.length_drop]) (rowsC_one q1 _) (by omega) (by omega) (by rw [List.length_append, rowsC_len q4]; omega) ?_
  rw [hsp, show i + (ms.length - (i + 1)) = ms.length - 1 by omega]
  have hel : (ms.eraseIdx i).length = ms.length - 1 := by rw [List.length_eraseIdx, if_pos hi]
  have hnl : ¬ cap = ms.length - 1 := by omega
  simp (disch := first | omega | assumption | decide | (simp <;> omega) | fail) [facts, hnl]
  rw [show ms.length - (ms.length - 1) = 1 by omega]
  refine clear_in (e := 55) (z := .agg #[.int .u16 0, .int .u32 0, .int .i64 0, .bool false]) (s := 4) (by simp [facts]) (by simp [facts]) (by simp [facts]) rfl rfl (upd_same _ _ _) (by omega) (by simp only [List.length_append, rowsC_len q4, hel, hold]; omega) (by decide) ?_
  rw [show o + (ms.length - 1) * 4 - o = (ms.length - 1) * 4 by omega, splice_mid (by rw [rowsC_len q4, hel]) (by rw [hold]; rfl), upd_upd]
  simp (disch := first | omega | assumption | decide | (simp <;> omega) | fail) [facts, ]
  exact ⟨_, Heap.le_refl _, _, by simp [zeros], rfl⟩
def ackD (q : QS) (t s : Int) : QS := match idxQ t s q.l with | some i => ⟨q.l.eraseIdx i, q.k⟩ | none => q
theorem idxQ_lt {t s : Int} {l : List QZ} {i : Nat} (h : idxQ t s l = some i) : i < l.length := by
  obtain ⟨x, hx, _⟩ := idxQ_some h
  exact (List.getElem?_eq_some_iff.1 hx).1
section
variable {H R : Heap} {p : Nat} {q : QS}
theorem queAck_c (hR : Heap.le R H) (h : Que R p q) (t s : Int) (hn : q.l.length ≤ 1000000) : ECalls Try.prog 8 #[.pointer (some ⟨p, 0, none⟩), .agg #[.int .u16 t, .int .u32 s]] H fun v H' => v = .bool (idxQ t s q.l).isSome ∧ ∃ R', Own H R H' R' ∧ Que R' p (ackD q t s) := by
  refine ecalls_of_ewp (args := [_, _]) Try.func8 rfl rfl rfl (by simp [Try.ntmps8]) (by kernel_rfl) ?_
  simp (disch := first | omega | assumption | decide | (simp <;> omega) | fail) [facts, ]
  refine fresh_intro fun kb hkb => ?_
  have hle1 := le_upd (.row true 0 [.int .u16 t, .int .u32 s] 0) hkb
  have lk := upd_same H kb (.row true 0 [.int .u16 t, .int .u32 s] 0)
  generalize upd H kb (.row true 0 [.int .u16 t, .int .u32 s] 0) = H1 at *
  simp (disch := first | omega | assumption | decide | (simp <;> omega) | fail) [facts, lk]
  refine (queAt_c (Heap.le_trans hR hle1) h t s hn).mono ?_
  rintro v H2 ⟨rfl, hle2⟩
  have ow2 := (Own.refl hR).grow (Heap.le_trans hle1 hle2)
  unfold ackD
  cases hi : idxQ t s q.l with
  | none =>
    simp only [idxI_none hi, Option.isSome_none]
    simp (disch := first | omega | assumption | decide | (simp <;> omega) | fail) [facts, ]
    exact ⟨_, Heap.le_refl _, R, ow2, h⟩
  | some i =>
    have hlt := idxQ_lt hi
    have h0 : (0 : Int) ≤ (i : Int) := by omega
    simp only [idxI_some hi, Option.isSome_some]
    obtain ⟨v, hq⟩ := h
    rcases hq.list with ⟨_, h1, _⟩ | ⟨b, o, cap, tail, room, rfl, hr, hlen, hc, hf⟩
    · omega
    have hp := ow2.le _ _ hq.row
    have hb := ow2.le _ _ hr
    have hpb : p ≠ b := fun e => hq.off (by subst e; rfl)
    simp (disch := first | omega | assumption | decide | (simp <;> omega) | fail) [facts, hp, h0]
    refine (deleteQ_c b o cap room i q.l tail _ hb hlt hc hn).mono ?_
    rintro v H3 ⟨rfl, tail', htl, rfl⟩
    have ow3 := ow2.set hr (.row true o (rowsC QZ.cells (q.l.eraseIdx i) ++ tail') room)
    have hp3 : upd R b (.row true o (rowsC QZ.cells (q.l.eraseIdx i) ++ tail') room) p = _ := (upd_ne _ _ hpb).trans hq.row
    have hp4 := ow3.le _ _ hp3
    have hel : (q.l.eraseIdx i).length = q.l.length - 1 := by rw [List.length_eraseIdx, if_pos hlt]
    simp (disch := first | omega | assumption | decide | (simp <;> omega) | fail) [facts, hp4, h0]
    refine ⟨_, Heap.le_refl _, _, ow3.set hp3 _, _, upd_same _ _ _, ?_, by simpa [blkV] using hpb.symm⟩
    exact .inr ⟨b, o, cap, tail', room, by rw [hel], by rw [upd_ne _ _ hpb.symm, upd_same], rowsC_len q4 _, by simp only [hel]; omega, by simp only [hel]; omega⟩
def QZ.on (x : QZ) : QZ := { x with w := true }
def QZ.no (x : QZ) : QZ := { x with w := false }
/-- The first ones turned. -/
def upto (f : QZ → QZ) (l : List QZ) (j : Nat) : List QZ := (l.take j).map f ++ l.drop j
theorem upto_len (f : QZ → QZ) (l : List QZ) (j : Nat) : (upto f l j).length = l.length := by
  simp [upto]; omega
theorem upto_zero (f : QZ → QZ) (l : List QZ) : upto f l 0 = l := by simp [upto]
theorem upto_all (f : QZ → QZ) (l : List QZ) : upto f l l.length = l.map f := by simp [upto]
theorem upto_get (f : QZ → QZ) {l : List QZ} {j : Nat} {x : QZ} (hx : l[j]? = some x) : (upto f l j)[j]? = some x := by
  have hj := (List.getElem?_eq_some_iff.1 hx).1
  unfold upto
  rw [List.getElem?_append_right (by simp; omega), List.length_map, List.length_take, Nat.min_eq_left (by omega), Nat.sub_self, List.getElem?_drop, Nat.add_zero]
  exact hx
theorem upto_succ (f : QZ → QZ) {l : List QZ} {j : Nat} {x : QZ} (hx : l[j]? = some x) : (upto f l j).set j (f x) = upto f l (j + 1) := by
  have hj := (List.getElem?_eq_some_iff.1 hx).1
  unfold upto
  rw [List.set_append_right _ _ (by simp; omega), List.length_map, List.length_take, Nat.min_eq_left (by omega), Nat.sub_self, take_snoc hx, List.map_append, List.append_assoc]
  congr 1
  rw [List.drop_eq_getElem_cons hj, List.set_cons_zero]
  rfl
end
end Go.Proofs.Ythejhhllpjfojaa.GL
