/- Layer 22: what is out; all; compared. -/
import Derived.Test.YthejhhllpjfojaaQuD
namespace Go.Proofs.Ythejhhllpjfojaa.GL
open Go Go.RowKit
set_option maxRecDepth 10000
set_option pp.deepTerms.threshold 8
set_option pp.maxSteps 3000
set_option linter.unusedSimpArgs false
set_option linter.unusedVariables false

def QZ.it (x : QZ) : List Value := [.int .u16 x.t, .int .u32 x.s, .int .i64 x.g]
theorem it3 (x : QZ) : x.it.length = 3 := rfl
theorem it1 (x : QZ) : x.it.all (·.oneCell') = true := rfl
def Sep (v w : Value) : Prop := ∀ b, blkV v = some b → blkV w ≠ some b
theorem take_filter {l : List QZ} {j : Nat} {x : QZ} (hx : l[j]? = some x) : (l.take (j + 1)).filter (·.w) = (l.take j).filter (·.w) ++ (if x.w = true then [x] else []) := by
  rw [take_snoc hx, List.filter_append]
  congr 1
  cases h : x.w <;> simp [h]
section
variable {H R : Heap} {p : Nat} {q : QS}
def outInvQ (H R : Heap) (p : Nat) (q : QS) (v : Value) (s : St) : Prop :=
  ∃ (j : Nat) (U : Heap), j ≤ q.l.length ∧ s.env 0 = .pointer (some ⟨p, 0, none⟩) ∧ s.env 9 = v ∧ s.env 10 = .int .i64 q.l.length ∧ s.env 11 = .int .i64 j ∧ Own H R s.heap U ∧ QAt U p ⟨upto QZ.no q.l j, q.k⟩ v ∧
    LstR U (s.env 3) 3 ((q.l.take j).filter (·.w)).length (rowsC QZ.it ((q.l.take j).filter (·.w))) ∧ blkV (s.env 3) ≠ some p ∧ Sep v (s.env 3)
theorem filter_len (l : List QZ) (j : Nat) : ((l.take j).filter (·.w)).length ≤ l.length := by
  have := List.length_filter_le (·.w) (l.take j)
  rw [List.length_take] at this
  omega
set_option maxHeartbeats 1000000 in
theorem queOut_c (hR : Heap.le R H) (h : Que R p q) (hn : q.l.length ≤ 1000000) : ECalls Try.prog 11 #[.pointer (some ⟨p, 0, none⟩)] H fun v H' => ∃ U, Own H R H' U ∧ Que U p ⟨q.l.map QZ.no, q.k⟩ ∧ LstR U v 3 (q.l.filter (·.w)).length (rowsC QZ.it (q.l.filter (·.w))) := by
  refine ecalls_of_ewp (args := [_]) Try.func11 rfl rfl rfl (by simp [Try.ntmps11]) (by kernel_rfl) ?_
  obtain ⟨v, hq⟩ := h
  have hp := hR _ _ hq.row
  obtain ⟨a, c, rfl, hsl, _⟩ := hq.list.sl hR
  simp (disch := first | omega | assumption | decide | (simp <;> omega) | fail) [facts, hp]
  refine w_loop (outInvQ H R p q (.slice a q.l.length c)) (fun s => q.l.length - (intOf (s.env 11)).toNat) ?_ ?_
  · exact ⟨0, R, Nat.zero_le _, by simp, by simp, by simp, by simp, Own.refl hR, by rw [upto_zero]; exact hq, by simpa [rowsC] using LstR.nil R 3, by simp [blkV], fun b hb => by simp [blkV]⟩
  clear hp hsl hq
  rintro ⟨env, G⟩ ⟨j, U, hj, e0, e9, e10, e11, ow, hq, hout, ho1, ho2⟩
  simp only at e0 e9 e10 e11 ow hout ho1 ho2
  generalize e3 : env 3 = ov at hout ho1 ho2
  by_cases hlt : j < q.l.length
  · have hltI : (j : Int) < (q.l.length : Int) := by omega
    obtain ⟨x, hx⟩ : ∃ x, q.l[j]? = some x := ⟨_, List.getElem?_eq_getElem hlt⟩
    have hx2 := upto_get QZ.no hx
    obtain ⟨a', c', e, hsl, _⟩ := hq.list.sl ow.le
    simp only [upto_len] at e hsl
    simp only [Value.slice.injEq] at e
    obtain ⟨rfl, _, rfl⟩ := e
    obtain ⟨b, o, rfl⟩ := hsl.lit (by omega)
    have rx : rdNU (G b) (o + j * 4) 4 = some [.int .u16 x.t, .int .u32 x.s, .int .i64 x.g, .bool x.w] := hsl.el q4 hx2 (j := 0) (r := 4) (by decide) (by decide)
    simp (disch := first | omega | assumption | decide | (simp <;> omega) | fail) [facts, e0, e9, e10, e11, hltI, rx]
    refine fresh_intro fun b5 hb5 => ?_
    have ow2 := ow.grow (le_upd (.row true 0 [.int .u16 x.t, .int .u32 x.s, .int .i64 x.g, .bool x.w] 0) hb5)
    have l5 := upd_same G b5 (.row true 0 [.int .u16 x.t, .int .u32 x.s, .int .i64 x.g, .bool x.w] 0)
    simp (disch := first | omega | assumption | decide | (simp <;> omega) | fail) [facts, upd_upd]
    generalize upd G b5 (.row true 0 [.int .u16 x.t, .int .u32 x.s, .int .i64 x.g, .bool x.w] 0) = G2 at *
    have hf := take_filter hx
    cases hw : x.w with
    | false =>
      rw [hw] at l5
      rw [hw, if_neg (by decide), List.append_nil] at hf
      have hxn : x.no = x := by cases x; simp only at hw; subst hw; rfl
      have hq2 : upto QZ.no q.l (j + 1) = upto QZ.no q.l j := by
        rw [← upto_succ QZ.no hx, hxn]
        exact List.ext_getElem? fun i => by
          by_cases hij : j = i
          · subst hij; rw [List.getElem?_set_self (by rw [upto_len]; exact hlt), hx2]
          · rw [List.getElem?_set_ne hij]
      simp (disch := first | omega | assumption | decide | (simp <;> omega) | fail) [facts, e0, e3, e9, e10, e11, l5]
      exact ⟨_, Heap.le_refl _, ⟨j + 1, U, by omega, by simp [e0], by simp [e9], by simp [e10], by simp, ow2, by rw [hq2]; exact hq, by rw [hf]; simpa [e3] using hout, by simpa [e3] using ho1, by simpa [e3] using ho2⟩, by simp [intOf, e11]; omega⟩
    | true =>
      rw [hw] at l5
      rw [hw, if_pos rfl] at hf
      simp (disch := first | omega | assumption | decide | (simp <;> omega) | fail) [facts, e0, e3, e9, e10, e11, l5]
      refine fresh_intro fun b6 hb6 => ?_
      rw [show splice (zeros [.int .u16 0, .int .u32 0, .int .i64 0] 1) 0 [.int .u16 x.t, .int .u32 x.s, .int .i64 x.g] = x.it from rfl]
      simp (disch := first | omega | assumption | decide | (simp <;> omega) | fail) [facts, e0, e3, e9, e10, e11, l5]
      have hfl := filter_len q.l j
      refine hout.app (m := 1) (ys := x.it) (e := 48) (nbs := 16) (z := .agg #[.int .u16 0, .int .u32 0, .int .i64 0]) (by simp [facts]) (by simp [facts]) (by simp [facts]) (by simp [facts]) (by simp) (by decide) (ow2.grow (le_upd _ hb6))
        (srcOne (s := 3) (b := b6) (e1 := 48) (z := .agg #[.int .u16 0, .int .u32 0, .int .i64 0]) (by simp [facts]) (by simp [facts]) (by simp [facts]) rfl) rfl rfl (by omega) ?_
      intro v' H' U' ow3 hl3 hkeep _
      obtain ⟨k1, k2⟩ := hkeep p _ hq.row ho1
      have hbU : ∃ ob, U b = some ob := by
        rcases hq.list with ⟨h0, _⟩ | ⟨_, _, _, _, _, h0, h1, _⟩
        · cases h0
        · simp only [Value.slice.injEq, Option.some.injEq, Addr.mk.injEq] at h0
          obtain ⟨⟨rfl, _⟩, _⟩ := h0
          exact ⟨_, h1⟩
      obtain ⟨ob, hbU⟩ := hbU
      obtain ⟨k3, k4⟩ := hkeep b _ hbU (ho2 b rfl)
      have hq3 : QAt U' p ⟨upto QZ.no q.l j, q.k⟩ (.slice (some ⟨b, o, none⟩) q.l.length c) := ⟨k1, hq.list.up fun i o' hi ho' => by
        have : i = b := by simpa [blkV] using hi.symm
        subst this
        rw [hbU] at ho'; cases ho'; exact k3, hq.off⟩
      have hp3 := ow3.le _ _ hq3.row
      obtain ⟨b', o', c', tail, room, e, hpb, hr, hc, hset, hq4⟩ := hq3.flag hx2 (x' := x.no) (no_cells x)
      simp only [Value.slice.injEq, Option.some.injEq, Addr.mk.injEq, true_and, and_true] at e
      obtain ⟨⟨rfl, rfl⟩, _, rfl⟩ := e
      have hb3 := ow3.le _ _ hr
      have hll : (rowsC QZ.cells (upto QZ.no q.l j)).length = q.l.length * 4 := by rw [rowsC_len q4, upto_len]
      have hix : o + j * 4 + 3 - o = j * 4 + 3 := by omega
      have hfit : j * 4 + 3 < q.l.length * 4 + tail.length := by omega
      obtain ⟨av, cv, rfl, _, _⟩ := hl3.sl ow3.le
      simp (disch := first | omega | assumption | decide | (simp <;> omega) | fail) [facts, e0, e3, e9, e10, e11, hltI, hp3, hb3, hll, hix, hset]
      rw [upto_succ QZ.no hx] at hq4 ⊢
      refine ⟨_, Heap.le_refl _, ⟨j + 1, _, by omega, by simp [e0], by simp [e9], by simp [e10], by simp, ow3.set hr _, hq4, ?_, by simpa using k2, ?_⟩, by simp [intOf, e11]; omega⟩
      · rw [hf, rowsC_app, rowsC_single, List.length_append]
        refine LstR.up (B := U') (by simpa using hl3) fun i o2 hi ho2' => ?_
        rw [upd_ne _ _ (fun e => k4 (by simp at hi ⊢; rw [hi, e]))]; exact ho2'
      · intro b2 hb2
        have : b2 = b := by simpa [blkV] using hb2.symm
        subst this
        simpa using k4
  · have hje : j = q.l.length := by omega
    subst hje
    rw [upto_all] at hq
    rw [List.take_length] at hout
    simp (disch := first | omega | assumption | decide | (simp <;> omega) | fail) [facts, e0, e3, e9, e10, e11]
    exact ⟨_, Heap.le_refl _, U, ow, ⟨_, hq⟩, hout⟩
end
end Go.Proofs.Ythejhhllpjfojaa.GL
