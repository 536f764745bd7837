/- Layer 22: the document's queue: out, a tick. -/
import Derived.Test.YthejhhllpjfojaaQuG
namespace Go.Proofs.Ythejhhllpjfojaa.GL
open Go Go.RowKit
set_option maxRecDepth 10000
set_option pp.deepTerms.threshold 8
set_option pp.maxSteps 3000
set_option linter.unusedSimpArgs false
set_option linter.unusedVariables false

section
variable {H R : Heap} {p : Nat} {q : QS}
def routInv (H R : Heap) (p : Nat) (q : QS) (v : Value) (s : St) : Prop :=
  ∃ (j : Nat) (U : Heap), j ≤ q.l.length ∧ s.env 0 = .pointer (some ⟨p, 0, none⟩) ∧ s.env 4 = .int .i64 j ∧ Own H R s.heap U ∧ QAt U p ⟨upto QZ.no q.l j, q.k⟩ v ∧
    LstR U (s.env 3) 4 ((q.l.take j).filter (·.w)).length (rowsC QZ.cells ((q.l.take j).filter (·.w))) ∧ blkV (s.env 3) ≠ some p ∧ Sep v (s.env 3)
set_option maxHeartbeats 1000000 in
theorem refOutQ_c (hR : Heap.le R H) (h : Que R p q) (hn : q.l.length ≤ 1000000) : ECalls Try.prog 12 #[.pointer (some ⟨p, 0, none⟩)] H fun v H' => ∃ U, Own H R H' U ∧ Que U p ⟨q.l.map QZ.no, q.k⟩ ∧ LstR U v 4 (q.l.filter (·.w)).length (rowsC QZ.cells (q.l.filter (·.w))) := by
  refine ecalls_of_ewp (args := [_]) Try.func12 rfl rfl rfl (by simp [Try.ntmps12]) (by kernel_rfl) ?_
  obtain ⟨v, hq⟩ := h
  obtain ⟨a, c, rfl, _, _⟩ := hq.list.sl hR
  simp (disch := first | omega | assumption | decide | (simp <;> omega) | fail) [facts, ]
  refine w_loop (routInv H R p q (.slice a q.l.length c)) (fun s => q.l.length - (intOf (s.env 4)).toNat) ?_ ?_
  · exact ⟨0, R, Nat.zero_le _, by simp, by simp, Own.refl hR, by rw [upto_zero]; exact hq, by simpa [rowsC] using LstR.nil R 4, by simp [blkV], fun b hb => by simp [blkV]⟩
  clear hq
  rintro ⟨env, G⟩ ⟨j, U, hj, e0, e4, ow, hq, hout, ho1, ho2⟩
  simp only at e0 e4 ow hout ho1 ho2
  generalize e3 : env 3 = ov at hout ho1 ho2
  have hp := ow.le _ _ hq.row
  by_cases hlt : j < q.l.length
  · have hltI : (j : Int) < (q.l.length : Int) := by omega
    obtain ⟨x, hx⟩ : ∃ x, q.l[j]? = some x := ⟨_, List.getElem?_eq_getElem hlt⟩
    have hx2 := upto_get QZ.no hx
    obtain ⟨a', c', e, hsl, _⟩ := hq.list.sl ow.le
    simp only [upto_len] at e hsl
    simp only [Value.slice.injEq] at e
    obtain ⟨rfl, _, rfl⟩ := e
    obtain ⟨b, o, rfl⟩ := hsl.lit (by omega)
    have rx : rdNU (G b) (o + j * 4) 4 = some [.int .u16 x.t, .int .u32 x.s, .int .i64 x.g, .bool x.w] := hsl.el q4 hx2 (j := 0) (r := 4) (by decide) (by decide)
    have rw3 : rd1U (G b) (o + j * 4 + 3) = some (.bool x.w) := hsl.el1 q4 hx2 (j := 3) (by decide)
    have hf := take_filter hx
    cases hw : x.w with
    | false =>
      rw [hw] at rw3
      rw [hw, if_neg (by decide), List.append_nil] at hf
      have hxn : x.no = x := by cases x; simp only at hw; subst hw; rfl
      have hq2 : upto QZ.no q.l (j + 1) = upto QZ.no q.l j := by
        rw [← upto_succ QZ.no hx, hxn]
        exact List.ext_getElem? fun i => by
          by_cases hij : j = i
          · subst hij; rw [List.getElem?_set_self (by rw [upto_len]; exact hlt), hx2]
          · rw [List.getElem?_set_ne hij]
      simp (disch := first | omega | assumption | decide | (simp <;> omega) | fail) [facts, e0, e3, e4, hp, hltI, rw3]
      exact ⟨_, Heap.le_refl _, ⟨j + 1, U, by omega, by simp [e0], by simp, ow, by rw [hq2]; exact hq, by rw [hf]; simpa [e3] using hout, by simpa [e3] using ho1, by simpa [e3] using ho2⟩, by simp [intOf, e4]; omega⟩
    | true =>
      rw [hw] at rw3 rx
      rw [hw, if_pos rfl] at hf
      simp (disch := first | omega | assumption | decide | (simp <;> omega) | fail) [facts, e0, e3, e4, hp, hltI, rw3, rx]
      refine fresh_intro fun b6 hb6 => ?_
      rw [show splice (zeros [.int .u16 0, .int .u32 0, .int .i64 0, .bool false] 1) 0 [.int .u16 x.t, .int .u32 x.s, .int .i64 x.g, .bool true] = x.cells by rw [QZ.cells, hw]; rfl]
      simp (disch := first | omega | assumption | decide | (simp <;> omega) | fail) [facts, e0, e3, e4]
      have hfl := filter_len q.l j
      refine hout.app (m := 1) (ys := x.cells) (e := 57) (nbs := 24) (z := .agg #[.int .u16 0, .int .u32 0, .int .i64 0, .bool false]) (by simp [facts]) (by simp [facts]) (by simp [facts]) (by simp [facts]) (by simp) (by decide) (ow.grow (le_upd _ hb6))
        (srcOne (s := 4) (b := b6) (e1 := 57) (z := .agg #[.int .u16 0, .int .u32 0, .int .i64 0, .bool false]) (by simp [facts]) (by simp [facts]) (by simp [facts]) rfl) rfl rfl (by omega) ?_
      intro v' H' U' ow3 hl3 hkeep _
      obtain ⟨k1, k2⟩ := hkeep p _ hq.row ho1
      have hbU : ∃ ob, U b = some ob := by
        rcases hq.list with ⟨h0, _⟩ | ⟨_, _, _, _, _, h0, h1, _⟩
        · cases h0
        · simp only [Value.slice.injEq, Option.some.injEq, Addr.mk.injEq] at h0
          obtain ⟨⟨rfl, _⟩, _⟩ := h0
          exact ⟨_, h1⟩
      obtain ⟨ob, hbU⟩ := hbU
      obtain ⟨k3, k4⟩ := hkeep b _ hbU (ho2 b rfl)
      have hq3 : QAt U' p ⟨upto QZ.no q.l j, q.k⟩ (.slice (some ⟨b, o, none⟩) q.l.length c) := ⟨k1, hq.list.up fun i o' hi ho' => by
        have : i = b := by simpa [blkV] using hi.symm
        subst this
        rw [hbU] at ho'; cases ho'; exact k3, hq.off⟩
      have hp3 := ow3.le _ _ hq3.row
      obtain ⟨b', o', c', tail, room, e, hpb, hr, hc, hset, hq4⟩ := hq3.flag hx2 (x' := x.no) (no_cells x)
      simp only [Value.slice.injEq, Option.some.injEq, Addr.mk.injEq, true_and, and_true] at e
      obtain ⟨⟨rfl, rfl⟩, _, rfl⟩ := e
      have hb3 := ow3.le _ _ hr
      have hll : (rowsC QZ.cells (upto QZ.no q.l j)).length = q.l.length * 4 := by rw [rowsC_len q4, upto_len]
      have hix : o + j * 4 + 3 - o = j * 4 + 3 := by omega
      have hfit : j * 4 + 3 < q.l.length * 4 + tail.length := by omega
      obtain ⟨av, cv, rfl, _, _⟩ := hl3.sl ow3.le
      simp (disch := first | omega | assumption | decide | (simp <;> omega) | fail) [facts, e0, e3, e4, hltI, hp3, hb3, hll, hix, hset]
      rw [upto_succ QZ.no hx] at hq4 ⊢
      refine ⟨_, Heap.le_refl _, ⟨j + 1, _, by omega, by simp [e0], by simp, ow3.set hr _, hq4, ?_, by simpa using k2, ?_⟩, by simp [intOf, e4]; omega⟩
      · rw [hf, rowsC_app, rowsC_single, List.length_append]
        refine LstR.up (B := U') (by simpa using hl3) fun i o2 hi ho2' => ?_
        rw [upd_ne _ _ (fun e => k4 (by simp at hi ⊢; rw [hi, e]))]; exact ho2'
      · intro b2 hb2
        have : b2 = b := by simpa [blkV] using hb2.symm
        subst this
        simpa using k4
  · have hje : j = q.l.length := by omega
    subst hje
    rw [upto_all] at hq
    rw [List.take_length] at hout
    have hll : (upto QZ.no q.l q.l.length).length = q.l.length := upto_len _ _ _
    simp (disch := first | omega | assumption | decide | (simp <;> omega) | fail) [facts, e0, e3, e4, hp]
    exact ⟨_, Heap.le_refl _, U, ow, ⟨_, hq⟩, hout⟩
def tickR (q : QS) : QS := if (q.k + 1) % 4 = 0 then ⟨q.l.map QZ.on, q.k + 1⟩ else ⟨q.l, q.k + 1⟩
def rtickInv (H R : Heap) (p : Nat) (l : List QZ) (k : Int) (v : Value) (s : St) : Prop :=
  ∃ (j : Nat) (R1 : Heap), j ≤ l.length ∧ s.env 0 = .pointer (some ⟨p, 0, none⟩) ∧ s.env 2 = .int .i64 j ∧ Own H R s.heap R1 ∧ QAt R1 p ⟨upto QZ.on l j, k⟩ v ∧ (j = 0 ∨ k % 4 = 0)
set_option maxHeartbeats 1000000 in
theorem refTickQ_c (hR : Heap.le R H) (h : Que R p q) (hn : q.l.length ≤ 1000000) (hk : 0 ≤ q.k ∧ q.k ≤ 1000000) : ECalls Try.prog 14 #[.pointer (some ⟨p, 0, none⟩)] H fun _ H' => ∃ R', Own H R H' R' ∧ Que R' p (tickR q) := by
  refine ecalls_of_ewp (args := [_]) Try.func14 rfl rfl rfl (by simp [Try.ntmps14]) (by kernel_rfl) ?_
  obtain ⟨v, hq⟩ := h
  have hp := hR _ _ hq.row
  have q0 : QAt (upd R p (.row true 0 [v, .int .i64 (q.k + 1)] 0)) p ⟨q.l, q.k + 1⟩ v := ⟨upd_same _ _ _, hq.list.up fun i o hi ho => by rw [upd_ne _ _ (fun e => hq.off (by rw [hi, e]))]; exact ho, hq.off⟩
  have o0 := (Own.refl hR).set hq.row (.row true 0 [v, .int .i64 (q.k + 1)] 0)
  obtain ⟨a, c, e, hsl, _⟩ := q0.list.sl o0.le
  simp only at e hsl
  subst e
  unfold tickR
  simp (disch := first | omega | assumption | decide | (simp <;> omega) | fail) [facts, hp, upd_upd]
  refine w_loop (rtickInv H R p q.l (q.k + 1) (.slice a q.l.length c)) (fun s => q.l.length - (intOf (s.env 2)).toNat) ?_ ?_
  · exact ⟨0, _, Nat.zero_le _, by simp, by simp, o0, by rw [upto_zero]; exact q0, .inl rfl⟩
  clear hp hsl q0 o0 hq
  rintro ⟨env, G⟩ ⟨j, R1, hj, e0, e2, ow, hq, hj0⟩
  simp only at e0 e2 ow
  have hp := ow.le _ _ hq.row
  have hul := upto_len QZ.on q.l j
  by_cases hlt : j < q.l.length
  · have hltI : (j : Int) < (q.l.length : Int) := by omega
    by_cases h4 : (q.k + 1) % 4 = 0
    · obtain ⟨x, hx⟩ : ∃ x, q.l[j]? = some x := ⟨_, List.getElem?_eq_getElem hlt⟩
      obtain ⟨b, o, c', tail, room, e, hpb, hr, hc, hset, hq2⟩ := hq.flag (upto_get QZ.on hx) (x' := x.on) (on_cells x)
      rw [upto_len] at e
      simp only [Value.slice.injEq] at e
      obtain ⟨rfl, _, rfl⟩ := e
      have hb := ow.le _ _ hr
      have hll : (rowsC QZ.cells (upto QZ.on q.l j)).length = q.l.length * 4 := by rw [rowsC_len q4, upto_len]
      have hix : o + j * 4 + 3 - o = j * 4 + 3 := by omega
      have hfit : j * 4 + 3 < q.l.length * 4 + tail.length := by omega
      simp (disch := first | omega | assumption | decide | (simp <;> omega) | fail) [facts, e0, e2, hltI, hp, h4, hb, hll, hix, hset]
      rw [upto_succ QZ.on hx] at hq2 ⊢
      exact ⟨_, Heap.le_refl _, ⟨j + 1, _, by omega, by simp [e0], by simp, ow.set hr _, hq2, .inr h4⟩, by simp [intOf, e2]; omega⟩
    · simp (disch := first | omega | assumption | decide | (simp <;> omega) | fail) [facts, e0, e2, hltI, hp, h4]
      have : j = 0 := hj0.resolve_right h4
      subst this
      rw [upto_zero] at hq
      exact ⟨_, Heap.le_refl _, R1, ow, _, hq⟩
  · have hje : j = q.l.length := by omega
    subst hje
    by_cases h4 : (q.k + 1) % 4 = 0
    · rw [upto_all] at hq
      rw [if_pos h4]
      simp (disch := first | omega | assumption | decide | (simp <;> omega) | fail) [facts, e0, e2, hp]
      exact ⟨_, Heap.le_refl _, R1, ow, _, hq⟩
    · have h0 : q.l.length = 0 := hj0.resolve_right h4
      rw [if_neg h4]
      simp (disch := first | omega | assumption | decide | (simp <;> omega) | fail) [facts, e0, e2, hp]
      rw [h0, upto_zero] at hq
      exact ⟨_, Heap.le_refl _, R1, ow, _, hq⟩
end
end Go.Proofs.Ythejhhllpjfojaa.GL
