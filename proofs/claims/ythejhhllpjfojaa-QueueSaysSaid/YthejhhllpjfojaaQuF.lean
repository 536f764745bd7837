/- Layer 22: all; compared; the document's queue. -/
import Derived.Test.YthejhhllpjfojaaQuE
namespace Go.Proofs.Ythejhhllpjfojaa.GL
open Go Go.RowKit
set_option maxRecDepth 10000
set_option pp.deepTerms.threshold 8
set_option pp.maxSteps 3000
set_option linter.unusedSimpArgs false
set_option linter.unusedVariables false

section
variable {H R : Heap} {p : Nat} {q : QS}
def allInvQ (H R : Heap) (p : Nat) (q : QS) (v : Value) (s : St) : Prop :=
  ∃ (j : Nat) (U : Heap), j ≤ q.l.length ∧ s.env 0 = .pointer (some ⟨p, 0, none⟩) ∧ s.env 9 = v ∧ s.env 10 = .int .i64 q.l.length ∧ s.env 11 = .int .i64 j ∧ Own H R s.heap U ∧ QAt U p q v ∧
    LstR U (s.env 3) 3 j (rowsC QZ.it (q.l.take j)) ∧ blkV (s.env 3) ≠ some p ∧ Sep v (s.env 3)
set_option maxHeartbeats 1000000 in
theorem queAll_c (hR : Heap.le R H) (h : Que R p q) (hn : q.l.length ≤ 1000000) : ECalls Try.prog 17 #[.pointer (some ⟨p, 0, none⟩)] H fun v H' => ∃ U, Own H R H' U ∧ Que U p q ∧ LstR U v 3 q.l.length (rowsC QZ.it q.l) := by
  refine ecalls_of_ewp (args := [_]) Try.func17 rfl rfl rfl (by simp [Try.ntmps17]) (by kernel_rfl) ?_
  obtain ⟨v, hq⟩ := h
  have hp := hR _ _ hq.row
  obtain ⟨a, c, rfl, hsl, _⟩ := hq.list.sl hR
  simp (disch := first | omega | assumption | decide | (simp <;> omega) | fail) [facts, hp]
  refine w_loop (allInvQ H R p q (.slice a q.l.length c)) (fun s => q.l.length - (intOf (s.env 11)).toNat) ?_ ?_
  · exact ⟨0, R, Nat.zero_le _, by simp, by simp, by simp, by simp, Own.refl hR, hq, by simpa [rowsC] using LstR.nil R 3, by simp [blkV], fun b hb => by simp [blkV]⟩
  clear hp hsl hq
  rintro ⟨env, G⟩ ⟨j, U, hj, e0, e9, e10, e11, ow, hq, hout, ho1, ho2⟩
  simp only at e0 e9 e10 e11 ow hout ho1 ho2
  generalize e3 : env 3 = ov at hout ho1 ho2
  by_cases hlt : j < q.l.length
  · have hltI : (j : Int) < (q.l.length : Int) := by omega
    obtain ⟨x, hx⟩ : ∃ x, q.l[j]? = some x := ⟨_, List.getElem?_eq_getElem hlt⟩
    obtain ⟨a', c', e, hsl, _⟩ := hq.list.sl ow.le
    simp only [Value.slice.injEq] at e
    obtain ⟨rfl, _, rfl⟩ := e
    obtain ⟨b, o, rfl⟩ := hsl.lit (by omega)
    have rx : rdNU (G b) (o + j * 4) 4 = some [.int .u16 x.t, .int .u32 x.s, .int .i64 x.g, .bool x.w] := hsl.el q4 hx (j := 0) (r := 4) (by decide) (by decide)
    simp (disch := first | omega | assumption | decide | (simp <;> omega) | fail) [facts, e0, e9, e10, e11, hltI, rx]
    refine fresh_intro fun b5 hb5 => ?_
    have ow2 := ow.grow (le_upd (.row true 0 [.int .u16 x.t, .int .u32 x.s, .int .i64 x.g, .bool x.w] 0) hb5)
    have l5 := upd_same G b5 (.row true 0 [.int .u16 x.t, .int .u32 x.s, .int .i64 x.g, .bool x.w] 0)
    simp (disch := first | omega | assumption | decide | (simp <;> omega) | fail) [facts, upd_upd]
    generalize upd G b5 (.row true 0 [.int .u16 x.t, .int .u32 x.s, .int .i64 x.g, .bool x.w] 0) = G2 at *
    simp (disch := first | omega | assumption | decide | (simp <;> omega) | fail) [facts, e0, e3, e9, e10, e11, l5]
    refine fresh_intro fun b6 hb6 => ?_
    rw [show splice (zeros [.int .u16 0, .int .u32 0, .int .i64 0] 1) 0 [.int .u16 x.t, .int .u32 x.s, .int .i64 x.g] = x.it from rfl]
    simp (disch := first | omega | assumption | decide | (simp <;> omega) | fail) [facts, e0, e3, e9, e10, e11, l5]
    refine hout.app (m := 1) (ys := x.it) (e := 48) (nbs := 16) (z := .agg #[.int .u16 0, .int .u32 0, .int .i64 0]) (by simp [facts]) (by simp [facts]) (by simp [facts]) (by simp [facts]) (by simp) (by decide) (ow2.grow (le_upd _ hb6))
      (srcOne (s := 3) (b := b6) (e1 := 48) (z := .agg #[.int .u16 0, .int .u32 0, .int .i64 0]) (by simp [facts]) (by simp [facts]) (by simp [facts]) rfl) rfl rfl (by omega) ?_
    intro v' H' U' ow3 hl3 hkeep _
    obtain ⟨k1, k2⟩ := hkeep p _ hq.row ho1
    have hbU : ∃ ob, U b = some ob := by
      rcases hq.list with ⟨h0, _⟩ | ⟨_, _, _, _, _, h0, h1, _⟩
      · cases h0
      · simp only [Value.slice.injEq, Option.some.injEq, Addr.mk.injEq] at h0
        obtain ⟨⟨rfl, _⟩, _⟩ := h0
        exact ⟨_, h1⟩
    obtain ⟨ob, hbU⟩ := hbU
    obtain ⟨k3, k4⟩ := hkeep b _ hbU (ho2 b rfl)
    have hq3 : QAt U' p q (.slice (some ⟨b, o, none⟩) q.l.length c) := ⟨k1, hq.list.up fun i o' hi ho' => by
      have : i = b := by simpa [blkV] using hi.symm
      subst this
      rw [hbU] at ho'; cases ho'; exact k3, hq.off⟩
    simp (disch := first | omega | assumption | decide | (simp <;> omega) | fail) [facts, e0, e3, e9, e10, e11]
    refine ⟨_, Heap.le_refl _, ⟨j + 1, U', by omega, by simp [e0], by simp [e9], by simp [e10], by simp, ow3, hq3, by rw [take_snoc hx, rowsC_app, rowsC_single]; simpa using hl3, by simpa using k2, ?_⟩, by simp [intOf, e11]; omega⟩
    intro b2 hb2
    have : b2 = b := by simpa [blkV] using hb2.symm
    subst this
    simpa using k4
  · have hje : j = q.l.length := by omega
    subst hje
    rw [List.take_length] at hout
    simp (disch := first | omega | assumption | decide | (simp <;> omega) | fail) [facts, e0, e3, e9, e10, e11]
    exact ⟨_, Heap.le_refl _, U, ow, ⟨_, hq⟩, hout⟩
theorem same_c (a b : Option Addr) (n c1 c2 : Nat) (l l' : List QZ) (H : Heap) (h1 : SlA H a n 3 (rowsC QZ.it l)) (h2 : SlA H b n 4 (rowsC QZ.cells l')) (hl : l.map QZ.it = l'.map QZ.it) (hn : n ≤ 1000000) :
    ECalls Try.prog 10 #[.slice a n c1, .slice b n c2] H fun v H' => v = .bool true ∧ H' = H := by
  refine ecalls_of_ewp (args := [_, _]) Try.func10 rfl rfl rfl (by simp [Try.ntmps10]) (by kernel_rfl) ?_
  have hl1 := h1.els it3 (by decide)
  have hl2 := h2.els q4 (by decide)
  simp (disch := first | omega | assumption | decide | (simp <;> omega) | fail) [facts, ]
  refine w_loop (fun s => ∃ i : Nat, i ≤ n ∧ s.heap = H ∧ s.env 0 = .slice a n c1 ∧ s.env 1 = .slice b n c2 ∧ s.env 5 = .int .i64 i) (fun s => n - (intOf (s.env 5)).toNat) ?_ ?_
  · exact ⟨0, Nat.zero_le _, rfl, by simp, by simp, by simp⟩
  rintro ⟨env, G⟩ ⟨i, hi, hG, e0, e1, e5⟩
  simp only at hG e0 e1 e5
  subst hG
  by_cases hlt : i < n
  · have hltI : (i : Int) < (n : Int) := by omega
    obtain ⟨x, hx⟩ : ∃ x, l[i]? = some x := ⟨_, List.getElem?_eq_getElem (by omega)⟩
    obtain ⟨y, hy⟩ : ∃ y, l'[i]? = some y := ⟨_, List.getElem?_eq_getElem (by omega)⟩
    have hxy : x.it = y.it := by
      have := congrArg (·[i]?) hl
      simpa [hx, hy] using this
    simp only [QZ.it, List.cons.injEq, Value.int.injEq, true_and, and_true] at hxy
    obtain ⟨z1, z2, z3⟩ := hxy
    obtain ⟨ba, oa, rfl⟩ := h1.lit (by omega)
    obtain ⟨bb, ob, rfl⟩ := h2.lit (by omega)
    have r1 : rdNU (G ba) (oa + i * 3) 2 = some [.int .u16 x.t, .int .u32 x.s] := h1.el it3 hx (j := 0) (r := 2) (by decide) (by decide)
    have r2 : rd1U (G ba) (oa + i * 3 + 2) = some (.int .i64 x.g) := h1.el1 it3 hx (j := 2) (by decide)
    have s1 : rdNU (G bb) (ob + i * 4) 2 = some [.int .u16 y.t, .int .u32 y.s] := h2.el q4 hy (j := 0) (r := 2) (by decide) (by decide)
    have s2 : rd1U (G bb) (ob + i * 4 + 2) = some (.int .i64 y.g) := h2.el1 q4 hy (j := 2) (by decide)
    simp (disch := first | omega | assumption | decide | (simp <;> omega) | fail) [facts, e0, e1, e5, hltI]
    refine w_plan (P := Try.prog) (by simp [facts]) (opsP [0,1,2,3,4,5,6,7,8,9,10,11,12,13,14,15,16,17,18,19,20,21,22,23] .done) ?_ ?_
    · decide +kernel
    simp (disch := first | omega | assumption | decide | (simp <;> omega) | fail) [facts, e0, e1, e5, hltI, r1, r2, s1, s2, z1, z2, z3]
    exact ⟨_, Heap.le_refl _, ⟨i + 1, by omega, rfl, by simp [e0], by simp [e1], by simp⟩, by simp [intOf, e5]; omega⟩
  · have hltI : ¬ (i : Int) < (n : Int) := by omega
    simp (disch := first | omega | assumption | decide | (simp <;> omega) | fail) [facts, e0, e1, e5, hltI]
end
end Go.Proofs.Ythejhhllpjfojaa.GL
