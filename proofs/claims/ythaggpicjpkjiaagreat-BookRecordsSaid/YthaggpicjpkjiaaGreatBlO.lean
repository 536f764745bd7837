/- Layer 20: arguments of the laws. -/
import Derived.Test.YthaggpicjpkjiaaGreatBlB
import Derived.Test.YthaggpicjpkjiaaGreatGlW
namespace Go.Proofs.YthaggpicjpkjiaaGreat.GL
open Go Go.RowKit
open St (Rec recV)
set_option maxRecDepth 10000
set_option pp.deepTerms.threshold 8
set_option pp.maxSteps 3000
set_option linter.unusedSimpArgs false
set_option linter.unusedVariables false

theorem mkS_back (s : ByteArray) : mkS s.data.toList = s := by
  cases s; simp [mkS]
def in20Leaves : List Leaf := [.int .u8, .int .u8, .int .u8, .int .u16, .int .i64, .int .u16, .int .u32, .str, .int .i64, .int .i64, .int .i64, .int .i64, .int .i64, .int .i64, .int .i64, .int .i64, .int .i64, .int .i64, .int .i64, .int .i64, .int .i64]
theorem in20_is {M : Heap} {cs : List Value} (h : Fits M in20Leaves cs) : ∃ x : In20, x.wf ∧ cs = x.cells := by
  unfold in20Leaves at h
  obtain ⟨v0, q0, rfl, ⟨kind, rfl, wkind⟩, g0⟩ := h.cons
  obtain ⟨v1, q1, rfl, ⟨k, rfl, wk⟩, g1⟩ := g0.cons
  obtain ⟨v2, q2, rfl, ⟨stan, rfl, wstan⟩, g2⟩ := g1.cons
  obtain ⟨v3, q3, rfl, ⟨amo, rfl, wamo⟩, g3⟩ := g2.cons
  obtain ⟨v4, q4, rfl, ⟨kd, rfl, wkd⟩, g4⟩ := g3.cons
  obtain ⟨v5, q5, rfl, ⟨t, rfl, wt⟩, g5⟩ := g4.cons
  obtain ⟨v6, q6, rfl, ⟨s, rfl, ws⟩, g6⟩ := g5.cons
  obtain ⟨v7, q7, rfl, ⟨pan, rfl, wpan⟩, g7⟩ := g6.cons
  obtain ⟨v8, q8, rfl, ⟨am, rfl, wam⟩, g8⟩ := g7.cons
  obtain ⟨v9, q9, rfl, ⟨n0, rfl, wn0⟩, g9⟩ := g8.cons
  obtain ⟨v10, q10, rfl, ⟨n1, rfl, wn1⟩, g10⟩ := g9.cons
  obtain ⟨v11, q11, rfl, ⟨n2, rfl, wn2⟩, g11⟩ := g10.cons
  obtain ⟨v12, q12, rfl, ⟨n3, rfl, wn3⟩, g12⟩ := g11.cons
  obtain ⟨v13, q13, rfl, ⟨r0, rfl, wr0⟩, g13⟩ := g12.cons
  obtain ⟨v14, q14, rfl, ⟨r1, rfl, wr1⟩, g14⟩ := g13.cons
  obtain ⟨v15, q15, rfl, ⟨r2, rfl, wr2⟩, g15⟩ := g14.cons
  obtain ⟨v16, q16, rfl, ⟨r3, rfl, wr3⟩, g16⟩ := g15.cons
  obtain ⟨v17, q17, rfl, ⟨l0, rfl, wl0⟩, g17⟩ := g16.cons
  obtain ⟨v18, q18, rfl, ⟨l1, rfl, wl1⟩, g18⟩ := g17.cons
  obtain ⟨v19, q19, rfl, ⟨l2, rfl, wl2⟩, g19⟩ := g18.cons
  obtain ⟨v20, q20, rfl, ⟨l3, rfl, wl3⟩, g20⟩ := g19.cons
  obtain rfl := g20.nil
  have b1 := (u8_wf kind).1 wkind
  have b2 := (u8_wf k).1 wk
  have b3 := (u8_wf stan).1 wstan
  have b4 := (u16_wf amo).1 wamo
  have b5 := (u16_wf t).1 wt
  refine ⟨⟨kind.toNat, k.toNat, stan.toNat, amo.toNat, ⟨kd, t, s, pan.data.toList, am, n0, n1, n2, n3, r0, r1, r2, r3, l0, l1, l2, l3⟩⟩, ⟨by show kind.toNat < 256; omega, by show k.toNat < 256; omega, by show stan.toNat < 256; omega, by show amo.toNat < 65536; omega, b5⟩, ?_⟩
  unfold In20.cells recL
  simp only [mkS_back]
  rw [Int.toNat_of_nonneg b1.1, Int.toNat_of_nonneg b2.1, Int.toNat_of_nonneg b3.1, Int.toNat_of_nonneg b4.1]
  rfl
theorem in20s_of {M : Heap} {xs : List Value} {n : Nat} (hl : xs.length = n * 21) (h : ∀ i, i < n → Fits M in20Leaves ((xs.drop (i * 21)).take 21)) : ∃ L : List In20, xs = rowsC In20.cells L ∧ ∀ x ∈ L, x.wf := by
  obtain ⟨L, e, _, hL⟩ := rows_list in21 hl fun i hi => in20_is (h i hi)
  exact ⟨L, e, hL⟩
theorem key_of {M : Heap} {k : Array Value} (h : Fits M [.int .u16, .int .u32] k.toList) : ∃ y : KZ, k = #[.int .u16 y.t, .int .u32 y.s] := by
  obtain ⟨l⟩ := k
  simp only at h
  obtain ⟨v0, q0, rfl, ⟨a, rfl, wa⟩, g0⟩ := h.cons
  obtain ⟨v1, q1, rfl, ⟨b, rfl, wb⟩, g1⟩ := g0.cons
  obtain rfl := g1.nil
  exact ⟨⟨a, b⟩, rfl⟩
end Go.Proofs.YthaggpicjpkjiaaGreat.GL
