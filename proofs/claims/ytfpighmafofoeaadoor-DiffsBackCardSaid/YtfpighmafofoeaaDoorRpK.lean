/- Layer 23: arguments of the laws. -/
import Derived.Test.YtfpighmafofoeaaDoorRpG
import Derived.Test.YtfpighmafofoeaaDoorGlW
namespace Go.Proofs.YtfpighmafofoeaaDoor.GL
open Go Go.RowKit
open Ca (Cs S4)
open St (Txn txnL)
set_option maxRecDepth 10000
set_option pp.deepTerms.threshold 8
set_option pp.maxSteps 3000
set_option linter.unusedSimpArgs false
set_option linter.unusedVariables false

def CsIn (cs : List Cs) : Prop := cs.length = 4 ∧ ∀ c ∈ cs, i64In c.g ∧ i64In c.r
theorem css_of {M : Heap} {cs : Array Value} (h : Fits M (List.replicate 16 (.int .i64)) cs.toList) : ∃ ds : List Cs, Value.agg cs = cssV ds ∧ CsIn ds := by
  obtain ⟨_, _, e0, ⟨z0, rfl, w0⟩, h1⟩ := h.cons
  obtain ⟨_, _, e1, ⟨z1, rfl, w1⟩, h2⟩ := h1.cons
  obtain ⟨_, _, e2, ⟨z2, rfl, w2⟩, h3⟩ := h2.cons
  obtain ⟨_, _, e3, ⟨z3, rfl, w3⟩, h4⟩ := h3.cons
  obtain ⟨_, _, e4, ⟨z4, rfl, w4⟩, h5⟩ := h4.cons
  obtain ⟨_, _, e5, ⟨z5, rfl, w5⟩, h6⟩ := h5.cons
  obtain ⟨_, _, e6, ⟨z6, rfl, w6⟩, h7⟩ := h6.cons
  obtain ⟨_, _, e7, ⟨z7, rfl, w7⟩, h8⟩ := h7.cons
  obtain ⟨_, _, e8, ⟨z8, rfl, w8⟩, h9⟩ := h8.cons
  obtain ⟨_, _, e9, ⟨z9, rfl, w9⟩, h10⟩ := h9.cons
  obtain ⟨_, _, e10, ⟨z10, rfl, w10⟩, h11⟩ := h10.cons
  obtain ⟨_, _, e11, ⟨z11, rfl, w11⟩, h12⟩ := h11.cons
  obtain ⟨_, _, e12, ⟨z12, rfl, w12⟩, h13⟩ := h12.cons
  obtain ⟨_, _, e13, ⟨z13, rfl, w13⟩, h14⟩ := h13.cons
  obtain ⟨_, _, e14, ⟨z14, rfl, w14⟩, h15⟩ := h14.cons
  obtain ⟨_, _, e15, ⟨z15, rfl, w15⟩, h16⟩ := h15.cons
  have e16 := h16.nil
  refine ⟨[⟨z0, z1, z2, z3⟩, ⟨z4, z5, z6, z7⟩, ⟨z8, z9, z10, z11⟩, ⟨z12, z13, z14, z15⟩], ?_, rfl, fun c hc => ?_⟩
  · unfold cssV
    congr 1
    rw [← Array.toArray_toList (xs := cs), e0, e1, e2, e3, e4, e5, e6, e7, e8, e9, e10, e11, e12, e13, e14, e15, e16]
    rfl
  · simp only [List.mem_cons, List.not_mem_nil, or_false] at hc
    rcases hc with rfl | rfl | rfl | rfl
    · exact ⟨(i64_wf _).1 w2, (i64_wf _).1 w3⟩
    · exact ⟨(i64_wf _).1 w6, (i64_wf _).1 w7⟩
    · exact ⟨(i64_wf _).1 w10, (i64_wf _).1 w11⟩
    · exact ⟨(i64_wf _).1 w14, (i64_wf _).1 w15⟩
theorem mkS_back (s : ByteArray) : mkS s.data.toList = s := by
  cases s; simp [mkS]
def txLeaves : List Leaf := [.int .u16, .int .u32, .str, .int .i64, .int .i64, .int .i64, .int .i64, .int .i64, .int .i64, .int .i64, .int .i64]
theorem tx_is {M : Heap} {cs : List Value} (h : Fits M txLeaves cs) : ∃ x : Txn, i64In x.given ∧ cs = txnL x := by
  unfold txLeaves at h
  obtain ⟨v0, q0, rfl, ⟨t, rfl, wt⟩, g0⟩ := h.cons
  obtain ⟨v1, q1, rfl, ⟨s, rfl, ws⟩, g1⟩ := g0.cons
  obtain ⟨v2, q2, rfl, ⟨pan, rfl, wpan⟩, g2⟩ := g1.cons
  obtain ⟨v3, q3, rfl, ⟨am, rfl, wam⟩, g3⟩ := g2.cons
  obtain ⟨v4, q4, rfl, ⟨st, rfl, wst⟩, g4⟩ := g3.cons
  obtain ⟨v5, q5, rfl, ⟨n0, rfl, wn0⟩, g5⟩ := g4.cons
  obtain ⟨v6, q6, rfl, ⟨n1, rfl, wn1⟩, g6⟩ := g5.cons
  obtain ⟨v7, q7, rfl, ⟨n2, rfl, wn2⟩, g7⟩ := g6.cons
  obtain ⟨v8, q8, rfl, ⟨n3, rfl, wn3⟩, g8⟩ := g7.cons
  obtain ⟨v9, q9, rfl, ⟨gv, rfl, wgv⟩, g9⟩ := g8.cons
  obtain ⟨v10, q10, rfl, ⟨ow, rfl, wow⟩, g10⟩ := g9.cons
  obtain rfl := g10.nil
  refine ⟨⟨t, s, pan.data.toList, am, st, n0, n1, n2, n3, gv, ow⟩, (i64_wf gv).1 wgv, ?_⟩
  unfold txnL
  simp only [mkS_back]
theorem txs_of {M : Heap} {xs : List Value} {n : Nat} (hl : xs.length = n * 11) (h : ∀ i, i < n → Fits M txLeaves ((xs.drop (i * 11)).take 11)) : ∃ L : List Txn, xs = rowsC txnL L ∧ ∀ x ∈ L, i64In x.given := by
  obtain ⟨L, e, _, hL⟩ := rows_list tx11 hl fun i hi => tx_is (h i hi)
  exact ⟨L, e, hL⟩
end Go.Proofs.YtfpighmafofoeaaDoor.GL
