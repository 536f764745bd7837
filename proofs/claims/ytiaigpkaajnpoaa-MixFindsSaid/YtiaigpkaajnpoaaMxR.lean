/- Layer 17: a set out of its cells. -/
import Derived.Test.YtiaigpkaajnpoaaMxQ
import Derived.Test.YtiaigpkaajnpoaaGlL
import Derived.Test.YtiaigpkaajnpoaaGlV
import Derived.Test.YtiaigpkaajnpoaaGlW
namespace Go.Proofs.Ytiaigpkaajnpoaa.GL
open Go Go.RowKit
set_option linter.unusedSimpArgs false
set_option linter.unusedVariables false
theorem set_of {M : Heap} {cs : Array Value} (h : Fits M (List.replicate 16 (.int .i64)) cs.toList) : ∃ s : S4, Value.agg cs = setV s ∧ i64In s.a.d ∧ i64In s.b.d ∧ i64In s.c.d ∧ i64In s.e.d := by
  obtain ⟨_, _, e0, ⟨z0, rfl, w0⟩, h1⟩ := h.cons
  obtain ⟨_, _, e1, ⟨z1, rfl, w1⟩, h2⟩ := h1.cons
  obtain ⟨_, _, e2, ⟨z2, rfl, w2⟩, h3⟩ := h2.cons
  obtain ⟨_, _, e3, ⟨z3, rfl, w3⟩, h4⟩ := h3.cons
  obtain ⟨_, _, e4, ⟨z4, rfl, w4⟩, h5⟩ := h4.cons
  obtain ⟨_, _, e5, ⟨z5, rfl, w5⟩, h6⟩ := h5.cons
  obtain ⟨_, _, e6, ⟨z6, rfl, w6⟩, h7⟩ := h6.cons
  obtain ⟨_, _, e7, ⟨z7, rfl, w7⟩, h8⟩ := h7.cons
  obtain ⟨_, _, e8, ⟨z8, rfl, w8⟩, h9⟩ := h8.cons
  obtain ⟨_, _, e9, ⟨z9, rfl, w9⟩, h10⟩ := h9.cons
  obtain ⟨_, _, e10, ⟨z10, rfl, w10⟩, h11⟩ := h10.cons
  obtain ⟨_, _, e11, ⟨z11, rfl, w11⟩, h12⟩ := h11.cons
  obtain ⟨_, _, e12, ⟨z12, rfl, w12⟩, h13⟩ := h12.cons
  obtain ⟨_, _, e13, ⟨z13, rfl, w13⟩, h14⟩ := h13.cons
  obtain ⟨_, _, e14, ⟨z14, rfl, w14⟩, h15⟩ := h14.cons
  obtain ⟨_, _, e15, ⟨z15, rfl, w15⟩, h16⟩ := h15.cons
  have e16 := h16.nil
  refine ⟨⟨⟨z0, z1, z2, z3⟩, ⟨z4, z5, z6, z7⟩, ⟨z8, z9, z10, z11⟩, ⟨z12, z13, z14, z15⟩⟩, ?_, ?_, ?_, ?_, ?_⟩
  · unfold setV flat
    congr 1
    rw [← Array.toArray_toList (xs := cs), e0, e1, e2, e3, e4, e5, e6, e7, e8, e9, e10, e11, e12, e13, e14, e15, e16]
  · exact (i64_wf _).1 w0
  · exact (i64_wf _).1 w4
  · exact (i64_wf _).1 w8
  · exact (i64_wf _).1 w12
theorem notes_four {z : List Int} (h : z.length = 4) : ∃ a b c d, z = [a, b, c, d] := by
  match z, h with
  | [a, b, c, d], _ => exact ⟨a, b, c, d, rfl⟩
theorem in_four {a b c d : Int} (h : ∀ z ∈ [a, b, c, d], i64In z) : allIn [a, b, c, d] := h
theorem mixLimits_l (t0 t1 t2 : Nat) (h0 : t0 < 256) (h1 : t1 < 256) (h2 : t2 < 256) (H : Heap) : ECalls Try.prog 5 #[.int .u8 t0, .int .u8 t1, .int .u8 t2] H fun v _ => v = .bool true :=
  (mixLimits_c t0 t1 t2 h0 h1 h2 H).mono fun _ _ h => h.1
theorem mixFirst_l (t0 t1 t2 t3 t4 : Nat) (h0 : t0 < 256) (h1 : t1 < 256) (h2 : t2 < 256) (h3 : t3 < 256) (h4 : t4 < 256) (H : Heap) : ECalls Try.prog 7 #[.int .u8 t0, .int .u8 t1, .int .u8 t2, .int .u8 t3, .int .u8 t4] H fun v _ => v = .bool true :=
  (mixFirst_c t0 t1 t2 t3 t4 h0 h1 h2 h3 h4 H).mono fun _ _ h => h.1
theorem mixFew_l (t0 t1 t2 t3 t4 : Nat) (h0 : t0 < 256) (h1 : t1 < 256) (h2 : t2 < 256) (h3 : t3 < 256) (h4 : t4 < 65536) (H : Heap) : ECalls Try.prog 6 #[.int .u8 t0, .int .u8 t1, .int .u8 t2, .int .u8 t3, .int .u16 t4] H fun v _ => v = .bool true :=
  (mixFew_c t0 t1 t2 t3 t4 h0 h1 h2 h3 h4 H).mono fun _ _ h => h.1
theorem mixMakes_l (k : Nat) (hk : k < 256) (z0 z1 z2 z3 : Int) (H : Heap) : ECalls Try.prog 4 #[.int .u8 k, notesV z0 z1 z2 z3] H fun v _ => v = .bool true :=
  (mixMakes_c k hk z0 z1 z2 z3 H).mono fun _ _ h => h.1
theorem mixFinds_l (s0 : S4) (hd0 : Den s0) (k : Nat) (hk : k < 256) (z0 z1 z2 z3 : Int) (hz : ∀ z ∈ [z0, z1, z2, z3], i64In z) (a : Int) (ha : i64In a) (w : Nat) (hw : w < 65536) (H : Heap) :
    ECalls Try.prog 3 #[setV s0, .int .u8 k, notesV z0 z1 z2 z3, .int .i64 a, .int .u16 w] H fun v _ => v = .bool true :=
  (mixFinds_c s0 hd0 k hk z0 z1 z2 z3 hz a ha w hw H).mono fun _ _ h => h.1
end Go.Proofs.Ytiaigpkaajnpoaa.GL
