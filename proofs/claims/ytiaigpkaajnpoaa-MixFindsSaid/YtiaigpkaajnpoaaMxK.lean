/- Layer 17: what is known of one set; finding, evaluated. -/
import Derived.Test.YtiaigpkaajnpoaaMxJ
namespace Go.Proofs.Ytiaigpkaajnpoaa.GL
open Go Go.RowKit
set_option maxRecDepth 10000
set_option pp.deepTerms.threshold 8
set_option pp.maxSteps 3000
set_option linter.unusedSimpArgs false
set_option linter.unusedVariables false

theorem FindR.mk {s : S4} {amount : Int} {a b c e : Nat} (h1 : 1 ≤ amount) (h2 : amount ≤ 1000000) (h : F4 s amount.toNat a b c e)
    (hn : NF s amount.toNat ((a : Int) + b + c + e) a b c) : FindR s amount [a, b, c, e] 0 := .some _ h1 h2 (best4 h hn)
theorem FindR.no {s : S4} {amount : Int} (h1 : 1 ≤ amount) (h2 : amount ≤ 1000000) (h : ∀ a b c e, ¬ F4 s amount.toNat a b c e) : FindR s amount [0, 0, 0, 0] 33 :=
  .none h1 h2 fun y hy => by
    obtain ⟨a, b, c, e, _, f⟩ := feas_iff.1 hy
    exact h _ _ _ _ f
def k17 : S4 := ⟨⟨50, 9, 0, 0⟩, ⟨20, 9, 0, 0⟩, ⟨0, 0, 0, 0⟩, ⟨0, 0, 0, 0⟩⟩
theorem k17_f {N a b c e : Nat} : F4 k17 N a b c e ↔ a ≤ 9 ∧ b ≤ 9 ∧ c = 0 ∧ e = 0 ∧ a * 50 + b * 20 = N ∧ a + b ≤ 40 := by
  have h1 : k17.a.m = 9 := by decide
  have h2 : k17.b.m = 9 := by decide
  have h3 : k17.c.m = 0 := by decide
  have h4 : k17.e.m = 0 := by decide
  have v1 : k17.a.v = 50 := by decide
  have v2 : k17.b.v = 20 := by decide
  have v3 : k17.c.v = 0 := by decide
  have v4 : k17.e.v = 0 := by decide
  constructor
  · rintro ⟨i1, i2, i3, i4, i5, i6⟩
    rw [h1] at i1; rw [h2] at i2; rw [h3] at i3; rw [h4] at i4; rw [v1, v2, v3, v4] at i5
    omega
  · rintro ⟨i1, i2, i3, i4, i5, i6⟩
    exact ⟨by rw [h1]; exact i1, by rw [h2]; exact i2, by omega, by omega, by rw [v1, v2, v3, v4]; omega, by omega⟩
theorem k60 : FindR k17 60 [0, 3, 0, 0] 0 := .mk (by decide) (by decide) (k17_f.2 (by decide)) fun a b c e f => by
  have := k17_f.1 f
  simp at this
  omega
theorem k30 : FindR k17 30 [0, 0, 0, 0] 33 := .no (by decide) (by decide) fun a b c e f => by
  have := k17_f.1 f
  simp at this
  omega
theorem find1 (s : S4) (amount : Int) (ha : i64In amount) {x : List Nat} {e : Int} (h : FindR s amount x e) (H : Heap) : ECalls Try.prog 11 #[setV s, .int .i64 amount] H fun v H' => v = .tuple #[notesL x, .int .i64 e] ∧ Heap.le H H' :=
  (find_c s amount ha H).mono fun v H' ⟨y, f, hv, hf, hle⟩ => by
    obtain ⟨rfl, rfl⟩ := h.one hf
    exact ⟨hv, hle⟩
theorem notesL_V (a b c d : Nat) : notesL [a, b, c, d] = notesV a b c d := rfl
theorem known_c (H : Heap) : ECalls Try.prog 8 #[] H fun v H' => v = .bool true ∧ Heap.le H H' := by
  refine ecalls_of_ewp (args := []) Try.func8 rfl rfl rfl (by simp [Try.ntmps8]) (by kernel_rfl) ?_
  have c1 := fun H => find1 k17 60 (by decide) k60 H
  have c2 := fun H => find1 k17 30 (by decide) k30 H
  have c3 := fun H => worthM_c k17 0 3 0 0 H (by decide) (by decide)
  have w5 : worthV [0, 3, 0, 0] [k17.a.d, k17.b.d, k17.c.d, k17.e.d] = .tuple #[.int .i64 60, .bool true] := by
    unfold worthV; rw [if_pos (by decide)]; exact totV_yes (by decide)
  simp only [w5] at c3
  have c4 := fun H => left_c 50 9 0 0 H
  have l4 : leftZ 9 0 0 = 9 := by decide
  simp only [l4, cassV] at c4
  have hF : setV k17 = .agg #[.int .i64 50, .int .i64 9, .int .i64 0, .int .i64 0, .int .i64 20, .int .i64 9, .int .i64 0, .int .i64 0, .int .i64 0, .int .i64 0, .int .i64 0, .int .i64 0, .int .i64 0, .int .i64 0, .int .i64 0, .int .i64 0] := rfl
  rw [hF] at c1 c2 c3
  have n1 : notesL [0, 3, 0, 0] = .agg #[.int .i64 0, .int .i64 3, .int .i64 0, .int .i64 0] := rfl
  have n2 : notesL [0, 0, 0, 0] = .agg #[.int .i64 0, .int .i64 0, .int .i64 0, .int .i64 0] := rfl
  have n3 : notesV 0 3 0 0 = .agg #[.int .i64 0, .int .i64 3, .int .i64 0, .int .i64 0] := rfl
  rw [n1] at c1
  rw [n2] at c2
  rw [n3] at c3
  have hsp : splice (rep 16 (Value.int .i64 0)) 0 (splice (splice (rep 16 (Value.int .i64 0)) 0 [.int .i64 50, .int .i64 9, .int .i64 0, .int .i64 0]) 4 [.int .i64 20, .int .i64 9, .int .i64 0, .int .i64 0]) = flat k17 := rfl
  have hfl : (flat k17).length = 16 := rfl
  have hft : List.take 16 (flat k17) = flat k17 := rfl
  have hf4 : List.take 4 (flat k17) = [.int .i64 50, .int .i64 9, .int .i64 0, .int .i64 0] := rfl
  rw [← hF] at c1 c2 c3
  unfold setV at c1 c2 c3
  simp (disch := first | omega | assumption | decide | (simp <;> omega) | fail) [facts, ]
  refine fresh_intro fun b1 hb1 => ?_
  simp (disch := first | omega | assumption | decide | (simp <;> omega) | fail) [facts, hsp, hft, hfl, upd_upd]
  have r1 := upd_same H b1 (.row true 0 (flat k17) 0)
  have hle := le_upd (.row true 0 (flat k17) 0) hb1
  generalize upd H b1 (.row true 0 (flat k17) 0) = H1 at *
  generalize flat k17 = F at *
  refine (c1 _).mono ?_
  rintro v H2 ⟨rfl, hle2⟩
  replace r1 := hle2 _ _ r1
  replace hle := Heap.le_trans hle hle2
  clear hb1 hle2
  simp (disch := first | omega | assumption | decide | (simp <;> omega) | fail) [facts, ]
  refine fresh_intro fun b2 hb2 => ?_
  simp (disch := first | omega | assumption | decide | (simp <;> omega) | fail) [facts, upd_upd]
  replace r1 := upd_other (o := .row true 0 [.int .i64 0, .int .i64 3, .int .i64 0, .int .i64 0] 0) hb2 r1
  have r2 := upd_same H2 b2 (.row true 0 [.int .i64 0, .int .i64 3, .int .i64 0, .int .i64 0] 0)
  replace hle := Heap.le_trans hle (le_upd (.row true 0 [.int .i64 0, .int .i64 3, .int .i64 0, .int .i64 0] 0) hb2)
  generalize upd H2 b2 (.row true 0 [.int .i64 0, .int .i64 3, .int .i64 0, .int .i64 0] 0) = H3 at *
  clear hb2
  simp (disch := first | omega | assumption | decide | (simp <;> omega) | fail) [facts, r1, hft, hfl]
  refine (c2 _).mono ?_
  rintro v H4 ⟨rfl, hle2⟩
  replace r1 := hle2 _ _ r1
  replace r2 := hle2 _ _ r2
  replace hle := Heap.le_trans hle hle2
  clear hle2
  simp (disch := first | omega | assumption | decide | (simp <;> omega) | fail) [facts, ]
  refine fresh_intro fun b3 hb3 => ?_
  simp (disch := first | omega | assumption | decide | (simp <;> omega) | fail) [facts, upd_upd]
  replace r1 := upd_other (o := .row true 0 [.int .i64 0, .int .i64 0, .int .i64 0, .int .i64 0] 0) hb3 r1
  replace r2 := upd_other (o := .row true 0 [.int .i64 0, .int .i64 0, .int .i64 0, .int .i64 0] 0) hb3 r2
  replace hle := Heap.le_trans hle (le_upd (.row true 0 [.int .i64 0, .int .i64 0, .int .i64 0, .int .i64 0] 0) hb3)
  generalize upd H4 b3 (.row true 0 [.int .i64 0, .int .i64 0, .int .i64 0, .int .i64 0] 0) = H5 at *
  clear hb3
  simp (disch := first | omega | assumption | decide | (simp <;> omega) | fail) [facts, r1, r2, hft, hfl]
  refine (c3 _).mono ?_
  rintro v H6 ⟨rfl, hle2⟩
  replace r1 := hle2 _ _ r1
  replace r2 := hle2 _ _ r2
  replace hle := Heap.le_trans hle hle2
  clear hle2
  simp (disch := first | omega | assumption | decide | (simp <;> omega) | fail) [facts, r1, r2, hft, hfl, hf4]
  refine (c4 _).mono ?_
  rintro v H7 ⟨rfl, hle2⟩
  replace hle := Heap.le_trans hle hle2
  simp (disch := first | omega | assumption | decide | (simp <;> omega) | fail) [facts, ]
  exact ⟨_, Heap.le_refl _, hle⟩
end Go.Proofs.Ytiaigpkaajnpoaa.GL
