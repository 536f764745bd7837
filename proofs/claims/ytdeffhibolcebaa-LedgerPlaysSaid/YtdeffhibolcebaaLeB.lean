/- Layer 21: what a ledger tells: Net, Funds, answer, Total. -/
import Derived.Test.YtdeffhibolcebaaLeA
namespace Go.Proofs.Ytdeffhibolcebaa.GL
open Go Go.RowKit Go.MapKept
set_option maxRecDepth 10000
set_option pp.deepTerms.threshold 8
set_option pp.maxSteps 3000
set_option linter.unusedSimpArgs false
set_option linter.unusedVariables false

section
variable {H R : Heap} {p : Nat} {F : List Acc} {L : List LE} {fm lm : Nat}
def netE (t s : Int) (L : List LE) : Int := ((gE t s L).getD (zE t s)).net
theorem net_c (hR : Heap.le R H) (h : Led R p F L fm lm) (t s : Int) : ECalls Try.prog 15 #[.pointer (some ⟨p, 0, none⟩), .agg #[.int .u16 t, .int .u32 s]] H fun v H' => v = .int .i64 (netE t s L) ∧ Heap.le H H' := by
  refine ecalls_of_ewp (args := [_, _]) Try.func15 rfl rfl rfl (by simp [Try.ntmps15]) (by kernel_rfl) ?_
  have hp := hR _ _ h.row
  have hl := hR _ _ h.es
  simp (disch := first | omega | assumption | decide | (simp <;> omega) | fail) [facts, ]
  refine fresh_intro fun kb hkb => ?_
  have hp2 := upd_other (o := .row true 0 [.int .u16 t, .int .u32 s] 0) hkb hp
  have hl2 := upd_other (o := .row true 0 [.int .u16 t, .int .u32 s] 0) hkb hl
  have hlk := lookE t s hl2
  simp (disch := first | omega | assumption | decide | (simp <;> omega) | fail) [facts, ]
  refine w_plan (by simp [facts]) (opsP [0,1,2,3,4,5,6,7] .done) (by decide +kernel) ?_
  simp (disch := first | omega | assumption | decide | (simp <;> omega) | fail) [facts, hp2, hlk]
  exact ⟨_, Heap.le_refl _, rfl, le_upd _ hkb⟩
theorem funds_c (hR : Heap.le R H) (h : Led R p F L fm lm) (pan : ByteArray) : ECalls Try.prog 18 #[.pointer (some ⟨p, 0, none⟩), .string pan] H fun v H' => v = .tuple #[.int .i64 ((gF pan F).getD 0), .bool (gF pan F).isSome] ∧ Heap.le H H' := by
  refine ecalls_of_ewp (args := [_, _]) Try.func18 rfl rfl rfl (by simp [Try.ntmps18]) (by kernel_rfl) ?_
  have hp := hR _ _ h.row
  have hf := hR _ _ h.fs
  have hlk := lookF2 pan hf
  simp (disch := first | omega | assumption | decide | (simp <;> omega) | fail) [facts, hp, hlk]
  exact ⟨_, Heap.le_refl _, Heap.le_refl _⟩
def ansF (F : List Acc) (pan : ByteArray) (amount : Int) : ByteArray :=
  if amount < 1 ∨ 1000000 < amount then ⟨#[49, 51]⟩
  else if gF pan F = none then ⟨#[49, 52]⟩
  else if (gF pan F).getD 0 < amount then ⟨#[53, 49]⟩ else ⟨#[48, 48]⟩
theorem answer_c (hR : Heap.le R H) (h : Led R p F L fm lm) (pan : ByteArray) (amount : Int) : ECalls Try.prog 22 #[.pointer (some ⟨p, 0, none⟩), .string pan, .int .i64 amount] H fun v H' => v = .string (ansF F pan amount) ∧ Heap.le H H' := by
  refine ecalls_of_ewp (args := [_, _, _]) Try.func22 rfl rfl rfl (by simp [Try.ntmps22]) (by kernel_rfl) ?_
  have hp := hR _ _ h.row
  have hf := hR _ _ h.fs
  have hlk := lookF2 pan hf
  unfold ansF
  by_cases h1 : amount < 1
  · simp (disch := first | omega | assumption | decide | (simp <;> omega) | fail) [facts, hp, hlk, h1]
    exact ⟨_, Heap.le_refl _, Heap.le_refl _⟩
  by_cases h2 : 1000000 < amount
  · simp (disch := first | omega | assumption | decide | (simp <;> omega) | fail) [facts, hp, hlk, h1, h2]
    exact ⟨_, Heap.le_refl _, Heap.le_refl _⟩
  cases hg : gF pan F with
  | none =>
    rw [hg] at hlk
    simp (disch := first | omega | assumption | decide | (simp <;> omega) | fail) [facts, hp, hlk, h1, h2]
    exact ⟨_, Heap.le_refl _, Heap.le_refl _⟩
  | some v =>
    rw [hg] at hlk
    by_cases h3 : v < amount
    · simp (disch := first | omega | assumption | decide | (simp <;> omega) | fail) [facts, hp, hlk, h1, h2, h3]
      exact ⟨_, Heap.le_refl _, Heap.le_refl _⟩
    · simp (disch := first | omega | assumption | decide | (simp <;> omega) | fail) [facts, hp, hlk, h1, h2, h3]
      exact ⟨_, Heap.le_refl _, Heap.le_refl _⟩
end
end Go.Proofs.Ytdeffhibolcebaa.GL
