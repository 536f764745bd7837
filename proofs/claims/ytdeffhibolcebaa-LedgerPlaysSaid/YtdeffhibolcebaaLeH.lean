/- Layer 21: LedgerApart. -/
import Derived.Test.YtdeffhibolcebaaLeG
namespace Go.Proofs.Ytdeffhibolcebaa.GL
open Go Go.RowKit Go.MapKept
set_option maxRecDepth 10000
set_option pp.deepTerms.threshold 8
set_option pp.maxSteps 3000
set_option linter.unusedSimpArgs false
set_option linter.unusedVariables false

theorem gF51 (x y : Int) : gF p51 [(p51, x), (p9, y)] = some x := by simp [gF, idxF]
theorem gF9 (x y : Int) : gF p9 [(p51, x), (p9, y)] = some y := by simp [gF, idxF, (by decide : ¬ p51 = p9)]
theorem gFno (x y : Int) (pan : ByteArray) (h1 : ¬ pan = p51) (h2 : ¬ pan = p9) : gF pan [(p51, x), (p9, y)] = none := by
  have a1 : ¬ p51 = pan := fun h => h1 h.symm
  have a2 : ¬ p9 = pan := fun h => h2 h.symm
  simp [gF, idxF, a1, a2]
theorem set51 (x y v : Int) : setM p51 v [(p51, x), (p9, y)] = [(p51, v), (p9, y)] := by simp [setM, idxF]
theorem set9 (x y v : Int) : setM p9 v [(p51, x), (p9, y)] = [(p51, x), (p9, v)] := by simp [setM, idxF, (by decide : ¬ p51 = p9)]
/-- What an account has, and what its code is. -/
theorem deb_new {F : List Acc} {L : List LE} {t s : Int} {pan : ByteArray} {a v : Int} (hg : gE t s L = none) (hv : gF pan F = some v) (ha : a ≤ 1000000) :
    (1 ≤ a ∧ a ≤ v ∧ debA F L t s pan a = okS ∧ debF F L t s pan a = setM pan (v - a) F ∧ debL F L t s pan a = setL ⟨t, s, okS, pan, a⟩ L) ∨
    (¬ (1 ≤ a ∧ a ≤ v) ∧ debA F L t s pan a ≠ okS ∧ debF F L t s pan a = F ∧ debL F L t s pan a = setL ⟨t, s, debA F L t s pan a, ByteArray.empty, 0⟩ L) := by
  unfold debA debF debL newE
  simp only [hg]
  by_cases h : 1 ≤ a ∧ a ≤ v
  · left
    have : ansF F pan a = okS := by unfold ansF; rw [if_neg (by omega), if_neg (by rw [hv]; simp), if_neg (by rw [hv]; simp; omega)]
    simp only [this, if_true, hv]
    exact ⟨h.1, h.2, trivial, rfl, trivial⟩
  · right
    have : ansF F pan a ≠ okS := by
      unfold ansF
      by_cases h1 : a < 1 ∨ 1000000 < a
      · rw [if_pos h1]; decide
      · rw [if_neg h1, if_neg (by rw [hv]; simp), if_pos (by rw [hv]; simp; omega)]; decide
    simp only [this, if_false]
    exact ⟨h, this, trivial, trivial⟩
theorem deb_none {F : List Acc} {L : List LE} {t s : Int} {pan : ByteArray} {a : Int} (hg : gE t s L = none) (hv : gF pan F = none) (h1 : 1 ≤ a) (ha : a ≤ 1000000) :
    debA F L t s pan a = ⟨#[49, 52]⟩ ∧ debF F L t s pan a = F ∧ debL F L t s pan a = setL ⟨t, s, ⟨#[49, 52]⟩, ByteArray.empty, 0⟩ L := by
  have : ansF F pan a = ⟨#[49, 52]⟩ := by unfold ansF; rw [if_neg (by omega), if_pos hv]
  unfold debA debF debL newE
  simp only [hg, this]
  exact ⟨trivial, if_neg (by decide), by rw [if_neg (by decide)]⟩
theorem gE_nil (t s : Int) : gE t s [] = none := rfl
theorem gE_cons (t s : Int) (x : LE) (l : List LE) : gE t s (x :: l) = if x.t = t ∧ x.s = s then some x else gE t s l := by
  have hu : idxE t s (x :: l) = if x.t = t ∧ x.s = s then some 0 else (idxE t s l).map (· + 1) := rfl
  unfold gE
  rw [hu]
  by_cases h : x.t = t ∧ x.s = s
  · simp [h]
  · simp only [h, if_false]
    cases idxE t s l <;> simp
theorem idxE_none {t s : Int} {l : List LE} : gE t s l = none ↔ idxE t s l = none := by
  unfold gE
  cases hi : idxE t s l with
  | none => simp
  | some i =>
    obtain ⟨e, he, _⟩ := idxE_lt hi
    simp [he]
theorem setL_new {e : LE} {l : List LE} (h : gE e.t e.s l = none) : setL e l = l ++ [e] := by
  unfold setL
  rw [idxE_none.1 h]

structure ApartP (a b stan : Int) (pan : ByteArray) (c d e : ByteArray) (F3 : List Acc) (L3 : List LE) (f g : Int) (there : Bool) : Prop where
  hc : (decide (c = okS)) = decide (a / 2 + 1 ≤ a)
  hd : (decide (d = okS)) = decide (0 < b)
  ht : there = (decide (pan = p51) || decide (pan = p9))
  he : there = false → e = ⟨#[49, 52]⟩
  hf : gF p51 F3 = some f
  hg : gF p9 F3 = some g
  hp : (gF pan F3).isSome = there
  nn : 0 ≤ f ∧ 0 ≤ g
  eq : there = false → f = a - netE 0 stan L3 ∧ g = b - netE 1 stan L3 ∧ sumF F3 = f + g
  len : F3.length ≤ 64
  bd : ∀ x ∈ F3, 0 ≤ x.2 ∧ x.2 ≤ 10000000000000
  nb : (0 ≤ netE 0 stan L3 ∧ netE 0 stan L3 ≤ 1000000) ∧ (0 ≤ netE 1 stan L3 ∧ netE 1 stan L3 ≤ 1000000) ∧ f ≤ 100000 ∧ g ≤ 100000
theorem apart_pure (a b stan : Int) (pan : ByteArray) (ha : 0 ≤ a ∧ a ≤ 65535) (hb : 0 ≤ b ∧ b ≤ 65535) :
    ∃ (c d e : ByteArray) (F1 F2 F3 : List Acc) (L1 L2 L3 : List LE) (f g : Int) (there : Bool),
      debA [(p51, a), (p9, b)] [] 0 stan p51 (a / 2 + 1) = c ∧ debF [(p51, a), (p9, b)] [] 0 stan p51 (a / 2 + 1) = F1 ∧ debL [(p51, a), (p9, b)] [] 0 stan p51 (a / 2 + 1) = L1 ∧
      debA F1 L1 1 stan p9 b = d ∧ debF F1 L1 1 stan p9 b = F2 ∧ debL F1 L1 1 stan p9 b = L2 ∧
      debA F2 L2 2 0 pan 5 = e ∧ debF F2 L2 2 0 pan 5 = F3 ∧ debL F2 L2 2 0 pan 5 = L3 ∧
      (∀ v, gF p9 F1 = some v → v ≤ 100000000000000) ∧ (∀ v, gF pan F2 = some v → v ≤ 100000000000000) ∧
      ApartP a b stan pan c d e F3 L3 f g there := by
  -- the first debit
  obtain ⟨c, pn, a1, hc, hF1, hL1, hcok, ha1⟩ : ∃ c pn a1, debA [(p51, a), (p9, b)] [] 0 stan p51 (a / 2 + 1) = c ∧ debF [(p51, a), (p9, b)] [] 0 stan p51 (a / 2 + 1) = [(p51, a - a1), (p9, b)] ∧ debL [(p51, a), (p9, b)] [] 0 stan p51 (a / 2 + 1) = [⟨0, stan, c, pn, a1⟩] ∧ decide (c = okS) = decide (a / 2 + 1 ≤ a) ∧ 0 ≤ a1 ∧ a1 ≤ a := by
    rcases deb_new (gE_nil 0 stan) (gF51 a b) (a := a / 2 + 1) (by omega) with ⟨h1, h2, h3, h4, h5⟩ | ⟨h1, h3, h4, h5⟩
    · refine ⟨_, p51, a / 2 + 1, rfl, by rw [h4, set51], by rw [h5, h3, setL_new (gE_nil _ _)]; rfl, by rw [h3]; simp [h2], by omega, h2⟩
    · refine ⟨_, ByteArray.empty, 0, rfl, by rw [h4]; simp, by rw [h5, setL_new (gE_nil _ _)]; rfl, ?_, by omega, by omega⟩
      have : ¬ (a / 2 + 1 ≤ a) := fun h => h1 ⟨by omega, h⟩
      simp [h3, this]
  have hg2 : gE 1 stan [⟨0, stan, c, pn, a1⟩] = none := by simp [gE_cons, gE_nil]
  obtain ⟨d, pn2, hd, hF2, hL2, hdok⟩ : ∃ d pn2, debA [(p51, a - a1), (p9, b)] [⟨0, stan, c, pn, a1⟩] 1 stan p9 b = d ∧ debF [(p51, a - a1), (p9, b)] [⟨0, stan, c, pn, a1⟩] 1 stan p9 b = [(p51, a - a1), (p9, 0)] ∧ debL [(p51, a - a1), (p9, b)] [⟨0, stan, c, pn, a1⟩] 1 stan p9 b = [⟨0, stan, c, pn, a1⟩, ⟨1, stan, d, pn2, b⟩] ∧ decide (d = okS) = decide (0 < b) := by
    rcases deb_new hg2 (gF9 (a - a1) b) (a := b) (by omega) with ⟨h1, h2, h3, h4, h5⟩ | ⟨h1, h3, h4, h5⟩
    · refine ⟨_, p9, rfl, by rw [h4, set9]; simp, by rw [h5, h3, setL_new hg2]; rfl, by rw [h3]; simp; omega⟩
    · have hb0 : b = 0 := by omega
      subst hb0
      refine ⟨_, ByteArray.empty, rfl, by rw [h4], by rw [h5, setL_new hg2]; rfl, by simp [h3]⟩
  have hg3 : gE 2 0 [⟨0, stan, c, pn, a1⟩, ⟨1, stan, d, pn2, b⟩] = none := by simp [gE_cons, gE_nil]
  have hbd : ∀ v, gF p9 [(p51, a - a1), (p9, b)] = some v → v ≤ 100000000000000 := fun v hv => by rw [gF9] at hv; cases hv; omega
  have hn0 : ∀ (x : LE), x.t = 2 → netE 0 stan [⟨0, stan, c, pn, a1⟩, ⟨1, stan, d, pn2, b⟩, x] = a1 := fun x hx => by simp [netE, gE_cons]
  have hn1 : ∀ (x : LE), x.t = 2 → netE 1 stan [⟨0, stan, c, pn, a1⟩, ⟨1, stan, d, pn2, b⟩, x] = b := fun x hx => by simp [netE, gE_cons]
  by_cases h1 : pan = p51
  · subst h1
    have hb2 : ∀ v, gF p51 [(p51, a - a1), (p9, 0)] = some v → v ≤ 100000000000000 := fun v hv => by rw [gF51] at hv; cases hv; omega
    rcases deb_new hg3 (gF51 (a - a1) 0) (a := 5) (by omega) with ⟨k1, k2, k3, k4, k5⟩ | ⟨k1, k3, k4, k5⟩
    · rw [set51] at k4
      rw [setL_new hg3] at k5
      refine ⟨c, d, _, _, _, _, _, _, _, a - a1 - 5, 0, true, hc, hF1, hL1, hd, hF2, hL2, rfl, k4, k5, hbd, hb2, hcok, hdok, by simp, by simp, gF51 _ _, gF9 _ _, by rw [gF51]; rfl, by omega, by simp, by simp, ?_, ?_⟩
      · intro x hx; simp at hx; rcases hx with rfl | rfl <;> simp <;> omega
      · simp only [List.cons_append, List.nil_append]
        rw [hn0 _ rfl, hn1 _ rfl]
        omega
    · rw [setL_new hg3] at k5
      refine ⟨c, d, _, _, _, _, _, _, _, a - a1, 0, true, hc, hF1, hL1, hd, hF2, hL2, rfl, k4, k5, hbd, hb2, hcok, hdok, by simp, by simp, gF51 _ _, gF9 _ _, by rw [gF51]; rfl, by omega, by simp, by simp, ?_, ?_⟩
      · intro x hx; simp at hx; rcases hx with rfl | rfl <;> simp <;> omega
      · simp only [List.cons_append, List.nil_append]
        rw [hn0 _ rfl, hn1 _ rfl]
        omega
  · by_cases h2 : pan = p9
    · subst h2
      have hb2 : ∀ v, gF p9 [(p51, a - a1), (p9, 0)] = some v → v ≤ 100000000000000 := fun v hv => by rw [gF9] at hv; cases hv; omega
      rcases deb_new hg3 (gF9 (a - a1) 0) (a := 5) (by omega) with ⟨k1, k2, k3, k4, k5⟩ | ⟨k1, k3, k4, k5⟩
      · omega
      · rw [setL_new hg3] at k5
        refine ⟨c, d, _, _, _, _, _, _, _, a - a1, 0, true, hc, hF1, hL1, hd, hF2, hL2, rfl, k4, k5, hbd, hb2, hcok, hdok, by simp, by simp, gF51 _ _, gF9 _ _, by rw [gF9]; rfl, by omega, by simp, by simp, ?_, ?_⟩
        · intro x hx; simp at hx; rcases hx with rfl | rfl <;> simp <;> omega
        · simp only [List.cons_append, List.nil_append]
          rw [hn0 _ rfl, hn1 _ rfl]
          omega
    · have hno := gFno (a - a1) 0 pan h1 h2
      have hb2 : ∀ v, gF pan [(p51, a - a1), (p9, 0)] = some v → v ≤ 100000000000000 := fun v hv => by rw [hno] at hv; cases hv
      obtain ⟨k3, k4, k5⟩ := deb_none hg3 hno (a := 5) (by omega) (by omega)
      rw [setL_new hg3] at k5
      have h0 := hn0 ⟨2, 0, ⟨#[49, 52]⟩, ByteArray.empty, 0⟩ rfl
      have h1' := hn1 ⟨2, 0, ⟨#[49, 52]⟩, ByteArray.empty, 0⟩ rfl
      refine ⟨c, d, _, _, _, _, _, _, _, a - a1, 0, false, hc, hF1, hL1, hd, hF2, hL2, k3, k4, k5, hbd, hb2, hcok, hdok, by simp [h1, h2], by simp, gF51 _ _, gF9 _ _, by rw [hno]; rfl, by omega, ?_, by simp, ?_, ?_⟩
      · intro _
        simp only [List.cons_append, List.nil_append]
        rw [h0, h1']
        simp [sumF]
      · intro x hx; simp at hx; rcases hx with rfl | rfl <;> simp <;> omega
      · simp only [List.cons_append, List.nil_append]
        rw [h0, h1']
        omega
end Go.Proofs.Ytdeffhibolcebaa.GL
