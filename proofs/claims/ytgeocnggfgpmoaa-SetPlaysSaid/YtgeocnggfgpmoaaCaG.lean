/- Layer 18: the walk of SetCounts. -/
import Derived.Test.YtgeocnggfgpmoaaCaF
import Derived.Test.YtgeocnggfgpmoaaGlV
import Derived.Test.YtgeocnggfgpmoaaGlW
namespace Go.Proofs.Ytgeocnggfgpmoaa.GL
open Go Go.RowKit
set_option maxRecDepth 10000
set_option pp.deepTerms.threshold 8
set_option pp.maxSteps 3000
set_option linter.unusedSimpArgs false
set_option linter.unusedVariables false

structure ActZ where
  w : Nat
  n0 : Int
  n1 : Int
  n2 : Int
  n3 : Int
  r0 : Int
  r1 : Int
  r2 : Int
  r3 : Int
def ActZ.cells (A : ActZ) : List Value := [.int .u8 A.w, .int .i64 A.n0, .int .i64 A.n1, .int .i64 A.n2, .int .i64 A.n3, .int .i64 A.r0, .int .i64 A.r1, .int .i64 A.r2, .int .i64 A.r3]
def actLeaves : List Leaf := [.int .u8, .int .i64, .int .i64, .int .i64, .int .i64, .int .i64, .int .i64, .int .i64, .int .i64]
theorem act_of {cs : List Value} (h : Fits actLeaves cs) : ∃ A : ActZ, cs = A.cells ∧ A.w < 256 := by
  obtain ⟨_, _, rfl, ⟨w, rfl, hw⟩, h1⟩ := h.cons
  obtain ⟨_, _, rfl, ⟨n0, rfl, _⟩, h2⟩ := h1.cons
  obtain ⟨_, _, rfl, ⟨n1, rfl, _⟩, h3⟩ := h2.cons
  obtain ⟨_, _, rfl, ⟨n2, rfl, _⟩, h4⟩ := h3.cons
  obtain ⟨_, _, rfl, ⟨n3, rfl, _⟩, h5⟩ := h4.cons
  obtain ⟨_, _, rfl, ⟨r0, rfl, _⟩, h6⟩ := h5.cons
  obtain ⟨_, _, rfl, ⟨r1, rfl, _⟩, h7⟩ := h6.cons
  obtain ⟨_, _, rfl, ⟨r2, rfl, _⟩, h8⟩ := h7.cons
  obtain ⟨_, _, rfl, ⟨r3, rfl, _⟩, h9⟩ := h8.cons
  obtain rfl := h9.nil
  have hw := (u8_wf w).1 hw
  refine ⟨⟨w.toNat, n0, n1, n2, n3, r0, r1, r2, r3⟩, ?_, ?_⟩
  · simp [ActZ.cells]; omega
  · simp only; omega
theorem small0_c (a b c d : Int) (H : Heap) : ECalls Try.prog 9 #[notesV a b c d, .int .u8 0] H fun v H' => v = notesV (placeZ a) (placeZ b) (placeZ c) (placeZ d) ∧ Heap.le H H' :=
  (small_c a b c d 0 H (by decide)).mono fun v H' h => by simpa using h

/-- What the two boxes hold while the region draws its order. -/
structure Two (F : Heap) (N R Z : List Value) (c : Nat × Nat) (g : Nat → Bool) (H : Heap) : Prop where
  le : Heap.le F H
  fst : g 12 = true → F c.1 = none ∧ H c.1 = some (.row true 0 (if g 14 then N else Z) 0)
  snd : g 13 = true → F c.2 = none ∧ H c.2 = some (.row true 0 (if g 15 then R else Z) 0)
  ne : g 12 = true → g 13 = true → c.1 ≠ c.2
  bk1 : g 14 = true → g 12 = true
  bk2 : g 15 = true → g 13 = true
theorem Two.keep {F : Heap} {N R Z : List Value} {c : Nat × Nat} {g : Nat → Bool} {H H' : Heap} (h : Two F N R Z c g H) (hl : Heap.le H H') {i : Nat} (hi : i < 12) : Two F N R Z c (setB g i) H' := by
  have e : ∀ j, 12 ≤ j → setB g i j = g j := fun j hj => by unfold setB; rw [if_neg (by omega)]
  refine ⟨Heap.le_trans h.le hl, fun hg => ?_, fun hg => ?_, fun h1 h2 => ?_, fun hg => ?_, fun hg => ?_⟩
  · rw [e 12 (by omega)] at hg; rw [e 14 (by omega)]; exact ⟨(h.fst hg).1, hl _ _ (h.fst hg).2⟩
  · rw [e 13 (by omega)] at hg; rw [e 15 (by omega)]; exact ⟨(h.snd hg).1, hl _ _ (h.snd hg).2⟩
  · rw [e 12 (by omega)] at h1; rw [e 13 (by omega)] at h2; exact h.ne h1 h2
  · rw [e 14 (by omega)] at hg; rw [e 12 (by omega)]; exact h.bk1 hg
  · rw [e 15 (by omega)] at hg; rw [e 13 (by omega)]; exact h.bk2 hg
theorem Two.new1 {F : Heap} {N R Z : List Value} {c : Nat × Nat} {g : Nat → Bool} {H : Heap} (h : Two F N R Z c g H) {b : Nat} (hb : H b = none) (h12 : g 12 = false) : Two F N R Z (b, c.2) (setB g 12) (upd H b (.row true 0 Z 0)) := by
  have hf : F b = none := le_of_none h.le hb
  have h14 : g 14 = false := by
    cases h14 : g 14 with
    | false => rfl
    | true => rw [h.bk1 h14] at h12; cases h12
  refine ⟨Heap.le_trans h.le (le_upd _ hb), fun _ => ⟨hf, ?_⟩, fun hg => ?_, fun _ h2 => ?_, fun _ => by simp [setB], fun hg => by simpa [setB] using h.bk2 (by simpa [setB] using hg)⟩
  · simp [setB, h14, upd_same]
  · have hg' : g 13 = true := by simpa [setB] using hg
    have := h.snd hg'
    refine ⟨this.1, ?_⟩
    have e15 : setB g 12 15 = g 15 := by simp [setB]
    rw [e15]
    exact upd_other hb this.2
  · have hg' : g 13 = true := by simpa [setB] using h2
    exact fun e => by
      have := (h.snd hg').2
      simp only at e
      rw [← e, hb] at this; cases this
theorem Two.new2 {F : Heap} {N R Z : List Value} {c : Nat × Nat} {g : Nat → Bool} {H : Heap} (h : Two F N R Z c g H) {b : Nat} (hb : H b = none) (h13 : g 13 = false) : Two F N R Z (c.1, b) (setB g 13) (upd H b (.row true 0 Z 0)) := by
  have hf : F b = none := le_of_none h.le hb
  have h15 : g 15 = false := by
    cases h15 : g 15 with
    | false => rfl
    | true => rw [h.bk2 h15] at h13; cases h13
  refine ⟨Heap.le_trans h.le (le_upd _ hb), fun hg => ?_, fun _ => ⟨hf, ?_⟩, fun h2 _ => ?_, fun hg => by simpa [setB] using h.bk1 (by simpa [setB] using hg), fun _ => by simp [setB]⟩
  · have hg' : g 12 = true := by simpa [setB] using hg
    have := h.fst hg'
    refine ⟨this.1, ?_⟩
    have e14 : setB g 13 14 = g 14 := by simp [setB]
    rw [e14]
    exact upd_other hb this.2
  · simp [setB, h15, upd_same]
  · have hg' : g 12 = true := by simpa [setB] using h2
    exact fun e => by
      have := (h.fst hg').2
      simp only at e
      rw [e, hb] at this; cases this
theorem Two.set1 {F : Heap} {N R Z : List Value} {c : Nat × Nat} {g : Nat → Bool} {H : Heap} (h : Two F N R Z c g H) (hg : g 12 = true) : Two F N R Z c (setB g 14) (upd H c.1 (.row true 0 N 0)) := by
  refine ⟨le_updN _ h.le (h.fst hg).1, fun _ => ⟨(h.fst hg).1, by simp [setB, upd_same]⟩, fun h2 => ?_, fun h1 h2 => ?_, fun _ => by simpa [setB] using hg, fun h2 => by simpa [setB] using h.bk2 (by simpa [setB] using h2)⟩
  · have h2' : g 13 = true := by simpa [setB] using h2
    have e15 : setB g 14 15 = g 15 := by simp [setB]
    rw [e15, upd_ne _ _ (Ne.symm (h.ne hg h2'))]
    exact h.snd h2'
  · exact h.ne hg (by simpa [setB] using h2)
theorem Two.set2 {F : Heap} {N R Z : List Value} {c : Nat × Nat} {g : Nat → Bool} {H : Heap} (h : Two F N R Z c g H) (hg : g 13 = true) : Two F N R Z c (setB g 15) (upd H c.2 (.row true 0 R 0)) := by
  refine ⟨le_updN _ h.le (h.snd hg).1, fun h2 => ?_, fun _ => ⟨(h.snd hg).1, by simp [setB, upd_same]⟩, fun h1 h2 => ?_, fun h2 => by simpa [setB] using h.bk1 (by simpa [setB] using h2), fun _ => by simpa [setB] using hg⟩
  · have h2' : g 12 = true := by simpa [setB] using h2
    have e14 : setB g 15 14 = g 14 := by simp [setB]
    rw [e14, upd_ne _ _ (h.ne h2' hg)]
    exact h.fst h2'
  · exact h.ne (by simpa [setB] using h1) hg
@[congr] theorem endV_congr {C : Type} {e : C → Nat → Value} {I : C → (Nat → Bool) → Heap → Prop} {c : C} {o : Option Nat} {g : Nat → Bool} {s s' : St} (h : s = s') : EndV e I c o g s = EndV e I c o g s' := by rw [h]

def cntInv (H : Heap) (a : Option Addr) (n c p b6 b7 : Nat) (s : St) : Prop :=
  ∃ (i : Nat) (t : S4), i ≤ n ∧ s.env 1 = .slice a n c ∧ s.env 5 = .pointer (some ⟨p, 0, none⟩) ∧ s.env 6 = .pointer (some ⟨b6, 0, none⟩) ∧ s.env 7 = .pointer (some ⟨b7, 0, none⟩) ∧ s.env 8 = .int .i64 i ∧
    Heap.le H s.heap ∧ OkS t ∧ s.heap p = some (.row true 0 (flat t) 0) ∧ s.heap b6 = some (.row true 0 [.int .i64 t.a.g, .int .i64 t.b.g, .int .i64 t.c.g, .int .i64 t.e.g] 0) ∧ s.heap b7 = some (.row true 0 [.int .i64 t.a.r, .int .i64 t.b.r, .int .i64 t.c.r, .int .i64 t.e.r] 0)

set_option maxHeartbeats 8000000 in
theorem setCounts_c (k : Nat) (a : Option Addr) (n c : Nat) (xs : List Value) (H : Heap) (h : SlA H a n 9 xs) (hx : ∀ i, i < n → ∃ A : ActZ, (xs.drop (i * 9)).take 9 = A.cells ∧ A.w < 256) (hk : k < 256) : ECalls Try.prog 3 #[.int .u8 k, .slice a n c] H fun r _ => r = .bool true := by
  refine ecalls_of_ewp (args := [_, _]) Try.func3 rfl rfl rfl (by simp [Try.ntmps3]) (by kernel_rfl) ?_
  simp (disch := first | omega | assumption | decide | (simp <;> omega) | fail) [facts, ]
  refine (known_c _).mono ?_
  rintro r H1 ⟨rfl, hle1⟩
  by_cases hn : (40 : Int) < (n : Int)
  · simp (disch := first | omega | assumption | decide | (simp <;> omega) | fail) [facts, hn]
    exact ⟨_, Heap.le_refl _⟩
  simp (disch := first | omega | assumption | decide | (simp <;> omega) | fail) [facts, hn]
  refine (cass_c k _ hk).mono ?_
  rintro r H2 ⟨⟨s, rfl, e0, e1, e2, e3⟩, hle2⟩
  simp (disch := first | omega | assumption | decide | (simp <;> omega) | fail) [facts, ]
  refine (new_c s _).mono ?_
  rintro r H3 ⟨p, rfl, hpn, lp, hle3⟩
  have hpH : H p = none := le_of_none (Heap.le_trans hle1 hle2) hpn
  have hok := ok_new e0 e1 e2 e3
  have hle := Heap.le_trans hle1 (Heap.le_trans hle2 hle3)
  have hg0 : flat (newS s) = flat (newS s) ∧ (newS s).a.g = 0 ∧ (newS s).b.g = 0 ∧ (newS s).c.g = 0 ∧ (newS s).e.g = 0 ∧ (newS s).a.r = 0 ∧ (newS s).b.r = 0 ∧ (newS s).c.r = 0 ∧ (newS s).e.r = 0 := ⟨rfl, rfl, rfl, rfl, rfl, rfl, rfl, rfl, rfl⟩
  generalize newS s = t0 at lp hok hg0
  obtain ⟨_, z1, z2, z3, z4, z5, z6, z7, z8⟩ := hg0
  clear hle1 hle2 hle3 hpn e0 e1 e2 e3
  simp (disch := first | omega | assumption | decide | (simp <;> omega) | fail) [facts, ]
  refine fresh_intro fun b6 hb6 => ?_
  have g6 : H b6 = none := le_of_none hle hb6
  have p6 : p ≠ b6 := ne_of_fresh hb6 lp
  have l6 := upd_same H3 b6 (.row true 0 [.int .i64 0, .int .i64 0, .int .i64 0, .int .i64 0] 0)
  replace lp := upd_other (o := .row true 0 [.int .i64 0, .int .i64 0, .int .i64 0, .int .i64 0] 0) hb6 lp
  replace hle := Heap.le_trans hle (le_upd (.row true 0 [.int .i64 0, .int .i64 0, .int .i64 0, .int .i64 0] 0) hb6)
  simp (disch := first | omega | assumption | decide | (simp <;> omega) | fail) [facts, ]
  generalize upd H3 b6 (.row true 0 [.int .i64 0, .int .i64 0, .int .i64 0, .int .i64 0] 0) = H4 at *
  refine fresh_intro fun b7 hb7 => ?_
  have g7 : H b7 = none := le_of_none hle hb7
  have p7 : p ≠ b7 := ne_of_fresh hb7 lp
  have p67 : b6 ≠ b7 := ne_of_fresh hb7 l6
  have l7 := upd_same H4 b7 (.row true 0 [.int .i64 0, .int .i64 0, .int .i64 0, .int .i64 0] 0)
  replace lp := upd_other (o := .row true 0 [.int .i64 0, .int .i64 0, .int .i64 0, .int .i64 0] 0) hb7 lp
  replace l6 := upd_other (o := .row true 0 [.int .i64 0, .int .i64 0, .int .i64 0, .int .i64 0] 0) hb7 l6
  replace hle := Heap.le_trans hle (le_upd (.row true 0 [.int .i64 0, .int .i64 0, .int .i64 0, .int .i64 0] 0) hb7)
  simp (disch := first | omega | assumption | decide | (simp <;> omega) | fail) [facts, ]
  generalize upd H4 b7 (.row true 0 [.int .i64 0, .int .i64 0, .int .i64 0, .int .i64 0] 0) = H5 at *
  have p6' := p6.symm
  have p7' := p7.symm
  have p67' := p67.symm
  refine w_loop (cntInv H a n c p b6 b7) (fun s => n - (intOf (s.env 8)).toNat) ?_ ?_
  · exact ⟨0, t0, Nat.zero_le _, by simp, by simp, by simp, by simp, by simp, hle, hok, lp, by rw [z1, z2, z3, z4]; exact l6, by rw [z5, z6, z7, z8]; exact l7⟩
  clear hle hok lp l6 l7 z1 z2 z3 z4 z5 z6 z7 z8
  rintro ⟨env, G⟩ ⟨i, t, hi, e1, e5, e6, e7, e8, hle, hok, lp, l6, l7⟩
  simp only at e1 e5 e6 e7 e8 hle lp l6 l7
  by_cases hlt : i < n
  · obtain ⟨A, hA, hw⟩ := hx i hlt
    obtain ⟨b, o, rfl⟩ := h.lit (by omega)
    have hG := h.le hle
    have hltI : (i : Int) < (n : Int) := by omega
    have rn : ∀ G', Heap.le G G' → rdNU (G' b) (o + i * 9 + 1) 4 = some [.int .i64 (A.n0), .int .i64 (A.n1), .int .i64 (A.n2), .int .i64 (A.n3)] := fun G' hl => by
      have := (hG.le hl).part hlt hA (j := 1) (r := 4) (by decide) (by decide)
      simpa [ActZ.cells] using this
    have rr : ∀ G', Heap.le G G' → rdNU (G' b) (o + i * 9 + 5) 4 = some [.int .i64 (A.r0), .int .i64 (A.r1), .int .i64 (A.r2), .int .i64 (A.r3)] := fun G' hl => by
      have := (hG.le hl).part hlt hA (j := 5) (r := 4) (by decide) (by decide)
      simpa [ActZ.cells] using this
    have cn := fun H => small0_c A.n0 A.n1 A.n2 A.n3 H
    have cr := fun H => small0_c A.r0 A.r1 A.r2 A.r3 H
    have cg := fun H lp => give_c t p (placeZ A.n0) (placeZ A.n1) (placeZ A.n2) (placeZ A.n3) (placeZ A.r0) (placeZ A.r1) (placeZ A.r2) (placeZ A.r3) H lp hok ⟨place_few _, place_few _, place_few _, place_few _⟩ ⟨place_few _, place_few _, place_few _, place_few _⟩
    have ha := fun hf => ok_add hok (n0 := placeZ A.n0) (n1 := placeZ A.n1) (n2 := placeZ A.n2) (n3 := placeZ A.n3) (r0 := placeZ A.r0) (r1 := placeZ A.r1) (r2 := placeZ A.r2) (r3 := placeZ A.r3) ⟨place_few _, place_few _, place_few _, place_few _⟩ ⟨place_few _, place_few _, place_few _, place_few _⟩ hf
    have in0 := placeZ_in A.n0
    have in1 := placeZ_in A.n1
    have in2 := placeZ_in A.n2
    have in3 := placeZ_in A.n3
    have ir0 := placeZ_in A.r0
    have ir1 := placeZ_in A.r1
    have ir2 := placeZ_in A.r2
    have ir3 := placeZ_in A.r3
    generalize placeZ A.n0 = m0 at *
    generalize placeZ A.n1 = m1 at *
    generalize placeZ A.n2 = m2 at *
    generalize placeZ A.n3 = m3 at *
    generalize placeZ A.r0 = u0 at *
    generalize placeZ A.r1 = u1 at *
    generalize placeZ A.r2 = u2 at *
    generalize placeZ A.r3 = u3 at *
    have hok' := hok
    obtain ⟨⟨d0, l0, c0, q0⟩, ⟨d1, l1, c1, q1⟩, ⟨d2, l2, c2, q2⟩, ⟨d3, l3, c3, q3⟩⟩ := t
    simp only [notesV, flat] at cn cr cg lp l6 l7
    simp (disch := first | omega | assumption | decide | (simp <;> omega) | fail) [facts, e1, e5, e6, e7, e8, hltI]
    refine w_cut (fun s => ∃ x9 x10 H10, s.env 1 = .slice (some ⟨b, o, none⟩) n c ∧ s.env 5 = .pointer (some ⟨p, 0, none⟩) ∧ s.env 6 = .pointer (some ⟨b6, 0, none⟩) ∧ s.env 7 = .pointer (some ⟨b7, 0, none⟩) ∧ s.env 8 = .int .i64 i ∧ s.env 9 = .pointer (some ⟨x9, 0, none⟩) ∧ s.env 10 = .pointer (some ⟨x10, 0, none⟩) ∧ s.heap = H10 ∧ x9 ≠ x10 ∧ Heap.le G H10 ∧ G x9 = none ∧ G x10 = none ∧ H10 x9 = some (.row true 0 [.int .i64 m0, .int .i64 m1, .int .i64 m2, .int .i64 m3] 0) ∧ H10 x10 = some (.row true 0 [.int .i64 u0, .int .i64 u1, .int .i64 u2, .int .i64 u3] 0)) ?_ ?_
    · refine w_vals (C := Nat × Nat) (by simp [facts]) (by decide +kernel) (fun x => [.slice (some ⟨b, o, none⟩) n c, .int .i64 i, .pointer (some ⟨b, o + i * 9, none⟩), .pointer (some ⟨b, o + i * 9 + 1, none⟩), .agg [.int .i64 (A.n0), .int .i64 (A.n1), .int .i64 (A.n2), .int .i64 (A.n3)].toArray, .agg [.int .i64 m0, .int .i64 m1, .int .i64 m2, .int .i64 m3].toArray, .slice (some ⟨b, o, none⟩) n c, .int .i64 i, .pointer (some ⟨b, o + i * 9, none⟩), .pointer (some ⟨b, o + i * 9 + 5, none⟩), .agg [.int .i64 (A.r0), .int .i64 (A.r1), .int .i64 (A.r2), .int .i64 (A.r3)].toArray, .agg [.int .i64 u0, .int .i64 u1, .int .i64 u2, .int .i64 u3].toArray, .pointer (some ⟨x.1, 0, none⟩), .pointer (some ⟨x.2, 0, none⟩), undef, undef]) (Two G [.int .i64 m0, .int .i64 m1, .int .i64 m2, .int .i64 m3] [.int .i64 u0, .int .i64 u1, .int .i64 u2, .int .i64 u3] [.int .i64 0, .int .i64 0, .int .i64 0, .int .i64 0]) (0, 0) ?_ ?_ ?_
      · exact ⟨Heap.le_refl _, fun hg => (by cases hg), fun hg => (by cases hg), fun hg => (by cases hg), fun hg => (by cases hg), fun hg => (by cases hg)⟩
      · simp only [allFrom_cons, allFrom_nil, putAll_cons, putAll_nil]
        refine ⟨?_, ?_, ?_, ?_, ?_, ?_, ?_, ?_, ?_, ?_, ?_, ?_, ?_, ?_, ?_, ?_, trivial⟩
        all_goals (unfold stepV; intro x g Hx hg hr hI)
        · simp (disch := first | omega | assumption | decide | (simp <;> omega) | fail) [facts, e1, e5, e6, e7, e8, hltI]
          exact endV_same (by rintro d ⟨⟩; simp (disch := first | omega | assumption | decide | (simp <;> omega) | fail) [facts, e1, e5, e6, e7, e8]) (hI.keep (Heap.le_refl _) (by decide))
        · simp (disch := first | omega | assumption | decide | (simp <;> omega) | fail) [facts, e1, e5, e6, e7, e8, hltI]
          exact endV_same (by rintro d ⟨⟩; simp (disch := first | omega | assumption | decide | (simp <;> omega) | fail) [facts, e1, e5, e6, e7, e8]) (hI.keep (Heap.le_refl _) (by decide))
        · simp (disch := first | omega | assumption | decide | (simp <;> omega) | fail) [facts, e1, e5, e6, e7, e8, hltI]
          exact endV_same (by rintro d ⟨⟩; simp (disch := first | omega | assumption | decide | (simp <;> omega) | fail) [facts, e1, e5, e6, e7, e8]) (hI.keep (Heap.le_refl _) (by decide))
        · simp (disch := first | omega | assumption | decide | (simp <;> omega) | fail) [facts, e1, e5, e6, e7, e8, hltI]
          exact endV_same (by rintro d ⟨⟩; simp (disch := first | omega | assumption | decide | (simp <;> omega) | fail) [facts, e1, e5, e6, e7, e8]) (hI.keep (Heap.le_refl _) (by decide))
        · simp (disch := first | omega | assumption | decide | (simp <;> omega) | fail) [facts, e1, e5, e6, e7, e8, hltI, rn _ hI.le]
          exact endV_same (by rintro d ⟨⟩; simp (disch := first | omega | assumption | decide | (simp <;> omega) | fail) [facts, e1, e5, e6, e7, e8]) (hI.keep (Heap.le_refl _) (by decide))
        · simp (disch := first | omega | assumption | decide | (simp <;> omega) | fail) [facts, e1, e5, e6, e7, e8]
          refine (cn _).mono ?_
          rintro v H' ⟨rfl, hl⟩
          simp (disch := first | omega | assumption | decide | (simp <;> omega) | fail) [facts, ]
          exact endV_same (by rintro d ⟨⟩; simp (disch := first | omega | assumption | decide | (simp <;> omega) | fail) [facts, e1, e5, e6, e7, e8]) (hI.keep hl (by decide))
        · simp (disch := first | omega | assumption | decide | (simp <;> omega) | fail) [facts, e1, e5, e6, e7, e8, hltI]
          exact endV_same (by rintro d ⟨⟩; simp (disch := first | omega | assumption | decide | (simp <;> omega) | fail) [facts, e1, e5, e6, e7, e8]) (hI.keep (Heap.le_refl _) (by decide))
        · simp (disch := first | omega | assumption | decide | (simp <;> omega) | fail) [facts, e1, e5, e6, e7, e8, hltI]
          exact endV_same (by rintro d ⟨⟩; simp (disch := first | omega | assumption | decide | (simp <;> omega) | fail) [facts, e1, e5, e6, e7, e8]) (hI.keep (Heap.le_refl _) (by decide))
        · simp (disch := first | omega | assumption | decide | (simp <;> omega) | fail) [facts, e1, e5, e6, e7, e8, hltI]
          exact endV_same (by rintro d ⟨⟩; simp (disch := first | omega | assumption | decide | (simp <;> omega) | fail) [facts, e1, e5, e6, e7, e8]) (hI.keep (Heap.le_refl _) (by decide))
        · simp (disch := first | omega | assumption | decide | (simp <;> omega) | fail) [facts, e1, e5, e6, e7, e8, hltI]
          exact endV_same (by rintro d ⟨⟩; simp (disch := first | omega | assumption | decide | (simp <;> omega) | fail) [facts, e1, e5, e6, e7, e8]) (hI.keep (Heap.le_refl _) (by decide))
        · simp (disch := first | omega | assumption | decide | (simp <;> omega) | fail) [facts, e1, e5, e6, e7, e8, hltI, rr _ hI.le]
          exact endV_same (by rintro d ⟨⟩; simp (disch := first | omega | assumption | decide | (simp <;> omega) | fail) [facts, e1, e5, e6, e7, e8]) (hI.keep (Heap.le_refl _) (by decide))
        · simp (disch := first | omega | assumption | decide | (simp <;> omega) | fail) [facts, e1, e5, e6, e7, e8]
          refine (cr _).mono ?_
          rintro v H' ⟨rfl, hl⟩
          simp (disch := first | omega | assumption | decide | (simp <;> omega) | fail) [facts, ]
          exact endV_same (by rintro d ⟨⟩; simp (disch := first | omega | assumption | decide | (simp <;> omega) | fail) [facts, e1, e5, e6, e7, e8]) (hI.keep hl (by decide))
        · simp (disch := first | omega | assumption | decide | (simp <;> omega) | fail) [facts, e1, e5, e6, e7, e8]
          refine fresh_intro fun y hy => ?_
          simp (disch := first | omega | assumption | decide | (simp <;> omega) | fail) [facts, ]
          refine endV_to (y, x.2) (by rintro d ⟨⟩; simp (disch := first | omega | assumption | decide | (simp <;> omega) | fail) [facts, e1, e5, e6, e7, e8]) ?_ (hI.new1 hy hg)
          intro t ht
          have ht' : t ≠ 9 := fun e => ht (by rw [e])
          simp [setE, ht']
        · simp (disch := first | omega | assumption | decide | (simp <;> omega) | fail) [facts, e1, e5, e6, e7, e8]
          refine fresh_intro fun y hy => ?_
          simp (disch := first | omega | assumption | decide | (simp <;> omega) | fail) [facts, ]
          refine endV_to (x.1, y) (by rintro d ⟨⟩; simp (disch := first | omega | assumption | decide | (simp <;> omega) | fail) [facts, e1, e5, e6, e7, e8]) ?_ (hI.new2 hy hg)
          intro t ht
          have ht' : t ≠ 10 := fun e => ht (by rw [e])
          simp [setE, ht']
        · have hgb : g 12 = true := hr ⟨12, .data⟩ (by simp) rfl
          have lx := (hI.fst hgb).2
          rw [hg, if_neg (by decide)] at lx
          simp (disch := first | omega | assumption | decide | (simp <;> omega) | fail) [facts, e1, e5, e6, e7, e8, lx]
          exact endV_same (fun d hd => nomatch hd) (hI.set1 hgb)
        · have hgb : g 13 = true := hr ⟨13, .data⟩ (by simp) rfl
          have lx := (hI.snd hgb).2
          rw [hg, if_neg (by decide)] at lx
          simp (disch := first | omega | assumption | decide | (simp <;> omega) | fail) [facts, e1, e5, e6, e7, e8, lx]
          exact endV_same (fun d hd => nomatch hd) (hI.set2 hgb)
      · rintro ⟨x9, x10⟩ g HX hall hI
        obtain ⟨f1, f2⟩ := hI.fst (hall 12 (by decide))
        obtain ⟨f3, f4⟩ := hI.snd (hall 13 (by decide))
        have f5 := hI.ne (hall 12 (by decide)) (hall 13 (by decide))
        rw [hall 14 (by decide)] at f2
        rw [hall 15 (by decide)] at f4
        simp only [if_true] at f1 f2 f3 f4 f5
        simp only [putAll_cons, putAll_nil]
        exact ⟨x9, x10, HX, by simp (disch := first | omega | assumption | decide | (simp <;> omega) | fail) [facts, e1, e5, e6, e7, e8], by simp (disch := first | omega | assumption | decide | (simp <;> omega) | fail) [facts, e1, e5, e6, e7, e8], by simp (disch := first | omega | assumption | decide | (simp <;> omega) | fail) [facts, e1, e5, e6, e7, e8], by simp (disch := first | omega | assumption | decide | (simp <;> omega) | fail) [facts, e1, e5, e6, e7, e8], by simp (disch := first | omega | assumption | decide | (simp <;> omega) | fail) [facts, e1, e5, e6, e7, e8], by simp (disch := first | omega | assumption | decide | (simp <;> omega) | fail) [facts, e1, e5, e6, e7, e8], by simp (disch := first | omega | assumption | decide | (simp <;> omega) | fail) [facts, e1, e5, e6, e7, e8], rfl, f5, hI.le, f1, f3, f2, f4⟩
    clear e1 e5 e6 e7 e8
    rintro ⟨e, G1⟩ ⟨x9, x10, H10, e1, e5, e6, e7, e8, e9, e10, hH10, x910, hleG, g9, g10, l9, l10⟩
    simp only at e1 e5 e6 e7 e8 e9 e10 hH10
    subst hH10
    have x910' := x910.symm
    have p9 := ne_of_fresh g9 lp
    have p10 := ne_of_fresh g10 lp
    have q69 := ne_of_fresh g9 l6
    have q610 := ne_of_fresh g10 l6
    have q79 := ne_of_fresh g9 l7
    have q710 := ne_of_fresh g10 l7
    have p9' := p9.symm
    have p10' := p10.symm
    have q69' := q69.symm
    have q610' := q610.symm
    have q79' := q79.symm
    have q710' := q710.symm
    replace lp := hleG _ _ lp
    replace l6 := hleG _ _ l6
    replace l7 := hleG _ _ l7
    replace hle := Heap.le_trans hle hleG
    clear hleG g9 g10 rn rr hG cn cr
    by_cases hf : fitS ⟨⟨d0, l0, c0, q0⟩, ⟨d1, l1, c1, q1⟩, ⟨d2, l2, c2, q2⟩, ⟨d3, l3, c3, q3⟩⟩ m0 m1 m2 m3 u0 u1 u2 u3
    · simp only [if_pos hf, addS, addC] at cg
      have hok2 := ha hf
      clear ha hok hok'
      have hok3 := hok2
      simp only [addS, addC] at hok2
      obtain ⟨⟨_, w0, w1, _, _⟩, ⟨_, w2, w3, _, _⟩, ⟨_, w4, w5, _, _⟩, ⟨_, w6, w7, _, _⟩⟩ := hok2
      unfold fewIn at w0 w1 w2 w3 w4 w5 w6 w7
      simp only at w0 w1 w2 w3 w4 w5 w6 w7
      simp (disch := first | omega | assumption | decide | (simp <;> omega) | fail) [facts, e1, e5, e6, e7, e8, e9, e10, l9, l10]
      refine (cg _ lp).mono ?_
      rintro v H11 ⟨rfl, hle11, lp11⟩
      replace l6 := hle11 _ _ (dele_get p6' l6)
      replace l7 := hle11 _ _ (dele_get p7' l7)
      replace l9 := hle11 _ _ (dele_get p9' l9)
      replace l10 := hle11 _ _ (dele_get p10' l10)
      replace hle := Heap.le_trans (le_deleN hle hpH) hle11
      replace lp := lp11
      clear lp11 hle11 cg
      simp (disch := first | omega | assumption | decide | (simp <;> omega) | fail) [facts, e1, e5, e6, e7, e8, e9, e10]
      refine w_unroll 5 ?_
      simp (disch := first | omega | assumption | decide | (simp <;> omega) | fail) [facts, e1, e5, e6, e7, e8, e9, e10]
      refine w_cutB (fun s => s.env 1 = .slice (some ⟨b, o, none⟩) n c ∧ s.env 5 = .pointer (some ⟨p, 0, none⟩) ∧ s.env 6 = .pointer (some ⟨b6, 0, none⟩) ∧ s.env 7 = .pointer (some ⟨b7, 0, none⟩) ∧ s.env 8 = .int .i64 i ∧ s.env 9 = .pointer (some ⟨x9, 0, none⟩) ∧ s.env 10 = .pointer (some ⟨x10, 0, none⟩) ∧ s.env 11 = .int .i64 0 ∧ Heap.le H s.heap ∧ s.heap p = some (.row true 0 [.int .i64 d0, .int .i64 l0, .int .i64 (c0 + m0), .int .i64 (q0 + u0), .int .i64 d1, .int .i64 l1, .int .i64 (c1 + m1), .int .i64 (q1 + u1), .int .i64 d2, .int .i64 l2, .int .i64 (c2 + m2), .int .i64 (q2 + u2), .int .i64 d3, .int .i64 l3, .int .i64 (c3 + m3), .int .i64 (q3 + u3)] 0) ∧ s.heap b6 = some (.row true 0 [.int .i64 (c0 + m0), .int .i64 c1, .int .i64 c2, .int .i64 c3] 0) ∧ s.heap b7 = some (.row true 0 [.int .i64 (q0 + u0), .int .i64 q1, .int .i64 q2, .int .i64 q3] 0) ∧ s.heap x9 = some (.row true 0 [.int .i64 m0, .int .i64 m1, .int .i64 m2, .int .i64 m3] 0) ∧ s.heap x10 = some (.row true 0 [.int .i64 u0, .int .i64 u1, .int .i64 u2, .int .i64 u3] 0)) ?_ ?_
      · refine w_plan (P := Try.prog) (by simp [facts]) (opsP [0,1,2,3,4,5,6,7,8,9,10,12,13,16] (.both (opsP [11] (.both (opsP [14,15,17,18,19] .done) (opsP [17,14,15,18,19] .done))) (.both (opsP [14] (.both (opsP [11,15,17,18,19] .done) (opsP [17,11,15,18,19] .done))) (opsP [17] (.both (opsP [11,14,15,18,19] .done) (opsP [14,11,15,18,19] .done)))))) ?_ ?_
        · decide +kernel
        simp (disch := first | omega | assumption | decide | (simp <;> omega) | fail) [facts, e1, e5, e6, e7, e8, e9, e10, lp, l6, l7, l9, l10, upd_ne, upd_upd]
        repeat' apply And.intro
        all_goals first
          | exact le_updN _ (le_updN _ hle g6) g7
          | exact le_updN _ (le_updN _ hle g7) g6
          | skip
      clear e1 e5 e6 e7 e8 e9 e10 hle lp l6 l7 l9 l10
      rintro ⟨e1, G2⟩ ⟨e1, e5, e6, e7, e8, e9, e10, e11, hle, lp, l6, l7, l9, l10⟩
      simp only at e1 e5 e6 e7 e8 e9 e10 e11 hle lp l6 l7 l9 l10
      simp (disch := first | omega | assumption | decide | (simp <;> omega) | fail) [facts, e1, e5, e6, e7, e8, e9, e10, e11]
      refine w_cutB (fun s => s.env 1 = .slice (some ⟨b, o, none⟩) n c ∧ s.env 5 = .pointer (some ⟨p, 0, none⟩) ∧ s.env 6 = .pointer (some ⟨b6, 0, none⟩) ∧ s.env 7 = .pointer (some ⟨b7, 0, none⟩) ∧ s.env 8 = .int .i64 i ∧ s.env 9 = .pointer (some ⟨x9, 0, none⟩) ∧ s.env 10 = .pointer (some ⟨x10, 0, none⟩) ∧ s.env 11 = .int .i64 1 ∧ Heap.le H s.heap ∧ s.heap p = some (.row true 0 [.int .i64 d0, .int .i64 l0, .int .i64 (c0 + m0), .int .i64 (q0 + u0), .int .i64 d1, .int .i64 l1, .int .i64 (c1 + m1), .int .i64 (q1 + u1), .int .i64 d2, .int .i64 l2, .int .i64 (c2 + m2), .int .i64 (q2 + u2), .int .i64 d3, .int .i64 l3, .int .i64 (c3 + m3), .int .i64 (q3 + u3)] 0) ∧ s.heap b6 = some (.row true 0 [.int .i64 (c0 + m0), .int .i64 (c1 + m1), .int .i64 c2, .int .i64 c3] 0) ∧ s.heap b7 = some (.row true 0 [.int .i64 (q0 + u0), .int .i64 (q1 + u1), .int .i64 q2, .int .i64 q3] 0) ∧ s.heap x9 = some (.row true 0 [.int .i64 m0, .int .i64 m1, .int .i64 m2, .int .i64 m3] 0) ∧ s.heap x10 = some (.row true 0 [.int .i64 u0, .int .i64 u1, .int .i64 u2, .int .i64 u3] 0)) ?_ ?_
      · refine w_plan (P := Try.prog) (by simp [facts]) (opsP [0,1,2,3,4,5,6,7,8,9,10,12,13,16] (.both (opsP [11] (.both (opsP [14,15,17,18,19] .done) (opsP [17,14,15,18,19] .done))) (.both (opsP [14] (.both (opsP [11,15,17,18,19] .done) (opsP [17,11,15,18,19] .done))) (opsP [17] (.both (opsP [11,14,15,18,19] .done) (opsP [14,11,15,18,19] .done)))))) ?_ ?_
        · decide +kernel
        simp (disch := first | omega | assumption | decide | (simp <;> omega) | fail) [facts, e1, e5, e6, e7, e8, e9, e10, e11, lp, l6, l7, l9, l10, upd_ne, upd_upd]
        repeat' apply And.intro
        all_goals first
          | exact le_updN _ (le_updN _ hle g6) g7
          | exact le_updN _ (le_updN _ hle g7) g6
          | skip
      clear e1 e5 e6 e7 e8 e9 e10 e11 hle lp l6 l7 l9 l10
      rintro ⟨e2, G3⟩ ⟨e1, e5, e6, e7, e8, e9, e10, e11, hle, lp, l6, l7, l9, l10⟩
      simp only at e1 e5 e6 e7 e8 e9 e10 e11 hle lp l6 l7 l9 l10
      simp (disch := first | omega | assumption | decide | (simp <;> omega) | fail) [facts, e1, e5, e6, e7, e8, e9, e10, e11]
      refine w_cutB (fun s => s.env 1 = .slice (some ⟨b, o, none⟩) n c ∧ s.env 5 = .pointer (some ⟨p, 0, none⟩) ∧ s.env 6 = .pointer (some ⟨b6, 0, none⟩) ∧ s.env 7 = .pointer (some ⟨b7, 0, none⟩) ∧ s.env 8 = .int .i64 i ∧ s.env 9 = .pointer (some ⟨x9, 0, none⟩) ∧ s.env 10 = .pointer (some ⟨x10, 0, none⟩) ∧ s.env 11 = .int .i64 2 ∧ Heap.le H s.heap ∧ s.heap p = some (.row true 0 [.int .i64 d0, .int .i64 l0, .int .i64 (c0 + m0), .int .i64 (q0 + u0), .int .i64 d1, .int .i64 l1, .int .i64 (c1 + m1), .int .i64 (q1 + u1), .int .i64 d2, .int .i64 l2, .int .i64 (c2 + m2), .int .i64 (q2 + u2), .int .i64 d3, .int .i64 l3, .int .i64 (c3 + m3), .int .i64 (q3 + u3)] 0) ∧ s.heap b6 = some (.row true 0 [.int .i64 (c0 + m0), .int .i64 (c1 + m1), .int .i64 (c2 + m2), .int .i64 c3] 0) ∧ s.heap b7 = some (.row true 0 [.int .i64 (q0 + u0), .int .i64 (q1 + u1), .int .i64 (q2 + u2), .int .i64 q3] 0) ∧ s.heap x9 = some (.row true 0 [.int .i64 m0, .int .i64 m1, .int .i64 m2, .int .i64 m3] 0) ∧ s.heap x10 = some (.row true 0 [.int .i64 u0, .int .i64 u1, .int .i64 u2, .int .i64 u3] 0)) ?_ ?_
      · refine w_plan (P := Try.prog) (by simp [facts]) (opsP [0,1,2,3,4,5,6,7,8,9,10,12,13,16] (.both (opsP [11] (.both (opsP [14,15,17,18,19] .done) (opsP [17,14,15,18,19] .done))) (.both (opsP [14] (.both (opsP [11,15,17,18,19] .done) (opsP [17,11,15,18,19] .done))) (opsP [17] (.both (opsP [11,14,15,18,19] .done) (opsP [14,11,15,18,19] .done)))))) ?_ ?_
        · decide +kernel
        simp (disch := first | omega | assumption | decide | (simp <;> omega) | fail) [facts, e1, e5, e6, e7, e8, e9, e10, e11, lp, l6, l7, l9, l10, upd_ne, upd_upd]
        repeat' apply And.intro
        all_goals first
          | exact le_updN _ (le_updN _ hle g6) g7
          | exact le_updN _ (le_updN _ hle g7) g6
          | skip
      clear e1 e5 e6 e7 e8 e9 e10 e11 hle lp l6 l7 l9 l10
      rintro ⟨e3, G4⟩ ⟨e1, e5, e6, e7, e8, e9, e10, e11, hle, lp, l6, l7, l9, l10⟩
      simp only at e1 e5 e6 e7 e8 e9 e10 e11 hle lp l6 l7 l9 l10
      simp (disch := first | omega | assumption | decide | (simp <;> omega) | fail) [facts, e1, e5, e6, e7, e8, e9, e10, e11]
      refine w_cutB (fun s => s.env 1 = .slice (some ⟨b, o, none⟩) n c ∧ s.env 5 = .pointer (some ⟨p, 0, none⟩) ∧ s.env 6 = .pointer (some ⟨b6, 0, none⟩) ∧ s.env 7 = .pointer (some ⟨b7, 0, none⟩) ∧ s.env 8 = .int .i64 i ∧ s.env 9 = .pointer (some ⟨x9, 0, none⟩) ∧ s.env 10 = .pointer (some ⟨x10, 0, none⟩) ∧ s.env 11 = .int .i64 3 ∧ Heap.le H s.heap ∧ s.heap p = some (.row true 0 [.int .i64 d0, .int .i64 l0, .int .i64 (c0 + m0), .int .i64 (q0 + u0), .int .i64 d1, .int .i64 l1, .int .i64 (c1 + m1), .int .i64 (q1 + u1), .int .i64 d2, .int .i64 l2, .int .i64 (c2 + m2), .int .i64 (q2 + u2), .int .i64 d3, .int .i64 l3, .int .i64 (c3 + m3), .int .i64 (q3 + u3)] 0) ∧ s.heap b6 = some (.row true 0 [.int .i64 (c0 + m0), .int .i64 (c1 + m1), .int .i64 (c2 + m2), .int .i64 (c3 + m3)] 0) ∧ s.heap b7 = some (.row true 0 [.int .i64 (q0 + u0), .int .i64 (q1 + u1), .int .i64 (q2 + u2), .int .i64 (q3 + u3)] 0) ∧ s.heap x9 = some (.row true 0 [.int .i64 m0, .int .i64 m1, .int .i64 m2, .int .i64 m3] 0) ∧ s.heap x10 = some (.row true 0 [.int .i64 u0, .int .i64 u1, .int .i64 u2, .int .i64 u3] 0)) ?_ ?_
      · refine w_plan (P := Try.prog) (by simp [facts]) (opsP [0,1,2,3,4,5,6,7,8,9,10,12,13,16] (.both (opsP [11] (.both (opsP [14,15,17,18,19] .done) (opsP [17,14,15,18,19] .done))) (.both (opsP [14] (.both (opsP [11,15,17,18,19] .done) (opsP [17,11,15,18,19] .done))) (opsP [17] (.both (opsP [11,14,15,18,19] .done) (opsP [14,11,15,18,19] .done)))))) ?_ ?_
        · decide +kernel
        simp (disch := first | omega | assumption | decide | (simp <;> omega) | fail) [facts, e1, e5, e6, e7, e8, e9, e10, e11, lp, l6, l7, l9, l10, upd_ne, upd_upd]
        repeat' apply And.intro
        all_goals first
          | exact le_updN _ (le_updN _ hle g6) g7
          | exact le_updN _ (le_updN _ hle g7) g6
          | skip
      clear e1 e5 e6 e7 e8 e9 e10 e11 hle lp l6 l7 l9 l10
      rintro ⟨e4, G5⟩ ⟨e1, e5, e6, e7, e8, e9, e10, e11, hle, lp, l6, l7, l9, l10⟩
      simp only at e1 e5 e6 e7 e8 e9 e10 e11 hle lp l6 l7 l9 l10
      simp (disch := first | omega | assumption | decide | (simp <;> omega) | fail) [facts, e1, e5, e6, e7, e8, e9, e10, e11]
      refine ⟨_, Heap.le_refl _, ⟨i + 1, addS ⟨⟨d0, l0, c0, q0⟩, ⟨d1, l1, c1, q1⟩, ⟨d2, l2, c2, q2⟩, ⟨d3, l3, c3, q3⟩⟩ m0 m1 m2 m3 u0 u1 u2 u3, by omega, by simp [e1], by simp [e5], by simp [e6], by simp [e7], by simp, hle, hok3, lp, l6, l7⟩, by simp [intOf]; omega⟩
    · simp only [if_neg hf] at cg
      simp (disch := first | omega | assumption | decide | (simp <;> omega) | fail) [facts, e1, e5, e6, e7, e8, e9, e10, l9, l10]
      refine (cg _ lp).mono ?_
      rintro v H11 ⟨rfl, hle11, lp11⟩
      replace l6 := hle11 _ _ (dele_get p6' l6)
      replace l7 := hle11 _ _ (dele_get p7' l7)
      replace hle := Heap.le_trans (le_deleN hle hpH) hle11
      simp (disch := first | omega | assumption | decide | (simp <;> omega) | fail) [facts, e1, e5, e6, e7, e8, e9, e10]
      refine ⟨_, Heap.le_refl _, ⟨i + 1, ⟨⟨d0, l0, c0, q0⟩, ⟨d1, l1, c1, q1⟩, ⟨d2, l2, c2, q2⟩, ⟨d3, l3, c3, q3⟩⟩, by omega, by simp [e1], by simp [e5], by simp [e6], by simp [e7], by simp, hle, hok, lp11, l6, l7⟩, by simp [intOf]; omega⟩
  · have hltI : ¬ (i : Int) < (n : Int) := by omega
    have ca := all_c t p G lp
    obtain ⟨⟨d0, l0, c0, q0⟩, ⟨d1, l1, c1, q1⟩, ⟨d2, l2, c2, q2⟩, ⟨d3, l3, c3, q3⟩⟩ := t
    obtain ⟨⟨o0, o1, o2, o3, _⟩, ⟨o4, o5, o6, o7, _⟩, ⟨o8, o9, o10, o11, _⟩, ⟨o12, o13, o14, o15, _⟩⟩ := hok
    unfold fewIn at o0 o1 o2 o4 o5 o6 o8 o9 o10 o12 o13 o14
    simp only at o0 o1 o2 o3 o4 o5 o6 o7 o8 o9 o10 o11 o12 o13 o14 o15
    simp only [setV, flat] at ca lp l6 l7
    simp (disch := first | omega | assumption | decide | (simp <;> omega) | fail) [facts, e1, e5, e6, e7, e8, hltI]
    refine ca.mono ?_
    rintro v G2 ⟨rfl, hle2⟩
    replace l6 := hle2 _ _ l6
    replace l7 := hle2 _ _ l7
    simp (disch := first | omega | assumption | decide | (simp <;> omega) | fail) [facts, e1, e5, e6, e7, e8]
    refine fresh_intro fun b12 hb12 => ?_
    have y6 := ne_of_fresh hb12 l6
    have y7 := ne_of_fresh hb12 l7
    have l12 := upd_same G2 b12 (.row true 0 [.int .i64 d0, .int .i64 l0, .int .i64 c0, .int .i64 q0, .int .i64 d1, .int .i64 l1, .int .i64 c1, .int .i64 q1, .int .i64 d2, .int .i64 l2, .int .i64 c2, .int .i64 q2, .int .i64 d3, .int .i64 l3, .int .i64 c3, .int .i64 q3] 0)
    replace l6 := upd_other (o := .row true 0 [.int .i64 d0, .int .i64 l0, .int .i64 c0, .int .i64 q0, .int .i64 d1, .int .i64 l1, .int .i64 c1, .int .i64 q1, .int .i64 d2, .int .i64 l2, .int .i64 c2, .int .i64 q2, .int .i64 d3, .int .i64 l3, .int .i64 c3, .int .i64 q3] 0) hb12 l6
    replace l7 := upd_other (o := .row true 0 [.int .i64 d0, .int .i64 l0, .int .i64 c0, .int .i64 q0, .int .i64 d1, .int .i64 l1, .int .i64 c1, .int .i64 q1, .int .i64 d2, .int .i64 l2, .int .i64 c2, .int .i64 q2, .int .i64 d3, .int .i64 l3, .int .i64 c3, .int .i64 q3] 0) hb12 l7
    simp (disch := first | omega | assumption | decide | (simp <;> omega) | fail) [facts, e1, e5, e6, e7, e8, upd_upd]
    generalize upd G2 b12 (.row true 0 [.int .i64 d0, .int .i64 l0, .int .i64 c0, .int .i64 q0, .int .i64 d1, .int .i64 l1, .int .i64 c1, .int .i64 q1, .int .i64 d2, .int .i64 l2, .int .i64 c2, .int .i64 q2, .int .i64 d3, .int .i64 l3, .int .i64 c3, .int .i64 q3] 0) = G3 at *
    refine w_unroll 5 ?_
    simp (disch := first | omega | assumption | decide | (simp <;> omega) | fail) [facts, e1, e5, e6, e7, e8]
    iterate 4
      refine w_plan (P := Try.prog) (by simp [facts]) (opsP [0,1,2,3,4,5,6,7,8,9,10,11,12,13,14,15,16,17,18,19,20,21,22,23,24,25,26,27,28,29,30,31,32] .done) ?_ ?_
      · decide +kernel
      simp (disch := first | omega | assumption | decide | (simp <;> omega) | fail) [facts, e1, e5, e6, e7, e8, l6, l7, l12, show ¬ (l0 - c0 - q0 < 0) by omega, show ¬ (l1 - c1 - q1 < 0) by omega, show ¬ (l2 - c2 - q2 < 0) by omega, show ¬ (l3 - c3 - q3 < 0) by omega]
    exact ⟨_, Heap.le_refl _⟩

end Go.Proofs.Ytgeocnggfgpmoaa.GL
