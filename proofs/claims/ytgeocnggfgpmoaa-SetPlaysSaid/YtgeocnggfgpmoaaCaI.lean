/- Layer 18: the walk of SetPlays. -/
import Derived.Test.YtgeocnggfgpmoaaCaH
namespace Go.Proofs.Ytgeocnggfgpmoaa.GL
open Go Go.RowKit
set_option maxRecDepth 10000
set_option pp.deepTerms.threshold 8
set_option pp.maxSteps 3000
set_option linter.unusedSimpArgs false
set_option linter.unusedVariables false

def smZ (w : Nat) (z : Int) : Int := if w % 8 = 7 then z else placeZ z
theorem smallW_c (a b c d : Int) (w : Nat) (H : Heap) (hw : w < 256) : ECalls Try.prog 9 #[notesV a b c d, .int .u8 w] H fun v H' => v = notesV (smZ w a) (smZ w b) (smZ w c) (smZ w d) ∧ Heap.le H H' :=
  (small_c a b c d w H hw).mono fun v H' h => ⟨by rw [h.1]; unfold smZ; split <;> rfl, h.2⟩
def giveE (s : S4) (n0 n1 n2 n3 r0 r1 r2 r3 : Int) : Int := if fourIn n0 n1 n2 n3 ∧ fourIn r0 r1 r2 r3 then (if fitS s n0 n1 n2 n3 r0 r1 r2 r3 then 0 else 25) else 20
def giveT (s : S4) (n0 n1 n2 n3 r0 r1 r2 r3 : Int) : S4 := if fourIn n0 n1 n2 n3 ∧ fourIn r0 r1 r2 r3 then (if fitS s n0 n1 n2 n3 r0 r1 r2 r3 then addS s n0 n1 n2 n3 r0 r1 r2 r3 else s) else s
theorem ok_give {s : S4} (hs : OkS s) (n0 n1 n2 n3 r0 r1 r2 r3 : Int) : OkS (giveT s n0 n1 n2 n3 r0 r1 r2 r3) := by
  unfold giveT
  split
  · rename_i h
    split
    · rename_i hf; exact ok_add hs h.1 h.2 hf
    · exact hs
  · exact hs
def loadE (n0 n1 n2 n3 : Int) : Int := if fourIn n0 n1 n2 n3 then 0 else 20
def loadT (s : S4) (n0 n1 n2 n3 : Int) : S4 := if fourIn n0 n1 n2 n3 then loadS s n0 n1 n2 n3 else s
theorem ok_loadT {s : S4} (hs : OkS s) (n0 n1 n2 n3 : Int) : OkS (loadT s n0 n1 n2 n3) := by
  unfold loadT
  split
  · rename_i h; exact ok_load hs h
  · exact hs

theorem giveA_c (s : S4) (p : Nat) (n0 n1 n2 n3 r0 r1 r2 r3 : Int) (H : Heap) (lp : H p = some (.row true 0 (flat s) 0)) (hs : OkS s) :
    ECalls Try.prog 10 #[.pointer (some ⟨p, 0, none⟩), notesV n0 n1 n2 n3, notesV r0 r1 r2 r3] H fun v H' => v = .int .i64 (giveE s n0 n1 n2 n3 r0 r1 r2 r3) ∧ Heap.le (dele H p) H' ∧ H' p = some (.row true 0 (flat (giveT s n0 n1 n2 n3 r0 r1 r2 r3)) 0) := by
  unfold giveE giveT
  by_cases h : fourIn n0 n1 n2 n3 ∧ fourIn r0 r1 r2 r3
  · rw [if_pos h, if_pos h]
    exact give_c s p n0 n1 n2 n3 r0 r1 r2 r3 H lp hs h.1 h.2
  · rw [if_neg h, if_neg h]
    refine (give_c_bad s p n0 n1 n2 n3 r0 r1 r2 r3 H lp h).mono ?_
    rintro v H' ⟨rfl, hle⟩
    exact ⟨rfl, le_dele p hle, hle _ _ lp⟩

theorem giveB_c (s : S4) (p : Nat) (n0 n1 n2 n3 r0 r1 r2 r3 : Int) (H : Heap) (lp : H p = some (.row true 0 (flat s) 0)) (hs : OkS s) :
    ECalls Try.prog 15 #[.pointer (some ⟨p, 0, none⟩), notesV n0 n1 n2 n3, notesV r0 r1 r2 r3] H fun v H' => v = .int .i64 (giveE s n0 n1 n2 n3 r0 r1 r2 r3) ∧ Heap.le (dele H p) H' ∧ H' p = some (.row true 0 (flat (giveT s n0 n1 n2 n3 r0 r1 r2 r3)) 0) := by
  unfold giveE giveT
  by_cases h : fourIn n0 n1 n2 n3 ∧ fourIn r0 r1 r2 r3
  · rw [if_pos h, if_pos h]
    exact giveR_c s p n0 n1 n2 n3 r0 r1 r2 r3 H lp hs h.1 h.2
  · rw [if_neg h, if_neg h]
    refine (giveR_c_bad s p n0 n1 n2 n3 r0 r1 r2 r3 H lp h).mono ?_
    rintro v H' ⟨rfl, hle⟩
    exact ⟨rfl, le_dele p hle, hle _ _ lp⟩

theorem loadA_c (s : S4) (p : Nat) (n0 n1 n2 n3 : Int) (H : Heap) (lp : H p = some (.row true 0 (flat s) 0)) :
    ECalls Try.prog 13 #[.pointer (some ⟨p, 0, none⟩), notesV n0 n1 n2 n3] H fun v H' => v = .int .i64 (loadE n0 n1 n2 n3) ∧ Heap.le (dele H p) H' ∧ H' p = some (.row true 0 (flat (loadT s n0 n1 n2 n3)) 0) :=
  load_c s p n0 n1 n2 n3 H lp

theorem loadB_c (s : S4) (p : Nat) (n0 n1 n2 n3 : Int) (H : Heap) (lp : H p = some (.row true 0 (flat s) 0)) :
    ECalls Try.prog 14 #[.pointer (some ⟨p, 0, none⟩), notesV n0 n1 n2 n3] H fun v H' => v = .int .i64 (loadE n0 n1 n2 n3) ∧ Heap.le (dele H p) H' ∧ H' p = some (.row true 0 (flat (loadT s n0 n1 n2 n3)) 0) :=
  loadR_c s p n0 n1 n2 n3 H lp

/-- Two boxes, each changed once, in whatever order. -/
structure Pair (D : Heap) (p q : Nat) (X Y : List Value) (i j : Nat) (_ : Unit) (g : Nat → Bool) (H : Heap) : Prop where
  le : Heap.le D H
  fst : H p = some (.row true 0 (if g i then Y else X) 0)
  snd : H q = some (.row true 0 (if g j then Y else X) 0)
theorem Pair.keep {D : Heap} {p q : Nat} {X Y : List Value} {i j : Nat} {u : Unit} {g : Nat → Bool} {H H' : Heap} (h : Pair D p q X Y i j u g H) (hl : Heap.le H H') {k : Nat} (h1 : i ≠ k) (h2 : j ≠ k) : Pair D p q X Y i j u (setB g k) H' := by
  have e1 : setB g k i = g i := by unfold setB; rw [if_neg h1]
  have e2 : setB g k j = g j := by unfold setB; rw [if_neg h2]
  exact ⟨Heap.le_trans h.le hl, by rw [e1]; exact hl _ _ h.fst, by rw [e2]; exact hl _ _ h.snd⟩
theorem Pair.one {D : Heap} {p q : Nat} {X Y : List Value} {i j : Nat} {u : Unit} {g : Nat → Bool} {H H' : Heap} (h : Pair D p q X Y i j u g H) (hD : D p = none) (hpq : q ≠ p) (hij : j ≠ i) (hl : Heap.le (dele H p) H') (hY : H' p = some (.row true 0 Y 0)) : Pair D p q X Y i j u (setB g i) H' := by
  have e1 : setB g i i = true := by unfold setB; rw [if_pos rfl]
  have e2 : setB g i j = g j := by unfold setB; rw [if_neg hij]
  exact ⟨Heap.le_trans (le_deleN h.le hD) hl, by rw [e1]; exact hY, by rw [e2]; exact hl _ _ (dele_get hpq h.snd)⟩
theorem Pair.two {D : Heap} {p q : Nat} {X Y : List Value} {i j : Nat} {u : Unit} {g : Nat → Bool} {H H' : Heap} (h : Pair D p q X Y i j u g H) (hD : D q = none) (hpq : p ≠ q) (hij : i ≠ j) (hl : Heap.le (dele H q) H') (hY : H' q = some (.row true 0 Y 0)) : Pair D p q X Y i j u (setB g j) H' := by
  have e1 : setB g j j = true := by unfold setB; rw [if_pos rfl]
  have e2 : setB g j i = g i := by unfold setB; rw [if_neg hij]
  exact ⟨Heap.le_trans (le_deleN h.le hD) hl, by rw [e2]; exact hl _ _ (dele_get hpq h.fst), by rw [e1]; exact hY⟩
theorem cond_cut {P : Program} {v : Value} {A B : Code} {f : St → Prop} {K : Post} {s : St} (I : St → Prop) (h1 : condK v P A B (Kseq I K) s) (h2 : ∀ s, I s → f s) : condK v P A B (Kseq f K) s := by
  unfold condK at h1 ⊢
  cases v with
  | bool t => exact ⟨fun ht => w_cut I (h1.1 ht) h2, fun ht => w_cut I (h1.2 ht) h2⟩
  | _ => exact h1
theorem splice_two {z F0 F1 : List Value} (hz : z.length = 16) (h0 : F0.length = 16) (h1 : F1.length = 16) : splice (splice (zeros z 2) 0 F0) 16 F1 = F0 ++ F1 := by
  have hl : (zeros z 2).length = 32 := by simp [zeros, List.replicate_succ, hz]
  unfold splice
  simp [h0, h1, hl]
  try rw [List.take_append_of_le_length (by omega), List.take_of_length_le (by omega)]
  try rw [List.drop_eq_nil_of_le (by simp; omega)]
  try simp
def outInv (H : Heap) (a : Option Addr) (n c bS : Nat) (F : List Value) (s : St) : Prop :=
  ∃ j : Nat, j ≤ 2 ∧ s.env 2 = .slice a n c ∧ s.env 25 = .slice (some ⟨bS, 0, none⟩) 2 2 ∧ s.env 26 = .int .i64 2 ∧ s.env 27 = .int .i64 j ∧ Heap.le H s.heap ∧ s.heap bS = some (.row true 0 F 0)
def inInv (H : Heap) (a : Option Addr) (n c bS p q j : Nat) (F : List Value) (s : St) : Prop :=
  ∃ (i : Nat) (t : S4), i ≤ n ∧ s.env 2 = .slice a n c ∧ s.env 25 = .slice (some ⟨bS, 0, none⟩) 2 2 ∧ s.env 26 = .int .i64 2 ∧ s.env 27 = .int .i64 j ∧ s.env 9 = .pointer (some ⟨p, 0, none⟩) ∧ s.env 10 = .pointer (some ⟨q, 0, none⟩) ∧ s.env 11 = .int .i64 i ∧
    Heap.le H s.heap ∧ s.heap bS = some (.row true 0 F 0) ∧ OkS t ∧ s.heap p = some (.row true 0 (flat t) 0) ∧ s.heap q = some (.row true 0 (flat t) 0)

set_option maxHeartbeats 16000000 in
theorem setPlays_c (s0 : S4) (k : Nat) (a : Option Addr) (n c : Nat) (xs : List Value) (H : Heap) (h : SlA H a n 9 xs) (hx : ∀ i, i < n → ∃ A : ActZ, (xs.drop (i * 9)).take 9 = A.cells ∧ A.w < 256) (hk : k < 256)
    (e0 : i64In s0.a.d) (e1 : i64In s0.b.d) (e2 : i64In s0.c.d) (e3 : i64In s0.e.d) : ECalls Try.prog 4 #[setV s0, .int .u8 k, .slice a n c] H fun r _ => r = .bool true := by
  refine ecalls_of_ewp (args := [_, _, _]) Try.func4 rfl rfl rfl (by simp [Try.ntmps4]) (by kernel_rfl) ?_
  have hf0 : (flat s0).length = 16 := rfl
  have ht0 : List.take 16 (flat s0) = flat s0 := rfl
  have ho0 : ((flat s0).all fun v => v.oneCell') = true := rfl
  unfold setV
  generalize hF0 : flat s0 = F0 at *
  simp (disch := first | omega | assumption | decide | (simp <;> omega) | fail) [facts, ]
  refine fresh_intro fun b3 hb3 => ?_
  have l3 := upd_same H b3 (.row true 0 F0 0)
  have hle := le_upd (.row true 0 F0 0) hb3
  generalize upd H b3 (.row true 0 F0 0) = G0 at *
  simp (disch := first | omega | assumption | decide | (simp <;> omega) | fail) [facts, ]
  refine (known_c _).mono ?_
  rintro r H1 ⟨rfl, hle1⟩
  replace l3 := hle1 _ _ l3
  replace hle := Heap.le_trans hle hle1
  clear hle1
  by_cases hn : (40 : Int) < (n : Int)
  · simp (disch := first | omega | assumption | decide | (simp <;> omega) | fail) [facts, hn]
    exact ⟨_, Heap.le_refl _⟩
  simp (disch := first | omega | assumption | decide | (simp <;> omega) | fail) [facts, hn]
  obtain ⟨I0, hI0⟩ : ∃ I : St → Prop, I = (fun s => ∃ (s1 : S4) (bS : Nat), i64In s1.a.d ∧ i64In s1.b.d ∧ i64In s1.c.d ∧ i64In s1.e.d ∧ s.env 2 = .slice a n c ∧ s.env 25 = .slice (some ⟨bS, 0, none⟩) 2 2 ∧ s.env 26 = .int .i64 2 ∧ s.env 27 = .int .i64 0 ∧ Heap.le H s.heap ∧ s.heap bS = some (.row true 0 (F0 ++ flat s1) 0)) := ⟨_, rfl⟩
  refine w_cut I0 ?_ ?_
  · refine w_plan (P := Try.prog) (by simp [facts]) (opsP [1,5] (.both (opsP [0,2,3,4] .done) (opsP [2,0,3,4] .done))) ?_ ?_
    · decide +kernel
    have hzl : (splice (zeros [.int .i64 0, .int .i64 0, .int .i64 0, .int .i64 0, .int .i64 0, .int .i64 0, .int .i64 0, .int .i64 0, .int .i64 0, .int .i64 0, .int .i64 0, .int .i64 0, .int .i64 0, .int .i64 0, .int .i64 0, .int .i64 0] 2) 0 F0).length = 32 := by rw [splice_length _ _ _ (by rw [hf0]; decide)]; rfl
    simp (disch := first | omega | assumption | decide | (simp <;> omega) | fail) [facts, l3, hf0, ht0]
    refine ⟨?_, ?_⟩
    all_goals
      refine (cass_c k _ hk).mono ?_
      rintro r H2 ⟨⟨s1, rfl, d0, d1, d2, d3⟩, hle2⟩
      have l3' := hle2 _ _ l3
      have hf1 : (flat s1).length = 16 := rfl
      have ho1 : ((flat s1).all fun v => v.oneCell') = true := rfl
      unfold setV
      generalize hF1 : flat s1 = F1 at *
      simp (disch := first | omega | assumption | decide | (simp <;> omega) | fail) [facts, l3', hf0, ht0, hf1, hzl]
      refine fresh_intro fun bS hbS => ?_
      rw [splice_two rfl hf0 hf1]
      simp (disch := first | omega | assumption | decide | (simp <;> omega) | fail) [facts, ]
      subst hI0
      exact ⟨s1, bS, d0, d1, d2, d3, by simp (disch := first | omega | assumption | decide | (simp <;> omega) | fail) [facts, ], by simp (disch := first | omega | assumption | decide | (simp <;> omega) | fail) [facts, ], by simp (disch := first | omega | assumption | decide | (simp <;> omega) | fail) [facts, ], by simp (disch := first | omega | assumption | decide | (simp <;> omega) | fail) [facts, ], Heap.le_trans hle (Heap.le_trans hle2 (le_upd _ hbS)), by rw [hF1]; exact upd_same _ _ _⟩
  clear l3 hle hb3
  subst hI0
  rintro ⟨env, G⟩ ⟨s1, bS, d0, d1, d2, d3, e2', e25, e26, e27, hle, lS⟩
  simp only at e2' e25 e26 e27 hle lS
  have hF : ∀ j, j < 2 → ∃ sj : S4, List.take 16 (List.drop (j * 16) (F0 ++ flat s1)) = flat sj ∧ OkS (newS sj) := by
    intro j hj
    have hj : j = 0 ∨ j = 1 := by omega
    rcases hj with rfl | rfl
    · refine ⟨s0, ?_, ok_new e0 e1 e2 e3⟩
      rw [Nat.zero_mul, List.drop_zero, ← hF0]; rfl
    · refine ⟨s1, ?_, ok_new d0 d1 d2 d3⟩
      rw [← hF0]; rfl
  have hFl : (F0 ++ flat s1).length = 32 := by rw [← hF0]; rfl
  clear e0 e1 e2 e3 d0 d1 d2 d3 hF0 hf0 ht0 ho0
  generalize F0 ++ flat s1 = F at *
  clear s0 s1
  simp (disch := first | omega | assumption | decide | (simp <;> omega) | fail) [facts, e2', e25, e26, e27]
  refine w_loop (outInv H a n c bS F) (fun s => 2 - (intOf (s.env 27)).toNat) ?_ ?_
  · exact ⟨0, by decide, e2', e25, e26, e27, hle, lS⟩
  clear e2' e25 e26 e27 hle lS env G
  rintro ⟨env, G⟩ ⟨j, hj, e2, e25, e26, e27, hle, lS⟩
  simp only at e2 e25 e26 e27 hle lS
  by_cases hj2 : j < 2
  · have hj2I : (j : Int) < 2 := by omega
    obtain ⟨sj, hsj, hok⟩ := hF j hj2
    have hfj : (flat sj).length = 16 := rfl
    have hoj : ((flat sj).all fun v => v.oneCell') = true := rfl
    have htj : List.take 16 (flat sj) = flat sj := rfl
    have cA := fun H => new_c sj H
    have cB := fun H => newR_c sj H
    unfold setV at cA cB
    generalize flat sj = FJ at *
    simp (disch := first | omega | assumption | decide | (simp <;> omega) | fail) [facts, e2, e25, e26, e27, hj2I, lS, hFl, hsj, show j * 16 + 16 ≤ 32 by omega]
    refine fresh_intro fun b8 hb8 => ?_
    have hsp0 : splice [.int .i64 0, .int .i64 0, .int .i64 0, .int .i64 0, .int .i64 0, .int .i64 0, .int .i64 0, .int .i64 0, .int .i64 0, .int .i64 0, .int .i64 0, .int .i64 0, .int .i64 0, .int .i64 0, .int .i64 0, .int .i64 0] 0 FJ = FJ := by simp [splice, hfj]
    have l8 := upd_same G b8 (.row true 0 FJ 0)
    replace lS := upd_other (o := .row true 0 FJ 0) hb8 lS
    replace hle := Heap.le_trans hle (le_upd (.row true 0 FJ 0) hb8)
    simp (disch := first | omega | assumption | decide | (simp <;> omega) | fail) [facts, hfj, hoj, hsp0, upd_upd]
    generalize upd G b8 (.row true 0 FJ 0) = G1 at *
    obtain ⟨I1, hI1⟩ : ∃ I : St → Prop, I = (fun s => ∃ p q : Nat, s.env 2 = .slice a n c ∧ s.env 25 = .slice (some ⟨bS, 0, none⟩) 2 2 ∧ s.env 26 = .int .i64 2 ∧ s.env 27 = .int .i64 j ∧ s.env 9 = .pointer (some ⟨p, 0, none⟩) ∧ s.env 10 = .pointer (some ⟨q, 0, none⟩) ∧ p ≠ q ∧ Heap.le G1 s.heap ∧ G1 p = none ∧ G1 q = none ∧ s.heap p = some (.row true 0 (flat (newS sj)) 0) ∧ s.heap q = some (.row true 0 (flat (newS sj)) 0)) := ⟨_, rfl⟩
    refine w_cut I1 ?_ ?_
    · refine w_plan (P := Try.prog) (by simp [facts]) (.both (opsP [0] (.both (opsP [1,2,3,4,5] .done) (opsP [2,1,3,4,5] .done))) (opsP [2,0,1,3,4,5] .done)) ?_ ?_
      · decide +kernel
      simp (disch := first | omega | assumption | decide | (simp <;> omega) | fail) [facts, l8, hfj, htj]
      repeat' apply And.intro
      all_goals
        refine (cA _).mono ?_
        rintro r H2 ⟨p, rfl, hpn, lp, hle2⟩
        have l8' := hle2 _ _ l8
        simp (disch := first | omega | assumption | decide | (simp <;> omega) | fail) [facts, l8', hfj, htj]
        refine (cB _).mono ?_
        rintro r H3 ⟨q, rfl, hqn, lq, hle3⟩
        simp (disch := first | omega | assumption | decide | (simp <;> omega) | fail) [facts, ]
        subst hI1
        exact ⟨p, q, by simp (disch := first | omega | assumption | decide | (simp <;> omega) | fail) [facts, e2], by simp (disch := first | omega | assumption | decide | (simp <;> omega) | fail) [facts, e25], by simp (disch := first | omega | assumption | decide | (simp <;> omega) | fail) [facts, e26], by simp (disch := first | omega | assumption | decide | (simp <;> omega) | fail) [facts, e27], by simp (disch := first | omega | assumption | decide | (simp <;> omega) | fail) [facts, ], by simp (disch := first | omega | assumption | decide | (simp <;> omega) | fail) [facts, ], ne_of_fresh hqn lp, Heap.le_trans hle2 hle3, hpn, le_of_none hle2 hqn, hle3 _ _ lp, lq⟩
    subst hI1
    clear e2 e25 e26 e27 l8 hsp0 cA cB
    rintro ⟨env2, G2⟩ ⟨p, q, e2, e25, e26, e27, e9, e10, hpq, hleG, gp, gq, lp, lq⟩
    simp only at e2 e25 e26 e27 e9 e10 hleG lp lq
    have hqp := hpq.symm
    have hpH : H p = none := le_of_none hle gp
    have hqH : H q = none := le_of_none hle gq
    have pS := ne_of_fresh gp lS
    have qS := ne_of_fresh gq lS
    replace lS := hleG _ _ lS
    replace hle := Heap.le_trans hle hleG
    clear hleG gp gq
    simp (disch := first | omega | assumption | decide | (simp <;> omega) | fail) [facts, e2, e25, e26, e27, e9, e10]
    refine w_loop (inInv H a n c bS p q j F) (fun s => n - (intOf (s.env 11)).toNat) ?_ ?_
    · exact ⟨0, newS sj, Nat.zero_le _, by simp (disch := first | omega | assumption | decide | (simp <;> omega) | fail) [facts, e2], by simp (disch := first | omega | assumption | decide | (simp <;> omega) | fail) [facts, e25], by simp (disch := first | omega | assumption | decide | (simp <;> omega) | fail) [facts, e26], by simp (disch := first | omega | assumption | decide | (simp <;> omega) | fail) [facts, e27], by simp (disch := first | omega | assumption | decide | (simp <;> omega) | fail) [facts, e9], by simp (disch := first | omega | assumption | decide | (simp <;> omega) | fail) [facts, e10], by simp (disch := first | omega | assumption | decide | (simp <;> omega) | fail) [facts, ], hle, lS, hok, lp, lq⟩
    clear e2 e25 e26 e27 e9 e10 hle lS hok lp lq
    rintro ⟨env3, G⟩ ⟨i, t, hi, e2, e25, e26, e27, e9, e10, e11, hle, lS, hok, lp, lq⟩
    simp only at e2 e25 e26 e27 e9 e10 e11 hle lS lp lq
    by_cases hlt : i < n
    · obtain ⟨A, hA, hw⟩ := hx i hlt
      obtain ⟨b, o, rfl⟩ := h.lit (by omega)
      have hG := h.le hle
      have hltI : (i : Int) < (n : Int) := by omega
      have rA : rdNU (G b) (o + i * 9) 9 = some [.int .u8 A.w, .int .i64 A.n0, .int .i64 A.n1, .int .i64 A.n2, .int .i64 A.n3, .int .i64 A.r0, .int .i64 A.r1, .int .i64 A.r2, .int .i64 A.r3] := by
        have := hG.part hlt hA (j := 0) (r := 9) (by decide) (by decide)
        simpa [ActZ.cells] using this
      simp (disch := first | omega | assumption | decide | (simp <;> omega) | fail) [facts, e2, e25, e26, e27, e9, e10, e11, hltI, rA]
      refine fresh_intro fun b12 hb12 => ?_
      have y12p := (ne_of_fresh hb12 lp).symm
      have y12q := (ne_of_fresh hb12 lq).symm
      have l12 := upd_same G b12 (.row true 0 [.int .u8 A.w, .int .i64 A.n0, .int .i64 A.n1, .int .i64 A.n2, .int .i64 A.n3, .int .i64 A.r0, .int .i64 A.r1, .int .i64 A.r2, .int .i64 A.r3] 0)
      replace lp := upd_other (o := .row true 0 [.int .u8 A.w, .int .i64 A.n0, .int .i64 A.n1, .int .i64 A.n2, .int .i64 A.n3, .int .i64 A.r0, .int .i64 A.r1, .int .i64 A.r2, .int .i64 A.r3] 0) hb12 lp
      replace lq := upd_other (o := .row true 0 [.int .u8 A.w, .int .i64 A.n0, .int .i64 A.n1, .int .i64 A.n2, .int .i64 A.n3, .int .i64 A.r0, .int .i64 A.r1, .int .i64 A.r2, .int .i64 A.r3] 0) hb12 lq
      replace lS := upd_other (o := .row true 0 [.int .u8 A.w, .int .i64 A.n0, .int .i64 A.n1, .int .i64 A.n2, .int .i64 A.n3, .int .i64 A.r0, .int .i64 A.r1, .int .i64 A.r2, .int .i64 A.r3] 0) hb12 lS
      replace hle := Heap.le_trans hle (le_upd (.row true 0 [.int .u8 A.w, .int .i64 A.n0, .int .i64 A.n1, .int .i64 A.n2, .int .i64 A.n3, .int .i64 A.r0, .int .i64 A.r1, .int .i64 A.r2, .int .i64 A.r3] 0) hb12)
      simp (disch := first | omega | assumption | decide | (simp <;> omega) | fail) [facts, e2, e25, e26, e27, e9, e10, e11, upd_upd]
      generalize upd G b12 (.row true 0 [.int .u8 A.w, .int .i64 A.n0, .int .i64 A.n1, .int .i64 A.n2, .int .i64 A.n3, .int .i64 A.r0, .int .i64 A.r1, .int .i64 A.r2, .int .i64 A.r3] 0) = G12 at *
      have hDp : (dele (dele G12 p) q) p = none := by rw [dele_ne _ hpq]; exact dele_none p
      have hDq : (dele (dele G12 p) q) q = none := dele_none q
      have hD12 : (dele (dele G12 p) q) b12 = some (.row true 0 [.int .u8 A.w, .int .i64 A.n0, .int .i64 A.n1, .int .i64 A.n2, .int .i64 A.n3, .int .i64 A.r0, .int .i64 A.r1, .int .i64 A.r2, .int .i64 A.r3] 0) := by rw [dele_ne _ y12q, dele_ne _ y12p]; exact l12
      have hDS : (dele (dele G12 p) q) bS = some (.row true 0 F 0) := by rw [dele_ne _ qS, dele_ne _ pS]; exact lS
      have cn := fun H => smallW_c A.n0 A.n1 A.n2 A.n3 A.w H hw
      have cr := fun H => smallW_c A.r0 A.r1 A.r2 A.r3 A.w H hw
      generalize smZ A.w A.n0 = m0 at *
      generalize smZ A.w A.n1 = m1 at *
      generalize smZ A.w A.n2 = m2 at *
      generalize smZ A.w A.n3 = m3 at *
      generalize smZ A.w A.r0 = u0 at *
      generalize smZ A.w A.r1 = u1 at *
      generalize smZ A.w A.r2 = u2 at *
      generalize smZ A.w A.r3 = u3 at *
      have la := fun H lp => loadA_c t p m0 m1 m2 m3 H lp
      have lb := fun H lp => loadB_c t q m0 m1 m2 m3 H lp
      have ga := fun H lp => giveA_c t p m0 m1 m2 m3 u0 u1 u2 u3 H lp hok
      have gb := fun H lp => giveB_c t q m0 m1 m2 m3 u0 u1 u2 u3 H lp hok
      simp only [notesV] at cn cr la lb ga gb
      try simp (disch := first | omega | assumption | decide | (simp <;> omega) | fail) [facts, e2, e25, e26, e27, e9, e10, e11, l12]
      obtain ⟨I2, hI2⟩ : ∃ I : St → Prop, I = (fun s => ∃ t' : S4, OkS t' ∧ s.heap p = some (.row true 0 (flat t') 0) ∧ s.heap q = some (.row true 0 (flat t') 0) ∧ Heap.le H s.heap ∧ s.heap bS = some (.row true 0 F 0) ∧ s.env 2 = .slice (some ⟨b, o, none⟩) n c ∧ s.env 25 = .slice (some ⟨bS, 0, none⟩) 2 2 ∧ s.env 26 = .int .i64 2 ∧ s.env 27 = .int .i64 j ∧ s.env 9 = .pointer (some ⟨p, 0, none⟩) ∧ s.env 10 = .pointer (some ⟨q, 0, none⟩) ∧ s.env 11 = .int .i64 i) := ⟨_, rfl⟩
      refine cond_cut I2 ?_ ?_
      · by_cases h4 : (A.w : Int) % 5 = 4
        · simp (disch := first | omega | assumption | decide | (simp <;> omega) | fail) [facts, h4]
          refine w_vals (C := Unit) (by simp [facts]) (by decide +kernel) (fun _ => [.pointer (some ⟨p, 0, none⟩), .pointer (some ⟨b12, 1, none⟩), .agg [.int .i64 A.n0, .int .i64 A.n1, .int .i64 A.n2, .int .i64 A.n3].toArray, .pointer (some ⟨b12, 0, none⟩), .int .u8 A.w, .agg [.int .i64 m0, .int .i64 m1, .int .i64 m2, .int .i64 m3].toArray, .int .i64 (loadE m0 m1 m2 m3), .pointer (some ⟨q, 0, none⟩), .pointer (some ⟨b12, 1, none⟩), .agg [.int .i64 A.n0, .int .i64 A.n1, .int .i64 A.n2, .int .i64 A.n3].toArray, .pointer (some ⟨b12, 0, none⟩), .int .u8 A.w, .agg [.int .i64 m0, .int .i64 m1, .int .i64 m2, .int .i64 m3].toArray, .int .i64 (loadE m0 m1 m2 m3), .bool false]) (Pair (dele (dele G12 p) q) p q (flat t) (flat (loadT t m0 m1 m2 m3)) 6 13) () ?_ ?_ ?_
          · exact ⟨Heap.le_trans (dele_le _ _) (dele_le _ _), lp, lq⟩
          · simp only [allFrom_cons, allFrom_nil, putAll_cons, putAll_nil]
            refine ⟨?_, ?_, ?_, ?_, ?_, ?_, ?_, ?_, ?_, ?_, ?_, ?_, ?_, ?_, ?_, trivial⟩
            all_goals (unfold stepV; intro x g Hx hg hr hI)
            · simp (disch := first | omega | assumption | decide | (simp <;> omega) | fail) [facts, e2, e25, e26, e27, e9, e10, e11]
              exact endV_same (by rintro d ⟨⟩; simp (disch := first | omega | assumption | decide | (simp <;> omega) | fail) [facts, e2, e25, e26, e27, e9, e10, e11]) (hI.keep (Heap.le_refl _) (by decide) (by decide))
            · simp (disch := first | omega | assumption | decide | (simp <;> omega) | fail) [facts, e2, e25, e26, e27, e9, e10, e11]
              exact endV_same (by rintro d ⟨⟩; simp (disch := first | omega | assumption | decide | (simp <;> omega) | fail) [facts, e2, e25, e26, e27, e9, e10, e11]) (hI.keep (Heap.le_refl _) (by decide) (by decide))
            · simp (disch := first | omega | assumption | decide | (simp <;> omega) | fail) [facts, e2, e25, e26, e27, e9, e10, e11, hI.le _ _ hD12]
              exact endV_same (by rintro d ⟨⟩; simp (disch := first | omega | assumption | decide | (simp <;> omega) | fail) [facts, e2, e25, e26, e27, e9, e10, e11]) (hI.keep (Heap.le_refl _) (by decide) (by decide))
            · simp (disch := first | omega | assumption | decide | (simp <;> omega) | fail) [facts, e2, e25, e26, e27, e9, e10, e11]
              exact endV_same (by rintro d ⟨⟩; simp (disch := first | omega | assumption | decide | (simp <;> omega) | fail) [facts, e2, e25, e26, e27, e9, e10, e11]) (hI.keep (Heap.le_refl _) (by decide) (by decide))
            · simp (disch := first | omega | assumption | decide | (simp <;> omega) | fail) [facts, e2, e25, e26, e27, e9, e10, e11, hI.le _ _ hD12]
              exact endV_same (by rintro d ⟨⟩; simp (disch := first | omega | assumption | decide | (simp <;> omega) | fail) [facts, e2, e25, e26, e27, e9, e10, e11]) (hI.keep (Heap.le_refl _) (by decide) (by decide))
            · simp (disch := first | omega | assumption | decide | (simp <;> omega) | fail) [facts, e2, e25, e26, e27, e9, e10, e11]
              refine (cn _).mono ?_
              rintro v H' ⟨rfl, hl⟩
              simp (disch := first | omega | assumption | decide | (simp <;> omega) | fail) [facts, ]
              exact endV_same (by rintro d ⟨⟩; simp (disch := first | omega | assumption | decide | (simp <;> omega) | fail) [facts, e2, e25, e26, e27, e9, e10, e11]) (hI.keep hl (by decide) (by decide))
            · have lx := hI.fst
              rw [hg, if_neg (by decide)] at lx
              simp (disch := first | omega | assumption | decide | (simp <;> omega) | fail) [facts, e2, e25, e26, e27, e9, e10, e11]
              refine (la _ lx).mono ?_
              rintro v H' ⟨rfl, hl, hY⟩
              simp (disch := first | omega | assumption | decide | (simp <;> omega) | fail) [facts, ]
              exact endV_same (by rintro d ⟨⟩; simp (disch := first | omega | assumption | decide | (simp <;> omega) | fail) [facts, e2, e25, e26, e27, e9, e10, e11]) (hI.one hDp hqp (by decide) hl hY)
            · simp (disch := first | omega | assumption | decide | (simp <;> omega) | fail) [facts, e2, e25, e26, e27, e9, e10, e11]
              exact endV_same (by rintro d ⟨⟩; simp (disch := first | omega | assumption | decide | (simp <;> omega) | fail) [facts, e2, e25, e26, e27, e9, e10, e11]) (hI.keep (Heap.le_refl _) (by decide) (by decide))
            · simp (disch := first | omega | assumption | decide | (simp <;> omega) | fail) [facts, e2, e25, e26, e27, e9, e10, e11]
              exact endV_same (by rintro d ⟨⟩; simp (disch := first | omega | assumption | decide | (simp <;> omega) | fail) [facts, e2, e25, e26, e27, e9, e10, e11]) (hI.keep (Heap.le_refl _) (by decide) (by decide))
            · simp (disch := first | omega | assumption | decide | (simp <;> omega) | fail) [facts, e2, e25, e26, e27, e9, e10, e11, hI.le _ _ hD12]
              exact endV_same (by rintro d ⟨⟩; simp (disch := first | omega | assumption | decide | (simp <;> omega) | fail) [facts, e2, e25, e26, e27, e9, e10, e11]) (hI.keep (Heap.le_refl _) (by decide) (by decide))
            · simp (disch := first | omega | assumption | decide | (simp <;> omega) | fail) [facts, e2, e25, e26, e27, e9, e10, e11]
              exact endV_same (by rintro d ⟨⟩; simp (disch := first | omega | assumption | decide | (simp <;> omega) | fail) [facts, e2, e25, e26, e27, e9, e10, e11]) (hI.keep (Heap.le_refl _) (by decide) (by decide))
            · simp (disch := first | omega | assumption | decide | (simp <;> omega) | fail) [facts, e2, e25, e26, e27, e9, e10, e11, hI.le _ _ hD12]
              exact endV_same (by rintro d ⟨⟩; simp (disch := first | omega | assumption | decide | (simp <;> omega) | fail) [facts, e2, e25, e26, e27, e9, e10, e11]) (hI.keep (Heap.le_refl _) (by decide) (by decide))
            · simp (disch := first | omega | assumption | decide | (simp <;> omega) | fail) [facts, e2, e25, e26, e27, e9, e10, e11]
              refine (cn _).mono ?_
              rintro v H' ⟨rfl, hl⟩
              simp (disch := first | omega | assumption | decide | (simp <;> omega) | fail) [facts, ]
              exact endV_same (by rintro d ⟨⟩; simp (disch := first | omega | assumption | decide | (simp <;> omega) | fail) [facts, e2, e25, e26, e27, e9, e10, e11]) (hI.keep hl (by decide) (by decide))
            · have lx := hI.snd
              rw [hg, if_neg (by decide)] at lx
              simp (disch := first | omega | assumption | decide | (simp <;> omega) | fail) [facts, e2, e25, e26, e27, e9, e10, e11]
              refine (lb _ lx).mono ?_
              rintro v H' ⟨rfl, hl, hY⟩
              simp (disch := first | omega | assumption | decide | (simp <;> omega) | fail) [facts, ]
              exact endV_same (by rintro d ⟨⟩; simp (disch := first | omega | assumption | decide | (simp <;> omega) | fail) [facts, e2, e25, e26, e27, e9, e10, e11]) (hI.two hDq hpq (by decide) hl hY)
            · simp (disch := first | omega | assumption | decide | (simp <;> omega) | fail) [facts, e2, e25, e26, e27, e9, e10, e11]
              exact endV_same (by rintro d ⟨⟩; simp (disch := first | omega | assumption | decide | (simp <;> omega) | fail) [facts, e2, e25, e26, e27, e9, e10, e11]) (hI.keep (Heap.le_refl _) (by decide) (by decide))
          · rintro _ g HX hall hI
            have f1 := hI.fst
            have f2 := hI.snd
            rw [hall 6 (by decide), if_pos rfl] at f1
            rw [hall 13 (by decide), if_pos rfl] at f2
            simp only [putAll_cons, putAll_nil]
            simp (disch := first | omega | assumption | decide | (simp <;> omega) | fail) [facts, e2, e25, e26, e27, e9, e10, e11]
            subst hI2
            exact ⟨loadT t m0 m1 m2 m3, ok_loadT hok _ _ _ _, f1, f2, Heap.le_trans (le_deleN (le_deleN hle hpH) hqH) hI.le, hI.le _ _ hDS, by simp (disch := first | omega | assumption | decide | (simp <;> omega) | fail) [facts, e2, e25, e26, e27, e9, e10, e11], by simp (disch := first | omega | assumption | decide | (simp <;> omega) | fail) [facts, e2, e25, e26, e27, e9, e10, e11], by simp (disch := first | omega | assumption | decide | (simp <;> omega) | fail) [facts, e2, e25, e26, e27, e9, e10, e11], by simp (disch := first | omega | assumption | decide | (simp <;> omega) | fail) [facts, e2, e25, e26, e27, e9, e10, e11], by simp (disch := first | omega | assumption | decide | (simp <;> omega) | fail) [facts, e2, e25, e26, e27, e9, e10, e11], by simp (disch := first | omega | assumption | decide | (simp <;> omega) | fail) [facts, e2, e25, e26, e27, e9, e10, e11], by simp (disch := first | omega | assumption | decide | (simp <;> omega) | fail) [facts, e2, e25, e26, e27, e9, e10, e11]⟩
        · simp (disch := first | omega | assumption | decide | (simp <;> omega) | fail) [facts, h4]
          refine w_vals (C := Unit) (by simp [facts]) (by decide +kernel) (fun _ => [.pointer (some ⟨p, 0, none⟩), .pointer (some ⟨b12, 1, none⟩), .agg [.int .i64 A.n0, .int .i64 A.n1, .int .i64 A.n2, .int .i64 A.n3].toArray, .pointer (some ⟨b12, 0, none⟩), .int .u8 A.w, .agg [.int .i64 m0, .int .i64 m1, .int .i64 m2, .int .i64 m3].toArray, .pointer (some ⟨b12, 5, none⟩), .agg [.int .i64 A.r0, .int .i64 A.r1, .int .i64 A.r2, .int .i64 A.r3].toArray, .pointer (some ⟨b12, 0, none⟩), .int .u8 A.w, .agg [.int .i64 u0, .int .i64 u1, .int .i64 u2, .int .i64 u3].toArray, .int .i64 (giveE t m0 m1 m2 m3 u0 u1 u2 u3), .pointer (some ⟨q, 0, none⟩), .pointer (some ⟨b12, 1, none⟩), .agg [.int .i64 A.n0, .int .i64 A.n1, .int .i64 A.n2, .int .i64 A.n3].toArray, .pointer (some ⟨b12, 0, none⟩), .int .u8 A.w, .agg [.int .i64 m0, .int .i64 m1, .int .i64 m2, .int .i64 m3].toArray, .pointer (some ⟨b12, 5, none⟩), .agg [.int .i64 A.r0, .int .i64 A.r1, .int .i64 A.r2, .int .i64 A.r3].toArray, .pointer (some ⟨b12, 0, none⟩), .int .u8 A.w, .agg [.int .i64 u0, .int .i64 u1, .int .i64 u2, .int .i64 u3].toArray, .int .i64 (giveE t m0 m1 m2 m3 u0 u1 u2 u3), .bool false]) (Pair (dele (dele G12 p) q) p q (flat t) (flat (giveT t m0 m1 m2 m3 u0 u1 u2 u3)) 11 23) () ?_ ?_ ?_
          · exact ⟨Heap.le_trans (dele_le _ _) (dele_le _ _), lp, lq⟩
          · simp only [allFrom_cons, allFrom_nil, putAll_cons, putAll_nil]
            refine ⟨?_, ?_, ?_, ?_, ?_, ?_, ?_, ?_, ?_, ?_, ?_, ?_, ?_, ?_, ?_, ?_, ?_, ?_, ?_, ?_, ?_, ?_, ?_, ?_, ?_, trivial⟩
            all_goals (unfold stepV; intro x g Hx hg hr hI)
            · simp (disch := first | omega | assumption | decide | (simp <;> omega) | fail) [facts, e2, e25, e26, e27, e9, e10, e11]
              exact endV_same (by rintro d ⟨⟩; simp (disch := first | omega | assumption | decide | (simp <;> omega) | fail) [facts, e2, e25, e26, e27, e9, e10, e11]) (hI.keep (Heap.le_refl _) (by decide) (by decide))
            · simp (disch := first | omega | assumption | decide | (simp <;> omega) | fail) [facts, e2, e25, e26, e27, e9, e10, e11]
              exact endV_same (by rintro d ⟨⟩; simp (disch := first | omega | assumption | decide | (simp <;> omega) | fail) [facts, e2, e25, e26, e27, e9, e10, e11]) (hI.keep (Heap.le_refl _) (by decide) (by decide))
            · simp (disch := first | omega | assumption | decide | (simp <;> omega) | fail) [facts, e2, e25, e26, e27, e9, e10, e11, hI.le _ _ hD12]
              exact endV_same (by rintro d ⟨⟩; simp (disch := first | omega | assumption | decide | (simp <;> omega) | fail) [facts, e2, e25, e26, e27, e9, e10, e11]) (hI.keep (Heap.le_refl _) (by decide) (by decide))
            · simp (disch := first | omega | assumption | decide | (simp <;> omega) | fail) [facts, e2, e25, e26, e27, e9, e10, e11]
              exact endV_same (by rintro d ⟨⟩; simp (disch := first | omega | assumption | decide | (simp <;> omega) | fail) [facts, e2, e25, e26, e27, e9, e10, e11]) (hI.keep (Heap.le_refl _) (by decide) (by decide))
            · simp (disch := first | omega | assumption | decide | (simp <;> omega) | fail) [facts, e2, e25, e26, e27, e9, e10, e11, hI.le _ _ hD12]
              exact endV_same (by rintro d ⟨⟩; simp (disch := first | omega | assumption | decide | (simp <;> omega) | fail) [facts, e2, e25, e26, e27, e9, e10, e11]) (hI.keep (Heap.le_refl _) (by decide) (by decide))
            · simp (disch := first | omega | assumption | decide | (simp <;> omega) | fail) [facts, e2, e25, e26, e27, e9, e10, e11]
              refine (cn _).mono ?_
              rintro v H' ⟨rfl, hl⟩
              simp (disch := first | omega | assumption | decide | (simp <;> omega) | fail) [facts, ]
              exact endV_same (by rintro d ⟨⟩; simp (disch := first | omega | assumption | decide | (simp <;> omega) | fail) [facts, e2, e25, e26, e27, e9, e10, e11]) (hI.keep hl (by decide) (by decide))
            · simp (disch := first | omega | assumption | decide | (simp <;> omega) | fail) [facts, e2, e25, e26, e27, e9, e10, e11]
              exact endV_same (by rintro d ⟨⟩; simp (disch := first | omega | assumption | decide | (simp <;> omega) | fail) [facts, e2, e25, e26, e27, e9, e10, e11]) (hI.keep (Heap.le_refl _) (by decide) (by decide))
            · simp (disch := first | omega | assumption | decide | (simp <;> omega) | fail) [facts, e2, e25, e26, e27, e9, e10, e11, hI.le _ _ hD12]
              exact endV_same (by rintro d ⟨⟩; simp (disch := first | omega | assumption | decide | (simp <;> omega) | fail) [facts, e2, e25, e26, e27, e9, e10, e11]) (hI.keep (Heap.le_refl _) (by decide) (by decide))
            · simp (disch := first | omega | assumption | decide | (simp <;> omega) | fail) [facts, e2, e25, e26, e27, e9, e10, e11]
              exact endV_same (by rintro d ⟨⟩; simp (disch := first | omega | assumption | decide | (simp <;> omega) | fail) [facts, e2, e25, e26, e27, e9, e10, e11]) (hI.keep (Heap.le_refl _) (by decide) (by decide))
            · simp (disch := first | omega | assumption | decide | (simp <;> omega) | fail) [facts, e2, e25, e26, e27, e9, e10, e11, hI.le _ _ hD12]
              exact endV_same (by rintro d ⟨⟩; simp (disch := first | omega | assumption | decide | (simp <;> omega) | fail) [facts, e2, e25, e26, e27, e9, e10, e11]) (hI.keep (Heap.le_refl _) (by decide) (by decide))
            · simp (disch := first | omega | assumption | decide | (simp <;> omega) | fail) [facts, e2, e25, e26, e27, e9, e10, e11]
              refine (cr _).mono ?_
              rintro v H' ⟨rfl, hl⟩
              simp (disch := first | omega | assumption | decide | (simp <;> omega) | fail) [facts, ]
              exact endV_same (by rintro d ⟨⟩; simp (disch := first | omega | assumption | decide | (simp <;> omega) | fail) [facts, e2, e25, e26, e27, e9, e10, e11]) (hI.keep hl (by decide) (by decide))
            · have lx := hI.fst
              rw [hg, if_neg (by decide)] at lx
              simp (disch := first | omega | assumption | decide | (simp <;> omega) | fail) [facts, e2, e25, e26, e27, e9, e10, e11]
              refine (ga _ lx).mono ?_
              rintro v H' ⟨rfl, hl, hY⟩
              simp (disch := first | omega | assumption | decide | (simp <;> omega) | fail) [facts, ]
              exact endV_same (by rintro d ⟨⟩; simp (disch := first | omega | assumption | decide | (simp <;> omega) | fail) [facts, e2, e25, e26, e27, e9, e10, e11]) (hI.one hDp hqp (by decide) hl hY)
            · simp (disch := first | omega | assumption | decide | (simp <;> omega) | fail) [facts, e2, e25, e26, e27, e9, e10, e11]
              exact endV_same (by rintro d ⟨⟩; simp (disch := first | omega | assumption | decide | (simp <;> omega) | fail) [facts, e2, e25, e26, e27, e9, e10, e11]) (hI.keep (Heap.le_refl _) (by decide) (by decide))
            · simp (disch := first | omega | assumption | decide | (simp <;> omega) | fail) [facts, e2, e25, e26, e27, e9, e10, e11]
              exact endV_same (by rintro d ⟨⟩; simp (disch := first | omega | assumption | decide | (simp <;> omega) | fail) [facts, e2, e25, e26, e27, e9, e10, e11]) (hI.keep (Heap.le_refl _) (by decide) (by decide))
            · simp (disch := first | omega | assumption | decide | (simp <;> omega) | fail) [facts, e2, e25, e26, e27, e9, e10, e11, hI.le _ _ hD12]
              exact endV_same (by rintro d ⟨⟩; simp (disch := first | omega | assumption | decide | (simp <;> omega) | fail) [facts, e2, e25, e26, e27, e9, e10, e11]) (hI.keep (Heap.le_refl _) (by decide) (by decide))
            · simp (disch := first | omega | assumption | decide | (simp <;> omega) | fail) [facts, e2, e25, e26, e27, e9, e10, e11]
              exact endV_same (by rintro d ⟨⟩; simp (disch := first | omega | assumption | decide | (simp <;> omega) | fail) [facts, e2, e25, e26, e27, e9, e10, e11]) (hI.keep (Heap.le_refl _) (by decide) (by decide))
            · simp (disch := first | omega | assumption | decide | (simp <;> omega) | fail) [facts, e2, e25, e26, e27, e9, e10, e11, hI.le _ _ hD12]
              exact endV_same (by rintro d ⟨⟩; simp (disch := first | omega | assumption | decide | (simp <;> omega) | fail) [facts, e2, e25, e26, e27, e9, e10, e11]) (hI.keep (Heap.le_refl _) (by decide) (by decide))
            · simp (disch := first | omega | assumption | decide | (simp <;> omega) | fail) [facts, e2, e25, e26, e27, e9, e10, e11]
              refine (cn _).mono ?_
              rintro v H' ⟨rfl, hl⟩
              simp (disch := first | omega | assumption | decide | (simp <;> omega) | fail) [facts, ]
              exact endV_same (by rintro d ⟨⟩; simp (disch := first | omega | assumption | decide | (simp <;> omega) | fail) [facts, e2, e25, e26, e27, e9, e10, e11]) (hI.keep hl (by decide) (by decide))
            · simp (disch := first | omega | assumption | decide | (simp <;> omega) | fail) [facts, e2, e25, e26, e27, e9, e10, e11]
              exact endV_same (by rintro d ⟨⟩; simp (disch := first | omega | assumption | decide | (simp <;> omega) | fail) [facts, e2, e25, e26, e27, e9, e10, e11]) (hI.keep (Heap.le_refl _) (by decide) (by decide))
            · simp (disch := first | omega | assumption | decide | (simp <;> omega) | fail) [facts, e2, e25, e26, e27, e9, e10, e11, hI.le _ _ hD12]
              exact endV_same (by rintro d ⟨⟩; simp (disch := first | omega | assumption | decide | (simp <;> omega) | fail) [facts, e2, e25, e26, e27, e9, e10, e11]) (hI.keep (Heap.le_refl _) (by decide) (by decide))
            · simp (disch := first | omega | assumption | decide | (simp <;> omega) | fail) [facts, e2, e25, e26, e27, e9, e10, e11]
              exact endV_same (by rintro d ⟨⟩; simp (disch := first | omega | assumption | decide | (simp <;> omega) | fail) [facts, e2, e25, e26, e27, e9, e10, e11]) (hI.keep (Heap.le_refl _) (by decide) (by decide))
            · simp (disch := first | omega | assumption | decide | (simp <;> omega) | fail) [facts, e2, e25, e26, e27, e9, e10, e11, hI.le _ _ hD12]
              exact endV_same (by rintro d ⟨⟩; simp (disch := first | omega | assumption | decide | (simp <;> omega) | fail) [facts, e2, e25, e26, e27, e9, e10, e11]) (hI.keep (Heap.le_refl _) (by decide) (by decide))
            · simp (disch := first | omega | assumption | decide | (simp <;> omega) | fail) [facts, e2, e25, e26, e27, e9, e10, e11]
              refine (cr _).mono ?_
              rintro v H' ⟨rfl, hl⟩
              simp (disch := first | omega | assumption | decide | (simp <;> omega) | fail) [facts, ]
              exact endV_same (by rintro d ⟨⟩; simp (disch := first | omega | assumption | decide | (simp <;> omega) | fail) [facts, e2, e25, e26, e27, e9, e10, e11]) (hI.keep hl (by decide) (by decide))
            · have lx := hI.snd
              rw [hg, if_neg (by decide)] at lx
              simp (disch := first | omega | assumption | decide | (simp <;> omega) | fail) [facts, e2, e25, e26, e27, e9, e10, e11]
              refine (gb _ lx).mono ?_
              rintro v H' ⟨rfl, hl, hY⟩
              simp (disch := first | omega | assumption | decide | (simp <;> omega) | fail) [facts, ]
              exact endV_same (by rintro d ⟨⟩; simp (disch := first | omega | assumption | decide | (simp <;> omega) | fail) [facts, e2, e25, e26, e27, e9, e10, e11]) (hI.two hDq hpq (by decide) hl hY)
            · simp (disch := first | omega | assumption | decide | (simp <;> omega) | fail) [facts, e2, e25, e26, e27, e9, e10, e11]
              exact endV_same (by rintro d ⟨⟩; simp (disch := first | omega | assumption | decide | (simp <;> omega) | fail) [facts, e2, e25, e26, e27, e9, e10, e11]) (hI.keep (Heap.le_refl _) (by decide) (by decide))
          · rintro _ g HX hall hI
            have f1 := hI.fst
            have f2 := hI.snd
            rw [hall 11 (by decide), if_pos rfl] at f1
            rw [hall 23 (by decide), if_pos rfl] at f2
            simp only [putAll_cons, putAll_nil]
            simp (disch := first | omega | assumption | decide | (simp <;> omega) | fail) [facts, e2, e25, e26, e27, e9, e10, e11]
            subst hI2
            exact ⟨giveT t m0 m1 m2 m3 u0 u1 u2 u3, ok_give hok _ _ _ _ _ _ _ _, f1, f2, Heap.le_trans (le_deleN (le_deleN hle hpH) hqH) hI.le, hI.le _ _ hDS, by simp (disch := first | omega | assumption | decide | (simp <;> omega) | fail) [facts, e2, e25, e26, e27, e9, e10, e11], by simp (disch := first | omega | assumption | decide | (simp <;> omega) | fail) [facts, e2, e25, e26, e27, e9, e10, e11], by simp (disch := first | omega | assumption | decide | (simp <;> omega) | fail) [facts, e2, e25, e26, e27, e9, e10, e11], by simp (disch := first | omega | assumption | decide | (simp <;> omega) | fail) [facts, e2, e25, e26, e27, e9, e10, e11], by simp (disch := first | omega | assumption | decide | (simp <;> omega) | fail) [facts, e2, e25, e26, e27, e9, e10, e11], by simp (disch := first | omega | assumption | decide | (simp <;> omega) | fail) [facts, e2, e25, e26, e27, e9, e10, e11], by simp (disch := first | omega | assumption | decide | (simp <;> omega) | fail) [facts, e2, e25, e26, e27, e9, e10, e11]⟩
      subst hI2
      clear e2 e25 e26 e27 e9 e10 e11 hle lS lp lq hDp hDq hD12 hDS la lb ga gb cn cr l12 hok
      rintro ⟨env4, G4⟩ ⟨t', hok', lp, lq, hle, lS, e2, e25, e26, e27, e9, e10, e11⟩
      simp only at lp lq hle lS e2 e25 e26 e27 e9 e10 e11
      have cw := fun H lp => worthS_c t' p H lp hok'
      have cw2 := fun H lp => worthSR_c t' q H lp hok'
      obtain ⟨R, Rb, hR⟩ : ∃ R Rb, worthV [t'.a.g, t'.b.g, t'.c.g, t'.e.g] [t'.a.d, t'.b.d, t'.c.d, t'.e.d] = .tuple #[.int .i64 R, .bool Rb] := by
        unfold worthV totV
        repeat' split
        all_goals exact ⟨_, _, rfl⟩
      simp only [hR] at cw cw2
      clear hR
      have ca := fun H lp => all_c t' p H lp
      have cg1 := fun H lp => given_c t' p H lp
      have cg2 := fun H lp => givenR_c t' q H lp
      have cr1 := fun H lp => rejected_c t' p H lp
      have cr2 := fun H lp => rejectedR_c t' q H lp
      obtain ⟨⟨d0, l0, c0, q0⟩, ⟨d1, l1, c1, q1⟩, ⟨d2, l2, c2, q2⟩, ⟨d3, l3, c3, q3⟩⟩ := t'
      simp only [setV, notesV, flat] at ca cg1 cg2 cr1 cr2 lp lq cw cw2
      simp (disch := first | omega | assumption | decide | (simp <;> omega) | fail) [facts, e2, e25, e26, e27, e9, e10, e11]
      refine (cw _ lp).mono ?_
      rintro r H5 ⟨rfl, hle5⟩
      replace lp := hle5 _ _ lp
      replace lq := hle5 _ _ lq
      replace lS := hle5 _ _ lS
      replace hle := Heap.le_trans hle hle5
      simp (disch := first | omega | assumption | decide | (simp <;> omega) | fail) [facts, e2, e25, e26, e27, e9, e10, e11]
      refine (cw2 _ lq).mono ?_
      rintro r H6 ⟨rfl, hle6⟩
      replace lp := hle6 _ _ lp
      replace lq := hle6 _ _ lq
      replace lS := hle6 _ _ lS
      replace hle := Heap.le_trans hle hle6
      simp (disch := first | omega | assumption | decide | (simp <;> omega) | fail) [facts, e2, e25, e26, e27, e9, e10, e11]
      refine w_plan (P := Try.prog) (by simp [facts]) (opsP [0,2,3,4] (.both (opsP [1,5,6,7,8,9,10,11,12,13,14,15,16,17,18,20,19,21,22,23,24,25,27,26,28,29,30] .done) (opsP [5,1,6,7,8,9,10,11,12,13,14,15,16,17,18,20,19,21,22,23,24,25,27,26,28,29,30] .done))) ?_ ?_
      · decide +kernel
      simp (disch := first | omega | assumption | decide | (simp <;> omega) | fail) [facts, e2, e25, e26, e27, e9, e10, e11, lq]
      refine ⟨?_, ?_⟩
      all_goals
        refine (ca _ lp).mono ?_
        rintro r H7 ⟨rfl, hle7⟩
        have lp7 := hle7 _ _ lp
        have lq7 := hle7 _ _ lq
        simp (disch := first | omega | assumption | decide | (simp <;> omega) | fail) [facts, e2, e25, e26, e27, e9, e10, e11, lq7]
        refine (cg1 _ lp7).mono ?_
        rintro r H8 ⟨rfl, hle8⟩
        have lp8 := hle8 _ _ lp7
        have lq8 := hle8 _ _ lq7
        simp (disch := first | omega | assumption | decide | (simp <;> omega) | fail) [facts, e2, e25, e26, e27, e9, e10, e11]
        refine (cg2 _ lq8).mono ?_
        rintro r H9 ⟨rfl, hle9⟩
        have lp9 := hle9 _ _ lp8
        have lq9 := hle9 _ _ lq8
        simp (disch := first | omega | assumption | decide | (simp <;> omega) | fail) [facts, e2, e25, e26, e27, e9, e10, e11]
        refine (cr1 _ lp9).mono ?_
        rintro r H10 ⟨rfl, hle10⟩
        have lp10 := hle10 _ _ lp9
        have lq10 := hle10 _ _ lq9
        simp (disch := first | omega | assumption | decide | (simp <;> omega) | fail) [facts, e2, e25, e26, e27, e9, e10, e11]
        refine (cr2 _ lq10).mono ?_
        rintro r H11 ⟨rfl, hle11⟩
        have lp11 := hle11 _ _ lp10
        have lq11 := hle11 _ _ lq10
        have hle79 := Heap.le_trans hle7 (Heap.le_trans hle8 (Heap.le_trans hle9 (Heap.le_trans hle10 hle11)))
        simp (disch := first | omega | assumption | decide | (simp <;> omega) | fail) [facts, e2, e25, e26, e27, e9, e10, e11]
        refine ⟨_, Heap.le_refl _, ⟨i + 1, ⟨⟨d0, l0, c0, q0⟩, ⟨d1, l1, c1, q1⟩, ⟨d2, l2, c2, q2⟩, ⟨d3, l3, c3, q3⟩⟩, by omega, by simp (disch := first | omega | assumption | decide | (simp <;> omega) | fail) [facts, e2, e25, e26, e27, e9, e10, e11], by simp (disch := first | omega | assumption | decide | (simp <;> omega) | fail) [facts, e2, e25, e26, e27, e9, e10, e11], by simp (disch := first | omega | assumption | decide | (simp <;> omega) | fail) [facts, e2, e25, e26, e27, e9, e10, e11], by simp (disch := first | omega | assumption | decide | (simp <;> omega) | fail) [facts, e2, e25, e26, e27, e9, e10, e11], by simp (disch := first | omega | assumption | decide | (simp <;> omega) | fail) [facts, e2, e25, e26, e27, e9, e10, e11], by simp (disch := first | omega | assumption | decide | (simp <;> omega) | fail) [facts, e2, e25, e26, e27, e9, e10, e11], by simp (disch := first | omega | assumption | decide | (simp <;> omega) | fail) [facts, e2, e25, e26, e27, e9, e10, e11], Heap.le_trans hle hle79, hle79 _ _ lS, hok', lp11, lq11⟩, by simp [intOf, e11]; omega⟩
    · have hltI : ¬ (i : Int) < (n : Int) := by omega
      simp (disch := first | omega | assumption | decide | (simp <;> omega) | fail) [facts, e2, e25, e26, e27, e9, e10, e11, hltI]
      refine ⟨_, Heap.le_refl _, ⟨j + 1, by omega, by simp (disch := first | omega | assumption | decide | (simp <;> omega) | fail) [facts, e2], by simp (disch := first | omega | assumption | decide | (simp <;> omega) | fail) [facts, e25], by simp (disch := first | omega | assumption | decide | (simp <;> omega) | fail) [facts, e26], by simp (disch := first | omega | assumption | decide | (simp <;> omega) | fail) [facts, e27], hle, lS⟩, by simp [intOf, e27]; omega⟩
  · have hj2I : ¬ (j : Int) < 2 := by omega
    simp (disch := first | omega | assumption | decide | (simp <;> omega) | fail) [facts, e2, e25, e26, e27, hj2I]
    exact ⟨_, Heap.le_refl _⟩

theorem set_of {cs : Array Value} (h : Fits (List.replicate 16 (.int .i64)) cs.toList) : ∃ s : S4, Value.agg cs = setV s ∧ i64In s.a.d ∧ i64In s.b.d ∧ i64In s.c.d ∧ i64In s.e.d := by
  obtain ⟨_, _, e0, ⟨z0, rfl, w0⟩, h1⟩ := h.cons
  obtain ⟨_, _, e1, ⟨z1, rfl, w1⟩, h2⟩ := h1.cons
  obtain ⟨_, _, e2, ⟨z2, rfl, w2⟩, h3⟩ := h2.cons
  obtain ⟨_, _, e3, ⟨z3, rfl, w3⟩, h4⟩ := h3.cons
  obtain ⟨_, _, e4, ⟨z4, rfl, w4⟩, h5⟩ := h4.cons
  obtain ⟨_, _, e5, ⟨z5, rfl, w5⟩, h6⟩ := h5.cons
  obtain ⟨_, _, e6, ⟨z6, rfl, w6⟩, h7⟩ := h6.cons
  obtain ⟨_, _, e7, ⟨z7, rfl, w7⟩, h8⟩ := h7.cons
  obtain ⟨_, _, e8, ⟨z8, rfl, w8⟩, h9⟩ := h8.cons
  obtain ⟨_, _, e9, ⟨z9, rfl, w9⟩, h10⟩ := h9.cons
  obtain ⟨_, _, e10, ⟨z10, rfl, w10⟩, h11⟩ := h10.cons
  obtain ⟨_, _, e11, ⟨z11, rfl, w11⟩, h12⟩ := h11.cons
  obtain ⟨_, _, e12, ⟨z12, rfl, w12⟩, h13⟩ := h12.cons
  obtain ⟨_, _, e13, ⟨z13, rfl, w13⟩, h14⟩ := h13.cons
  obtain ⟨_, _, e14, ⟨z14, rfl, w14⟩, h15⟩ := h14.cons
  obtain ⟨_, _, e15, ⟨z15, rfl, w15⟩, h16⟩ := h15.cons
  have e16 := h16.nil
  refine ⟨⟨⟨z0, z1, z2, z3⟩, ⟨z4, z5, z6, z7⟩, ⟨z8, z9, z10, z11⟩, ⟨z12, z13, z14, z15⟩⟩, ?_, ?_, ?_, ?_, ?_⟩
  · unfold setV flat
    congr 1
    rw [← Array.toArray_toList (xs := cs), e0, e1, e2, e3, e4, e5, e6, e7, e8, e9, e10, e11, e12, e13, e14, e15, e16]
  · exact (i64_wf _).1 w0
  · exact (i64_wf _).1 w4
  · exact (i64_wf _).1 w8
  · exact (i64_wf _).1 w12

end Go.Proofs.Ytgeocnggfgpmoaa.GL
