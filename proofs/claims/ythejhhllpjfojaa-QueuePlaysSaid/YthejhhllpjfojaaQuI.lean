/- Layer 22: the chapter's example; QueueFull. -/
import Derived.Test.YthejhhllpjfojaaQuH
namespace Go.Proofs.Ythejhhllpjfojaa.GL
open Go Go.RowKit
set_option maxRecDepth 10000
set_option pp.deepTerms.threshold 8
set_option pp.maxSteps 3000
set_option linter.unusedSimpArgs false
set_option linter.unusedVariables false

def iterT : Nat → QS → QS
  | 0, q => q
  | i + 1, q => tickD (iterT i q)
theorem iterT_k (q : QS) (h : 0 ≤ q.k ∧ q.k < 4) : ∀ i, 0 ≤ (iterT i q).k ∧ (iterT i q).k < 4
  | 0 => h
  | i + 1 => by
    have ih := iterT_k q h i
    show 0 ≤ (tickD (iterT i q)).k ∧ (tickD (iterT i q)).k < 4
    unfold tickD
    split
    · simp
    · simp only; omega
theorem tickD_len (q : QS) : (tickD q).l.length = q.l.length := by unfold tickD; split <;> simp
theorem iterT_len (q : QS) : ∀ i, (iterT i q).l.length = q.l.length
  | 0 => rfl
  | i + 1 => by show (tickD (iterT i q)).l.length = _; rw [tickD_len, iterT_len q i]
def kn22Inv (H : Heap) (p kb : Nat) (s : St) : Prop :=
  ∃ (i : Nat) (R : Heap), i ≤ 4 ∧ s.env 1 = .pointer (some ⟨p, 0, none⟩) ∧ s.env 2 = .pointer (some ⟨kb, 0, none⟩) ∧ s.env 3 = .int .i64 i ∧ Own H (fun _ => none) s.heap R ∧ Que R p (iterT i ⟨[⟨1, 2, 5, false⟩], 0⟩) ∧ s.heap kb = some (.row true 0 [.int .u16 1, .int .u32 2] 0) ∧ R kb = none
set_option maxHeartbeats 2000000 in
theorem known22_c (H : Heap) : ECalls Try.prog 6 #[] H fun v H' => v = .bool true ∧ Heap.le H H' := by
  refine ecalls_of_ewp (args := []) Try.func6 rfl rfl rfl (by simp [Try.ntmps6]) (by kernel_rfl) ?_
  simp (disch := first | omega | assumption | decide | (simp <;> omega) | fail) [facts, ]
  refine (queNew_c H).mono ?_
  rintro v H1 ⟨p, R1, rfl, ow1, d1⟩
  simp (disch := first | omega | assumption | decide | (simp <;> omega) | fail) [facts, ]
  refine fresh_intro fun kb hkb => ?_
  have nG := upd_same H1 kb (.row true 0 [.int .u16 1, .int .u32 2] 0)
  have ow1' := ow1.grow (le_upd (.row true 0 [.int .u16 1, .int .u32 2] 0) hkb)
  have nR := le_of_none ow1.le hkb
  try simp (disch := first | omega | assumption | decide | (simp <;> omega) | fail) [facts, upd_upd]
  generalize upd H1 kb (.row true 0 [.int .u16 1, .int .u32 2] 0) = G1 at *
  refine (quePut_c ow1'.le d1 1 2 5 (by decide)).mono ?_
  rintro v H2 ⟨rfl, R2, ow2, d2⟩
  obtain ⟨nR2, nG2⟩ := ow2.mv kb _ nR nG
  replace ow2 := ow1'.trans ow2
  rw [show putE ⟨[], 0⟩ 1 2 = 0 from rfl]
  replace d2 : Que R2 p ⟨[⟨1, 2, 5, true⟩], 0⟩ := d2
  simp (disch := first | omega | assumption | decide | (simp <;> omega) | fail) [facts, nG2]
  refine (quePut_c ow2.le d2 1 2 6 (by decide)).mono ?_
  rintro v H3 ⟨rfl, R3, ow3, d3⟩
  obtain ⟨nR3, nG3⟩ := ow3.mv kb _ nR2 nG2
  replace ow3 := ow2.trans ow3
  rw [show putE ⟨[⟨1, 2, 5, true⟩], 0⟩ 1 2 = 31 from rfl]
  replace d3 : Que R3 p ⟨[⟨1, 2, 5, true⟩], 0⟩ := d3
  simp (disch := first | omega | assumption | decide | (simp <;> omega) | fail) [facts, nG3]
  refine (queOut_c ow3.le d3 (by decide)).mono ?_
  rintro v H4 ⟨R4, ow4, d4, l4⟩
  obtain ⟨nR4, nG4⟩ := ow4.mv kb _ nR3 nG3
  replace ow4 := ow3.trans ow4
  obtain ⟨_, _, rfl, _, _⟩ := l4.sl ow4.le
  replace d4 : Que R4 p ⟨[⟨1, 2, 5, false⟩], 0⟩ := d4
  rw [show (List.filter (fun x => x.w) (⟨[⟨1, 2, 5, true⟩], 0⟩ : QS).l).length = 1 from rfl]
  simp (disch := first | omega | assumption | decide | (simp <;> omega) | fail) [facts, nG4]
  refine (queOut_c ow4.le d4 (by decide)).mono ?_
  rintro v H5 ⟨R5, ow5, d5, l5⟩
  obtain ⟨nR5, nG5⟩ := ow5.mv kb _ nR4 nG4
  replace ow5 := ow4.trans ow5
  obtain ⟨_, _, rfl, _, _⟩ := l5.sl ow5.le
  replace d5 : Que R5 p (iterT 0 ⟨[⟨1, 2, 5, false⟩], 0⟩) := d5
  rw [show (List.filter (fun x => x.w) (⟨[⟨1, 2, 5, false⟩], 0⟩ : QS).l).length = 0 from rfl]
  simp (disch := first | omega | assumption | decide | (simp <;> omega) | fail) [facts, nG5]
  refine w_loop (kn22Inv H p kb) (fun s => 4 - (intOf (s.env 3)).toNat) ?_ ?_
  · exact ⟨0, R5, Nat.zero_le _, by simp, by simp, by simp, ow5, d5, nG5, nR5⟩
  clear ow5 d5 nG5 nR5 ow4 d4 nG4 nR4 ow3 d3 nG3 nR3 ow2 d2 nG2 nR2 ow1' ow1 d1 nG nR l4 l5
  rintro ⟨env, G⟩ ⟨i, R, hi, e1, e2, e3, ow, d, nG, nR⟩
  simp only at e1 e2 e3 ow nG
  by_cases hlt : i < 4
  · have hltI : (i : Int) < 4 := by omega
    have hk := iterT_k ⟨[⟨1, 2, 5, false⟩], 0⟩ (by decide) i
    simp (disch := first | omega | assumption | decide | (simp <;> omega) | fail) [facts, e1, e2, e3, hltI]
    refine (queTick_c ow.le d (by rw [iterT_len]; decide) (by omega)).mono ?_
    rintro v H6 ⟨R6, ow6, d6⟩
    obtain ⟨nR6, nG6⟩ := ow6.mv kb _ nR nG
    simp (disch := first | omega | assumption | decide | (simp <;> omega) | fail) [facts, e1, e2, e3]
    exact ⟨_, Heap.le_refl _, ⟨i + 1, R6, by omega, by simp [e1], by simp [e2], by simp, ow.trans ow6, d6, nG6, nR6⟩, by simp [intOf, e3]; omega⟩
  · have hie : i = 4 := by omega
    subst hie
    replace d : Que R p ⟨[⟨1, 2, 5, true⟩], 0⟩ := d
    simp (disch := first | omega | assumption | decide | (simp <;> omega) | fail) [facts, e1, e2, e3]
    refine (queOut_c ow.le d (by decide)).mono ?_
    rintro v H7 ⟨R7, ow7, d7, l7⟩
    obtain ⟨nR7, nG7⟩ := ow7.mv kb _ nR nG
    replace ow7 := ow.trans ow7
    obtain ⟨a7, c7, rfl, sl7, _⟩ := l7.sl ow7.le
    replace d7 : Que R7 p ⟨[⟨1, 2, 5, false⟩], 0⟩ := d7
    replace sl7 : SlA H7 a7 1 3 (rowsC QZ.it [⟨1, 2, 5, true⟩]) := sl7
    rw [show (List.filter (fun x => x.w) (⟨[⟨1, 2, 5, true⟩], 0⟩ : QS).l).length = 1 from rfl]
    obtain ⟨b7, o7, rfl⟩ := sl7.lit (by decide)
    have r1 : rdNU (H7 b7) o7 2 = some [.int .u16 1, .int .u32 2] := sl7.el it3 (k := 0) rfl (j := 0) (r := 2) (by decide) (by decide)
    have r2 : rd1U (H7 b7) (o7 + 2) = some (.int .i64 5) := sl7.el1 it3 (k := 0) rfl (j := 2) (by decide)
    simp (disch := first | omega | assumption | decide | (simp <;> omega) | fail) [facts, e1, e2, e3]
    refine w_plan (P := Try.prog) (by simp [facts]) (opsP [0,1,2,3,4,5,6] (.both (opsP [7,8,9,10,11,12,13,14,15,16,17,18,19,20,21,22,23,24,25,26,27,28,29,30,31,32,33,34,35] .done) (opsP [8,7,9,10,11,12,13,14,15,16,17,18,19,20,21,22,23,24,25,26,27,28,29,30,31,32,33,34,35] .done))) ?_ ?_
    · decide +kernel
    simp (disch := first | omega | assumption | decide | (simp <;> omega) | fail) [facts, e1, e2, e3, r1, r2, nG7]
    constructor
    all_goals
      refine (queAck_c ow7.le d7 1 2 (by decide)).mono ?_
      rintro v H8 ⟨rfl, R8, ow8, d8⟩
      obtain ⟨nR8, nG8⟩ := ow8.mv kb _ nR7 nG7
      replace ow8 := ow7.trans ow8
      rw [show (idxQ 1 2 (⟨[⟨1, 2, 5, false⟩], 0⟩ : QS).l).isSome = true from rfl]
      replace d8 : Que R8 p ⟨[], 0⟩ := d8
      simp (disch := first | omega | assumption | decide | (simp <;> omega) | fail) [facts, e1, e2, e3, nG8]
      refine (queAck_c ow8.le d8 1 2 (by decide)).mono ?_
      rintro v H9 ⟨rfl, R9, ow9, d9⟩
      replace ow9 := ow8.trans ow9
      rw [show (idxQ 1 2 (⟨[], 0⟩ : QS).l).isSome = false from rfl]
      replace d9 : Que R9 p ⟨[], 0⟩ := d9
      simp (disch := first | omega | assumption | decide | (simp <;> omega) | fail) [facts, e1, e2, e3]
      refine (queAll_c ow9.le d9 (by decide)).mono ?_
      rintro v H10 ⟨R10, ow10, d10, l10⟩
      replace ow10 := ow9.trans ow10
      obtain ⟨_, _, rfl, _, _⟩ := l10.sl ow10.le
      simp (disch := first | omega | assumption | decide | (simp <;> omega) | fail) [facts, e1, e2, e3]
      exact ⟨_, Heap.le_refl _, ow10.all⟩
end Go.Proofs.Ythejhhllpjfojaa.GL
