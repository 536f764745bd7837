/- Layer 3: a disk's calls, whole; the chapter's example. -/
import Derived.Test.YtobkfpohdknggaaDiE
namespace Go.Proofs.Ytobkfpohdknggaa.GL
open Go Go.RowKit
set_option maxRecDepth 10000
set_option pp.deepTerms.threshold 8
set_option pp.maxSteps 3000
set_option linter.unusedSimpArgs false
set_option linter.unusedVariables false

def oneH (b : Nat) (o : GObj) : Heap := upd (fun _ => none) b o
theorem oneH_le {H : Heap} {b : Nat} {o : GObj} (h : H b = some o) : Heap.le (oneH b o) H := fun i p e => by
  unfold oneH at e
  by_cases hi : i = b
  · subst hi; rw [upd_same] at e; rw [h, e]
  · rw [upd_ne _ _ hi] at e; cases e
theorem oneH_off {R : Heap} {b : Nat} {o : GObj} (h : R b = none) : Off (oneH b o) R := fun i p e => by
  unfold oneH at e
  by_cases hi : i = b
  · subst hi; exact h
  · rw [upd_ne _ _ hi] at e; cases e
theorem Own.fresh {H R H1 R1 : Heap} (a : Own H R H1 R1) {b : Nat} (hb : H1 b = none) : R1 b = none := le_of_none a.le hb
theorem Own.all {H H1 R1 : Heap} (a : Own H (fun _ => none) H1 R1) : Heap.le H H1 := fun b o h => (a.mv b o rfl h).2
theorem Own.off {H H1 R1 : Heap} (a : Own H (fun _ => none) H1 R1) : Off H R1 := fun b o h => (a.mv b o rfl h).1

def writeE (d : DZ) (n : Int) : Int := if outZ d n ≠ 0 then outZ d n else powE d
def writeD (d : DZ) (n : Int) (bs : List UInt8) : DZ := if outZ d n ≠ 0 then d else if (powZ d).down = true then powZ d else writeZ d n.toNat (secOf bs)
def syncE (d : DZ) : Int := if d.down = true then 22 else powE d
def syncD (d : DZ) : DZ := if d.down = true then d else if (powZ d).down = true then powZ d else syncZ d
section
variable {H R F : Heap} {p : Nat} {d : DZ}
theorem outZ_zero {n : Int} (h : outZ d n = 0) : d.down = false ∧ ∃ j : Nat, n = j ∧ j < d.kept.length := by
  unfold outZ at h
  cases hd : d.down with
  | true => rw [hd] at h; simp at h
  | false =>
    rw [hd] at h
    simp at h
    exact ⟨rfl, n.toNat, by omega, by omega⟩
theorem diskWrite_c (hR : Heap.le R H) (h : Dsk R p d) (hF : Heap.le F H) (hoff : Off F R) (m : Int) {a : Option Addr} {n c : Nat} {bs : List UInt8} (hb : ByA F a n bs) (hn : n ≤ 1000000) (hw : d.wait.length ≤ 1000000) :
    ECalls Try.prog 9 #[.pointer (some ⟨p, 0, none⟩), .int .i64 m, .slice a n c] H fun v H' => v = .int .i64 (writeE d m) ∧ ∃ R', Own H R H' R' ∧ Dsk R' p (writeD d m bs) := by
  unfold writeE writeD
  by_cases ho : outZ d m = 0
  · obtain ⟨hdn, j, rfl, hj⟩ := outZ_zero ho
    cases hpw : (powZ d).down with
    | true =>
      refine (diskWrite_down hR h (j : Int) (.slice a n c) ho hpw).mono ?_
      rintro v H' ⟨rfl, R', h1, h2⟩
      refine ⟨by simp [ho, powE, hpw], R', h1, ?_⟩
      simpa [ho, hpw] using h2
    | false =>
      refine (diskWrite_in hR h hF hoff j hb hn hj hdn hpw hw).mono ?_
      rintro v H' ⟨rfl, R', h1, h2⟩
      refine ⟨by simp [ho, powE, hpw], R', h1, ?_⟩
      simpa [ho, hpw] using h2
  · refine (diskWrite_out hR h m (.slice a n c) ho).mono ?_
    rintro v H' ⟨rfl, rfl⟩
    exact ⟨by rw [if_pos ho], R, Own.refl hR, by rw [if_pos ho]; exact h⟩
theorem diskSync_c (hR : Heap.le R H) (h : Dsk R p d) (hw : d.wait.length ≤ 1000000) :
    ECalls Try.prog 13 #[.pointer (some ⟨p, 0, none⟩)] H fun v H' => v = .int .i64 (syncE d) ∧ ∃ R', Own H R H' R' ∧ Dsk R' p (syncD d) := by
  unfold syncE syncD
  cases hdn : d.down with
  | true =>
    refine (diskSync_down hR h hdn).mono ?_
    rintro v H' ⟨rfl, rfl⟩
    exact ⟨by simp, R, Own.refl hR, by simpa using h⟩
  | false =>
    cases hpw : (powZ d).down with
    | true =>
      refine (diskSync_off hR h hdn hpw).mono ?_
      rintro v H' ⟨rfl, R', h1, h2⟩
      exact ⟨by simp [powE, hpw], R', h1, by simpa using h2⟩
    | false =>
      refine (diskSync_ok hR h hdn hpw hw).mono ?_
      rintro v H' ⟨rfl, R', h1, h2⟩
      exact ⟨by simp [powE, hpw], R', h1, by simpa using h2⟩
end
set_option maxHeartbeats 1000000 in
theorem known3_c (H : Heap) : ECalls Try.prog 7 #[] H fun v H' => v = .bool true ∧ Heap.le H H' := by
  refine ecalls_of_ewp (args := []) Try.func7 rfl rfl rfl (by simp [Try.ntmps7]) (by kernel_rfl) ?_
  simp (disch := first | omega | assumption | decide | (simp <;> omega) | fail) [facts, ]
  refine (diskNew_c H 2).mono ?_
  rintro v H1 ⟨p, R1, rfl, ow1, d1⟩
  replace d1 : Dsk R1 p (newZ 2) := d1
  simp (disch := first | omega | assumption | decide | (simp <;> omega) | fail) [facts, ]
  refine fresh_intro fun b1 hb1 => ?_
  have l1 := upd_same H1 b1 (.row false 0 [.int .u8 97, .int .u8 98] 0)
  have ow1' := ow1.grow (le_upd (.row false 0 [.int .u8 97, .int .u8 98] 0) hb1)
  have n1 := ow1.fresh hb1
  simp (disch := first | omega | assumption | decide | (simp <;> omega) | fail) [facts, upd_upd]
  generalize upd H1 b1 (.row false 0 [.int .u8 97, .int .u8 98] 0) = G1 at *
  refine (diskWrite_c ow1'.le d1 (oneH_le l1) (oneH_off n1) 0 (a := some ⟨b1, 0, none⟩) (n := 2) (bs := [97, 98]) (.inl (SlA.row (upd_same _ _ _) (Nat.le_refl _) rfl (by decide) rfl)) (by decide) (by decide)).mono ?_
  rintro v H2 ⟨rfl, R2, ow2, d2⟩
  replace ow2 := ow1'.trans ow2
  rw [show writeE (newZ 2) 0 = 0 from rfl]
  replace d2 : Dsk R2 p ⟨[secOf [], secOf []], [secOf [97, 98], secOf []], [⟨0, secOf [97, 98]⟩], -1, false⟩ := d2
  simp (disch := first | omega | assumption | decide | (simp <;> omega) | fail) [facts, ]
  refine (diskSync_c ow2.le d2 (by decide)).mono ?_
  rintro v H3 ⟨rfl, R3, ow3, d3⟩
  replace ow3 := ow2.trans ow3
  rw [show syncE ⟨[secOf [], secOf []], [secOf [97, 98], secOf []], [⟨0, secOf [97, 98]⟩], -1, false⟩ = 0 from rfl]
  replace d3 : Dsk R3 p ⟨[secOf [97, 98], secOf []], [secOf [97, 98], secOf []], [], -1, false⟩ := d3
  simp (disch := first | omega | assumption | decide | (simp <;> omega) | fail) [facts, ]
  refine fresh_intro fun b2 hb2 => ?_
  have l2 := upd_same H3 b2 (.row false 0 [.int .u8 99] 0)
  have ow3' := ow3.grow (le_upd (.row false 0 [.int .u8 99] 0) hb2)
  have n2 := ow3.fresh hb2
  simp (disch := first | omega | assumption | decide | (simp <;> omega) | fail) [facts, upd_upd]
  generalize upd H3 b2 (.row false 0 [.int .u8 99] 0) = G3 at *
  refine (diskWrite_c ow3'.le d3 (oneH_le l2) (oneH_off n2) 1 (a := some ⟨b2, 0, none⟩) (n := 1) (bs := [99]) (.inl (SlA.row (upd_same _ _ _) (Nat.le_refl _) rfl (by decide) rfl)) (by decide) (by decide)).mono ?_
  rintro v H4 ⟨rfl, R4, ow4, d4⟩
  replace ow4 := ow3'.trans ow4
  rw [show writeE ⟨[secOf [97, 98], secOf []], [secOf [97, 98], secOf []], [], -1, false⟩ 1 = 0 from rfl]
  replace d4 : Dsk R4 p ⟨[secOf [97, 98], secOf []], [secOf [97, 98], secOf [99]], [⟨1, secOf [99]⟩], -1, false⟩ := d4
  simp (disch := first | omega | assumption | decide | (simp <;> omega) | fail) [facts, ]
  refine (diskReopen_c ow4.le d4 (F := fun _ => none) (fun _ _ h => by cases h) Off.nil.symm (a := none) (n := 0) (c := 0) (ks := []) (.inl (SlA.nil _ _)) 0 (by decide) (by decide)).mono ?_
  rintro v H5 ⟨R5, ow5, d5⟩
  replace ow5 := ow4.trans ow5
  replace d5 : Dsk R5 p ⟨[secOf [97, 98], secOf []], [secOf [97, 98], secOf []], [], -1, false⟩ := d5
  simp (disch := first | omega | assumption | decide | (simp <;> omega) | fail) [facts, ]
  refine (diskRead_in ow5.le d5 0 rfl (s := secOf [97, 98]) rfl).mono ?_
  rintro v H6 ⟨hle6, a1, c1, rfl, out1⟩
  obtain ⟨_, _, e, sl1⟩ := out1.sl
  simp only [Value.slice.injEq] at e
  obtain ⟨rfl, _, rfl⟩ := e
  have ow6 := ow5.grow hle6
  simp (disch := first | omega | assumption | decide | (simp <;> omega) | fail) [facts, ]
  refine (diskRead_in ow6.le d5 1 rfl (s := secOf []) rfl).mono ?_
  rintro v H7 ⟨hle7, a2, c2, rfl, out2⟩
  obtain ⟨_, _, e, sl2⟩ := out2.sl
  simp only [Value.slice.injEq] at e
  obtain ⟨rfl, _, rfl⟩ := e
  have ow7 := ow6.grow hle7
  simp (disch := first | omega | assumption | decide | (simp <;> omega) | fail) [facts, ]
  refine (diskRead_out ow7.le d5 2 (by decide)).mono ?_
  rintro v H8 ⟨rfl, rfl⟩
  rw [show outZ ⟨[secOf [97, 98], secOf []], [secOf [97, 98], secOf []], [], -1, false⟩ 2 = 20 from rfl]
  replace sl1 := sl1.le hle7
  obtain ⟨q1, o1, rfl⟩ := sl1.lit (by decide)
  obtain ⟨q2, o2, rfl⟩ := sl2.lit (by decide)
  have r1 : rd1U (H8 q1) o1 = some (.int .u8 97) := sl1.get 0 (by decide)
  have r2 : rd1U (H8 q2) o2 = some (.int .u8 0) := sl2.get 0 (by decide)
  simp (disch := first | omega | assumption | decide | (simp <;> omega) | fail) [facts, r1, r2]
  refine (diskSectors_c ow7.le d5).mono ?_
  rintro v H9 ⟨rfl, rfl⟩
  simp (disch := first | omega | assumption | decide | (simp <;> omega) | fail) [facts, ]
  refine (diskDown_c ow7.le d5).mono ?_
  rintro v H9 ⟨rfl, rfl⟩
  simp (disch := first | omega | assumption | decide | (simp <;> omega) | fail) [facts, ]
  exact ⟨_, Heap.le_refl _, ow7.all⟩
end Go.Proofs.Ytobkfpohdknggaa.GL
