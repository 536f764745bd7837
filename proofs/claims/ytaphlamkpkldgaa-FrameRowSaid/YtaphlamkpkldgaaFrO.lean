/- Layer 4: the chapter's example. -/
import Derived.Test.YtaphlamkpkldgaaFrN
namespace Go.Proofs.Ytaphlamkpkldgaa.GL
open Go Go.RowKit
set_option maxRecDepth 10000
set_option pp.deepTerms.threshold 8
set_option pp.maxSteps 3000
set_option linter.unusedSimpArgs false
set_option linter.unusedVariables false

def putE (r : RZ) : Int := if r.right = true then 0 else 27
def putX (r : RZ) : List UInt8 := if r.right = true then putB r else []
theorem fputA_c (r : RZ) (H : Heap) (hw : r.wf) (hp : r.pan.size ≤ 140737488351232) : ECalls Try.prog 10 #[.agg #[.int .i64 r.kind, .int .u16 r.t, .int .u32 r.s, .string r.pan, .int .i64 r.am, .int .i64 r.ns.a, .int .i64 r.ns.b, .int .i64 r.ns.c, .int .i64 r.ns.d, .int .i64 r.rs.a, .int .i64 r.rs.b, .int .i64 r.rs.c, .int .i64 r.rs.d, .int .i64 r.ls.a, .int .i64 r.ls.b, .int .i64 r.ls.c, .int .i64 r.ls.d]] H fun v H' => ∃ sv, v = .tuple #[sv, .int .i64 (putE r)] ∧ ResB H H' sv (putX r) := by
  cases hr : r.right with
  | true =>
    refine (fput_c r H hr hw).mono ?_
    rintro v H' ⟨sv, R, rfl, ow, hl⟩
    exact ⟨sv, by simp [putE, hr], R, ow, by simpa [putX, hr, LB] using hl⟩
  | false =>
    refine (fput_no r H hr hp).mono ?_
    rintro v H' ⟨rfl, hl⟩
    exact ⟨.slice none 0 0, by simp [putE, hr], _, Own.nil hl, by simp only [putX, hr]; exact .inl ⟨rfl, rfl, rfl⟩⟩
theorem rputA_c (r : RZ) (H : Heap) (hw : r.wf) (hp : r.pan.size ≤ 140737488351232) : ECalls Try.prog 11 #[.agg #[.int .i64 r.kind, .int .u16 r.t, .int .u32 r.s, .string r.pan, .int .i64 r.am, .int .i64 r.ns.a, .int .i64 r.ns.b, .int .i64 r.ns.c, .int .i64 r.ns.d, .int .i64 r.rs.a, .int .i64 r.rs.b, .int .i64 r.rs.c, .int .i64 r.rs.d, .int .i64 r.ls.a, .int .i64 r.ls.b, .int .i64 r.ls.c, .int .i64 r.ls.d]] H fun v H' => ∃ sv, v = .tuple #[sv, .int .i64 (putE r)] ∧ ResB H H' sv (putX r) := by
  cases hr : r.right with
  | true =>
    refine (rput_c r H hr hw).mono ?_
    rintro v H' ⟨sv, rfl, h⟩
    exact ⟨sv, by simp [putE, hr], by simpa [putX, hr] using h⟩
  | false =>
    refine (rput_no r H hr hp).mono ?_
    rintro v H' ⟨rfl, hl⟩
    exact ⟨.slice none 0 0, by simp [putE, hr], _, Own.nil hl, by simp only [putX, hr]; exact .inl ⟨rfl, rfl, rfl⟩⟩
theorem putB_len (r : RZ) : (putB r).length = 42 + r.pan.size := by
  have := bodyB_len r
  simp [putB, bytesL_len]; omega
theorem pan_le {r : RZ} (hr : r.right = true) : r.pan.size ≤ 19 := by
  simp only [RZ.right, Bool.and_eq_true, decide_eq_true_eq] at hr
  exact hr.1.1.1.1.1.1.2
theorem recS_R (a b c d : Nat) (h2 : b < 256) (h3 : c < 256) : putE (recS a b c d) = 0 ∧ putX (recS a b c d) = putB (recS a b c d) := by
  have := (recS_right a b c d h2 h3).1
  simp [putE, putX, this]
theorem ba_beq (x y : ByteArray) : (x == y) = decide (x = y) := by
  rw [← mkS_of x, ← mkS_of y, str_beq]
  simp only [mkS_inj]
theorem ba_self (x : ByteArray) : (x == x) = true := by rw [ba_beq]; simp
attribute [simp] ba_self
theorem crc_known : crcN [49, 50, 51, 52, 53, 54, 55, 56, 57] = 3808858755 := by decide +kernel
theorem zero_right : zeroZ.right = false := by decide
set_option maxHeartbeats 4000000 in
theorem known_c (H : Heap) : ECalls Try.prog 8 #[] H fun v H' => v = .bool true ∧ Heap.le H H' := by
  refine ecalls_of_ewp (args := []) Try.func8 rfl rfl rfl (by simp [Try.ntmps8]) (by kernel_rfl) ?_
  obtain ⟨r, hr⟩ : ∃ r, r = recS 0 1 2 300 := ⟨_, rfl⟩
  have hrr : r.right = true := by rw [hr]; exact (recS_right 0 1 2 300 (by decide) (by decide)).1
  have hrw : r.wf := by rw [hr]; exact (recS_right 0 1 2 300 (by decide) (by decide)).2
  have hpl := pan_le hrr
  have hE : putE r = 0 := by simp [putE, hrr]
  have hX : putX r = putB r := by simp [putX, hrr]
  simp (disch := first | omega | assumption | decide | (simp <;> omega) | fail) [facts, ]
  refine (rec_c 0 1 2 300 (by decide) (by decide) (by decide) (by decide) H r hr).mono ?_
  rintro v H1 ⟨rfl, hl1⟩
  simp (disch := first | omega | assumption | decide | (simp <;> omega) | fail) [facts, ]
  refine fresh_intro fun b1 hb1 => ?_
  simp (disch := first | omega | assumption | decide | (simp <;> omega) | fail) [facts, upd_upd]
  have r1 := upd_same H1 b1 (.row true 0 [.int .i64 r.kind, .int .u16 r.t, .int .u32 r.s, .string r.pan, .int .i64 r.am, .int .i64 r.ns.a, .int .i64 r.ns.b, .int .i64 r.ns.c, .int .i64 r.ns.d, .int .i64 r.rs.a, .int .i64 r.rs.b, .int .i64 r.rs.c, .int .i64 r.rs.d, .int .i64 r.ls.a, .int .i64 r.ls.b, .int .i64 r.ls.c, .int .i64 r.ls.d] 0)
  have hl2 := le_upd (.row true 0 [.int .i64 r.kind, .int .u16 r.t, .int .u32 r.s, .string r.pan, .int .i64 r.am, .int .i64 r.ns.a, .int .i64 r.ns.b, .int .i64 r.ns.c, .int .i64 r.ns.d, .int .i64 r.rs.a, .int .i64 r.rs.b, .int .i64 r.rs.c, .int .i64 r.rs.d, .int .i64 r.ls.a, .int .i64 r.ls.b, .int .i64 r.ls.c, .int .i64 r.ls.d] 0) hb1
  generalize upd H1 b1 (.row true 0 [.int .i64 r.kind, .int .u16 r.t, .int .u32 r.s, .string r.pan, .int .i64 r.am, .int .i64 r.ns.a, .int .i64 r.ns.b, .int .i64 r.ns.c, .int .i64 r.ns.d, .int .i64 r.rs.a, .int .i64 r.rs.b, .int .i64 r.rs.c, .int .i64 r.rs.d, .int .i64 r.ls.a, .int .i64 r.ls.b, .int .i64 r.ls.c, .int .i64 r.ls.d] 0) = H2 at *
  refine (fputA_c r H2 hrw (by omega)).mono ?_
  rintro v H3 ⟨sv, rfl, R, ow, hl⟩
  rw [hE]
  rw [hX] at hl
  obtain ⟨a, c, rfl, hsa, hc⟩ := LstR.sl hl ow.le
  have r1c := ow.all _ _ r1
  have hput := read_put r hrr hrw []
  rw [List.append_nil] at hput
  have hlen := putB_len r
  simp (disch := first | omega | assumption | decide | (simp <;> omega) | fail) [facts, ]
  refine (fread_c a _ c (putB r) H3 hsa hc (by omega) r _ 0 hput).mono ?_
  rintro v H4 ⟨rfl, hl4⟩
  simp (disch := first | omega | assumption | decide | (simp <;> omega) | fail) [facts, ]
  refine fresh_intro fun b4 hb4 => ?_
  simp (disch := first | omega | assumption | decide | (simp <;> omega) | fail) [facts, upd_upd]
  have r4 := upd_same H4 b4 (.row true 0 [.int .i64 r.kind, .int .u16 r.t, .int .u32 r.s, .string r.pan, .int .i64 r.am, .int .i64 r.ns.a, .int .i64 r.ns.b, .int .i64 r.ns.c, .int .i64 r.ns.d, .int .i64 r.rs.a, .int .i64 r.rs.b, .int .i64 r.rs.c, .int .i64 r.rs.d, .int .i64 r.ls.a, .int .i64 r.ls.b, .int .i64 r.ls.c, .int .i64 r.ls.d] 0)
  have hl5 := le_upd (.row true 0 [.int .i64 r.kind, .int .u16 r.t, .int .u32 r.s, .string r.pan, .int .i64 r.am, .int .i64 r.ns.a, .int .i64 r.ns.b, .int .i64 r.ns.c, .int .i64 r.ns.d, .int .i64 r.rs.a, .int .i64 r.rs.b, .int .i64 r.rs.c, .int .i64 r.rs.d, .int .i64 r.ls.a, .int .i64 r.ls.b, .int .i64 r.ls.c, .int .i64 r.ls.d] 0) hb4
  have r1d := hl5 _ _ (hl4 _ _ r1c)
  generalize upd H4 b4 (.row true 0 [.int .i64 r.kind, .int .u16 r.t, .int .u32 r.s, .string r.pan, .int .i64 r.am, .int .i64 r.ns.a, .int .i64 r.ns.b, .int .i64 r.ns.c, .int .i64 r.ns.d, .int .i64 r.rs.a, .int .i64 r.rs.b, .int .i64 r.rs.c, .int .i64 r.rs.d, .int .i64 r.ls.a, .int .i64 r.ls.b, .int .i64 r.ls.c, .int .i64 r.ls.d] 0) = H5 at *
  refine fresh_intro fun b5 hb5 => ?_
  simp (disch := first | omega | assumption | decide | (simp <;> omega) | fail) [facts, ]
  have r5 := upd_same H5 b5 (.row true 0 [.int .u8 165] 0)
  have hl6 := le_upd (.row true 0 [.int .u8 165] 0) hb5
  have r4b := hl6 _ _ r4
  have r1e := hl6 _ _ r1d
  generalize upd H5 b5 (.row true 0 [.int .u8 165] 0) = H6 at *
  refine (fread_c _ 1 1 [165] H6 (SlA.row r5 (Nat.le_refl _) rfl (by simp) rfl) (by decide) (by decide) zeroZ 0 23 rfl).mono ?_
  rintro v H7 ⟨rfl, hl7⟩
  have r4c := hl7 _ _ r4b
  have r1f := hl7 _ _ r1e
  simp (disch := first | omega | assumption | decide | (simp <;> omega) | fail) [facts, ]
  refine fresh_intro fun b7 hb7 => ?_
  simp (disch := first | omega | assumption | decide | (simp <;> omega) | fail) [facts, upd_upd]
  have hl8 := le_upd (.row true 0 [.int .i64 zeroZ.kind, .int .u16 zeroZ.t, .int .u32 zeroZ.s, .string zeroZ.pan, .int .i64 zeroZ.am, .int .i64 zeroZ.ns.a, .int .i64 zeroZ.ns.b, .int .i64 zeroZ.ns.c, .int .i64 zeroZ.ns.d, .int .i64 zeroZ.rs.a, .int .i64 zeroZ.rs.b, .int .i64 zeroZ.rs.c, .int .i64 zeroZ.rs.d, .int .i64 zeroZ.ls.a, .int .i64 zeroZ.ls.b, .int .i64 zeroZ.ls.c, .int .i64 zeroZ.ls.d] 0) hb7
  have r4d := hl8 _ _ r4c
  have r1g := hl8 _ _ r1f
  generalize upd H7 b7 (.row true 0 [.int .i64 zeroZ.kind, .int .u16 zeroZ.t, .int .u32 zeroZ.s, .string zeroZ.pan, .int .i64 zeroZ.am, .int .i64 zeroZ.ns.a, .int .i64 zeroZ.ns.b, .int .i64 zeroZ.ns.c, .int .i64 zeroZ.ns.d, .int .i64 zeroZ.rs.a, .int .i64 zeroZ.rs.b, .int .i64 zeroZ.rs.c, .int .i64 zeroZ.rs.d, .int .i64 zeroZ.ls.a, .int .i64 zeroZ.ls.b, .int .i64 zeroZ.ls.c, .int .i64 zeroZ.ls.d] 0) = H8 at *
  refine fresh_intro fun b9 hb9 => ?_
  simp (disch := first | omega | assumption | decide | (simp <;> omega) | fail) [facts, upd_upd]
  have hcv := crc_known
  have r9 := upd_same H8 b9 (.row false 0 [.int .u8 49, .int .u8 50, .int .u8 51, .int .u8 52, .int .u8 53, .int .u8 54, .int .u8 55, .int .u8 56, .int .u8 57] 0)
  have hl9 := le_upd (.row false 0 [.int .u8 49, .int .u8 50, .int .u8 51, .int .u8 52, .int .u8 53, .int .u8 54, .int .u8 55, .int .u8 56, .int .u8 57] 0) hb9
  have r4e := hl9 _ _ r4d
  have r1h := hl9 _ _ r1g
  generalize upd H8 b9 (.row false 0 [.int .u8 49, .int .u8 50, .int .u8 51, .int .u8 52, .int .u8 53, .int .u8 54, .int .u8 55, .int .u8 56, .int .u8 57] 0) = H9 at *
  refine (sum_c _ 9 9 [49, 50, 51, 52, 53, 54, 55, 56, 57] H9 (SlA.row r9 (Nat.le_refl _) rfl (by simp) rfl) (by decide)).mono ?_
  rintro v H10 ⟨rfl, rfl⟩
  rw [hcv]
  simp (disch := first | omega | assumption | decide | (simp <;> omega) | fail) [facts, r4e, r1h]
  refine (right_c r H10 (by omega)).mono ?_
  rintro v H11 ⟨rfl, hl11⟩
  rw [hrr]
  simp (disch := first | omega | assumption | decide | (simp <;> omega) | fail) [facts, ]
  refine (right_c zeroZ H11 (by decide)).mono ?_
  rintro v H12 ⟨rfl, hl12⟩
  rw [zero_right]
  simp (disch := first | omega | assumption | decide | (simp <;> omega) | fail) [facts, ]
  exact ⟨_, Heap.le_refl _, Heap.le_trans hl1 (Heap.le_trans hl2 (Heap.le_trans ow.all (Heap.le_trans hl4 (Heap.le_trans hl5 (Heap.le_trans hl6 (Heap.le_trans hl7 (Heap.le_trans hl8 (Heap.le_trans hl9 (Heap.le_trans hl11 hl12)))))))))⟩
end Go.Proofs.Ytaphlamkpkldgaa.GL
