/- Layer 4: a body read. -/
import Derived.Test.YtaphlamkpkldgaaFrI
namespace Go.Proofs.Ytaphlamkpkldgaa.GL
open Go Go.RowKit
set_option maxRecDepth 10000
set_option pp.deepTerms.threshold 8
set_option pp.maxSteps 3000
set_option linter.unusedSimpArgs false
set_option linter.unusedVariables false

def recOf (x : List UInt8) : RZ := ⟨numN (x.take 1), numN ((x.drop 1).take 2), numN ((x.drop 3).take 4), mkS (x.drop 36), numN ((x.drop 7).take 4), nzAt (x.drop 11), nzAt (x.drop 19), nzAt (x.drop 27)⟩
theorem recOf_b (x : List UInt8) : (0 ≤ (recOf x).kind ∧ (recOf x).kind < 256) ∧ (0 ≤ (recOf x).t ∧ (recOf x).t < 65536) ∧ (0 ≤ (recOf x).s ∧ (recOf x).s < 4294967296) ∧ (0 ≤ (recOf x).am ∧ (recOf x).am < 4294967296) := by
  have h1 := numN_lt (bs := x.take 1) (m := 1) (by rw [List.length_take]; omega) (by decide)
  have h2 := numN_lt (bs := (x.drop 1).take 2) (m := 2) (by rw [List.length_take]; omega) (by decide)
  have h3 := numN_lt (bs := (x.drop 3).take 4) (m := 4) (by rw [List.length_take]; omega) (by decide)
  have h4 := numN_lt (bs := (x.drop 7).take 4) (m := 4) (by rw [List.length_take]; omega) (by decide)
  simp only [recOf]
  omega
theorem recOf_wf (x : List UInt8) : (recOf x).wf := by
  have := recOf_b x
  exact ⟨by omega, by omega⟩
theorem mkS_sz (l : List UInt8) : (mkS l).size = l.length := by simp [mkS, ByteArray.size]
theorem le_updN {D H : Heap} {b : Nat} (h : Heap.le D H) (hb : D b = none) (o : GObj) : Heap.le D (upd H b o) := fun i x e => by rw [upd_ne _ _ (ne_of_fresh hb e)]; exact h i x e
theorem rep13 : rep 13 (.int .i64 0) = [.int .i64 0, .int .i64 0, .int .i64 0, .int .i64 0, .int .i64 0, .int .i64 0, .int .i64 0, .int .i64 0, .int .i64 0, .int .i64 0, .int .i64 0, .int .i64 0, .int .i64 0] := rfl
attribute [simp] rep13
theorem fbody_no (a : Option Addr) (n c : Nat) (H : Heap) (hn : n < 36) :
    ECalls Try.prog 28 #[.slice a n c] H fun v H' => v = .tuple #[.agg #[.int .i64 0, .int .u16 0, .int .u32 0, .string ByteArray.empty, .int .i64 0, .int .i64 0, .int .i64 0, .int .i64 0, .int .i64 0, .int .i64 0, .int .i64 0, .int .i64 0, .int .i64 0, .int .i64 0, .int .i64 0, .int .i64 0, .int .i64 0], .bool false] ∧ Heap.le H H' := by
  refine ecalls_of_ewp (args := [_]) Try.func28 rfl rfl rfl (by simp [Try.ntmps28]) (by kernel_rfl) ?_
  have hnI : (n : Int) < 36 := by omega
  simp (disch := first | omega | assumption | decide | (simp <;> omega) | fail) [facts, ]
  refine fresh_intro fun b hb => ?_
  simp (disch := first | omega | assumption | decide | (simp <;> omega) | fail) [facts, hnI, upd_upd]
  exact ⟨_, Heap.le_refl _, le_upd _ hb⟩
theorem fbody_c (a : Option Addr) (n c : Nat) (bs : List UInt8) (H : Heap) (h : SlA H a n 1 (bs.map u8V)) (hc : n ≤ c) (hn : 36 ≤ n) (hb : n ≤ 1000) (r : RZ) (hr : r = recOf bs) :
    ECalls Try.prog 28 #[.slice a n c] H fun v H' => v = .tuple #[.agg #[.int .i64 r.kind, .int .u16 r.t, .int .u32 r.s, .string r.pan, .int .i64 r.am, .int .i64 r.ns.a, .int .i64 r.ns.b, .int .i64 r.ns.c, .int .i64 r.ns.d, .int .i64 r.rs.a, .int .i64 r.rs.b, .int .i64 r.rs.c, .int .i64 r.rs.d, .int .i64 r.ls.a, .int .i64 r.ls.b, .int .i64 r.ls.c, .int .i64 r.ls.d], .bool (decide (numN ((bs.drop 35).take 1) = n - 36) && r.right)] ∧ Heap.le H H' := by
  refine ecalls_of_ewp (args := [_]) Try.func28 rfl rfl rfl (by simp [Try.ntmps28]) (by kernel_rfl) ?_
  have hl : bs.length = n := by simpa using h.len
  have hnI : ¬ (n : Int) < 36 := by omega
  have hrb := recOf_b bs
  rw [← hr] at hrb
  obtain ⟨⟨k1, k2⟩, ⟨t1, t2⟩, ⟨s1', s2'⟩, ⟨a1, a2⟩⟩ := hrb
  have ek : ((numN (bs.take 1) : Nat) : Int) = r.kind := by rw [hr]; rfl
  have et : ((numN ((bs.drop 1).take 2) : Nat) : Int) = r.t := by rw [hr]; rfl
  have es : ((numN ((bs.drop 3).take 4) : Nat) : Int) = r.s := by rw [hr]; rfl
  have ea : ((numN ((bs.drop 7).take 4) : Nat) : Int) = r.am := by rw [hr]; rfl
  have ep : mkS (bs.drop 36) = r.pan := by rw [hr]; rfl
  simp (disch := first | omega | assumption | decide | (simp <;> omega) | fail) [facts, ]
  refine fresh_intro fun b2 hb2 => ?_
  have hl2 := le_upd (.row true 0 [.int .i64 0, .int .u16 0, .int .u32 0, .string ByteArray.empty, .int .i64 0, .int .i64 0, .int .i64 0, .int .i64 0, .int .i64 0, .int .i64 0, .int .i64 0, .int .i64 0, .int .i64 0, .int .i64 0, .int .i64 0, .int .i64 0, .int .i64 0] 0) hb2
  have hr2 := upd_same H b2 (.row true 0 [.int .i64 0, .int .u16 0, .int .u32 0, .string ByteArray.empty, .int .i64 0, .int .i64 0, .int .i64 0, .int .i64 0, .int .i64 0, .int .i64 0, .int .i64 0, .int .i64 0, .int .i64 0, .int .i64 0, .int .i64 0, .int .i64 0, .int .i64 0] 0)
  generalize hH2 : upd H b2 (.row true 0 [.int .i64 0, .int .u16 0, .int .u32 0, .string ByteArray.empty, .int .i64 0, .int .i64 0, .int .i64 0, .int .i64 0, .int .i64 0, .int .i64 0, .int .i64 0, .int .i64 0, .int .i64 0, .int .i64 0, .int .i64 0, .int .i64 0, .int .i64 0] 0) = H2 at *
  simp (disch := first | omega | assumption | decide | (simp <;> omega) | fail) [facts, hnI]
  refine fresh_intro fun p hp => ?_
  have hpH : H p = none := le_of_none hl2 hp
  have rd0 : RdS H (upd H2 p (.row true 0 [.slice a n c] 0)) p bs := ⟨Heap.le_trans hl2 (le_upd _ hp), hpH, a, c, by rw [upd_same, hl], by rw [hl]; exact h, by omega⟩
  have r2p := upd_other (o := .row true 0 [.slice a n c] 0) hp hr2
  have h2p : b2 ≠ p := ne_of_fresh hp hr2
  generalize upd H2 p (.row true 0 [.slice a n c] 0) = H3 at *
  simp (disch := first | omega | assumption | decide | (simp <;> omega) | fail) [facts, ]
  refine (rnum_c H H3 p 1 bs rd0 (by omega) (by omega)).mono ?_
  rintro v H4 ⟨rfl, rd1, kp1⟩
  rw [ek]
  simp (disch := first | omega | assumption | decide | (simp <;> omega) | fail) [facts, ]
  refine (rnum_c H H4 p 2 (bs.drop 1) rd1 (by rw [List.length_drop]; omega) (by rw [List.length_drop]; omega)).mono ?_
  rintro v H5 ⟨rfl, rd2, kp2⟩
  rw [List.drop_drop] at rd2
  rw [et]
  simp (disch := first | omega | assumption | decide | (simp <;> omega) | fail) [facts, ]
  refine (rnum_c H H5 p 4 (bs.drop 3) rd2 (by rw [List.length_drop]; omega) (by rw [List.length_drop]; omega)).mono ?_
  rintro v H6 ⟨rfl, rd3, kp3⟩
  rw [List.drop_drop] at rd3
  rw [es]
  simp (disch := first | omega | assumption | decide | (simp <;> omega) | fail) [facts, ]
  refine (rnum_c H H6 p 4 (bs.drop 7) rd3 (by rw [List.length_drop]; omega) (by rw [List.length_drop]; omega)).mono ?_
  rintro v H7 ⟨rfl, rd4, kp4⟩
  rw [List.drop_drop] at rd4
  rw [ea]
  have kp := ((kp1.trans kp2).trans kp3).trans kp4
  have r7 := kp _ _ h2p r2p
  simp (disch := first | omega | assumption | decide | (simp <;> omega) | fail) [facts, ]
  refine fresh_intro fun b5 hb5 => ?_
  have h5p : b5 ≠ p := fun e => by
    subst e
    obtain ⟨_, _, hx, _⟩ := rd4.row
    rw [hx] at hb5; cases hb5
  have h52 : b5 ≠ b2 := (ne_of_fresh hb5 r7).symm
  have hb5H : H b5 = none := le_of_none rd4.le hb5
  simp (disch := first | omega | assumption | decide | (simp <;> omega) | fail) [facts, ]
  simp only [upd_upd]
  have rd5 := rd4.grow (le_upd (.row true 0 [.int .i64 r.kind, .int .u16 r.t, .int .u32 r.s, .string ByteArray.empty, .int .i64 r.am, .int .i64 0, .int .i64 0, .int .i64 0, .int .i64 0, .int .i64 0, .int .i64 0, .int .i64 0, .int .i64 0, .int .i64 0, .int .i64 0, .int .i64 0, .int .i64 0] 0) hb5)
  have r8 := upd_other (o := .row true 0 [.int .i64 r.kind, .int .u16 r.t, .int .u32 r.s, .string ByteArray.empty, .int .i64 r.am, .int .i64 0, .int .i64 0, .int .i64 0, .int .i64 0, .int .i64 0, .int .i64 0, .int .i64 0, .int .i64 0, .int .i64 0, .int .i64 0, .int .i64 0, .int .i64 0] 0) hb5 r7
  have r5 := upd_same H7 b5 (.row true 0 [.int .i64 r.kind, .int .u16 r.t, .int .u32 r.s, .string ByteArray.empty, .int .i64 r.am, .int .i64 0, .int .i64 0, .int .i64 0, .int .i64 0, .int .i64 0, .int .i64 0, .int .i64 0, .int .i64 0, .int .i64 0, .int .i64 0, .int .i64 0, .int .i64 0] 0)
  generalize upd H7 b5 (.row true 0 [.int .i64 r.kind, .int .u16 r.t, .int .u32 r.s, .string ByteArray.empty, .int .i64 r.am, .int .i64 0, .int .i64 0, .int .i64 0, .int .i64 0, .int .i64 0, .int .i64 0, .int .i64 0, .int .i64 0, .int .i64 0, .int .i64 0, .int .i64 0, .int .i64 0] 0) = H8 at *
  refine (rnotes_c H H8 p (bs.drop 11) rd5 (by rw [List.length_drop]; omega) (by rw [List.length_drop]; omega)).mono ?_
  rintro v H9 ⟨hv, rd6, kp6⟩
  obtain rfl : v = .agg #[.int .i64 r.ns.a, .int .i64 r.ns.b, .int .i64 r.ns.c, .int .i64 r.ns.d] := by rw [hv, hr]; rfl
  rw [List.drop_drop] at rd6
  simp (disch := first | omega | assumption | decide | (simp <;> omega) | fail) [facts, ]
  refine (rnotes_c H H9 p (bs.drop 19) rd6 (by rw [List.length_drop]; omega) (by rw [List.length_drop]; omega)).mono ?_
  rintro v H10 ⟨hv, rd7, kp7⟩
  obtain rfl : v = .agg #[.int .i64 r.rs.a, .int .i64 r.rs.b, .int .i64 r.rs.c, .int .i64 r.rs.d] := by rw [hv, hr]; rfl
  rw [List.drop_drop] at rd7
  simp (disch := first | omega | assumption | decide | (simp <;> omega) | fail) [facts, ]
  refine (rnotes_c H H10 p (bs.drop 27) rd7 (by rw [List.length_drop]; omega) (by rw [List.length_drop]; omega)).mono ?_
  rintro v H11 ⟨hv, rd8, kp8⟩
  obtain rfl : v = .agg #[.int .i64 r.ls.a, .int .i64 r.ls.b, .int .i64 r.ls.c, .int .i64 r.ls.d] := by rw [hv, hr]; rfl
  rw [List.drop_drop] at rd8
  have kpb := (kp6.trans kp7).trans kp8
  have r5' := kpb _ _ h5p r5
  have r2' := kpb _ _ h2p r8
  simp (disch := first | omega | assumption | decide | (simp <;> omega) | fail) [facts, r5', upd_upd]
  have rd9 := rd8.set hb5H h5p (.row true 0 [.int .i64 r.kind, .int .u16 r.t, .int .u32 r.s, .string ByteArray.empty, .int .i64 r.am, .int .i64 r.ns.a, .int .i64 r.ns.b, .int .i64 r.ns.c, .int .i64 r.ns.d, .int .i64 r.rs.a, .int .i64 r.rs.b, .int .i64 r.rs.c, .int .i64 r.rs.d, .int .i64 r.ls.a, .int .i64 r.ls.b, .int .i64 r.ls.c, .int .i64 r.ls.d] 0)
  have r5c := upd_same H11 b5 (.row true 0 [.int .i64 r.kind, .int .u16 r.t, .int .u32 r.s, .string ByteArray.empty, .int .i64 r.am, .int .i64 r.ns.a, .int .i64 r.ns.b, .int .i64 r.ns.c, .int .i64 r.ns.d, .int .i64 r.rs.a, .int .i64 r.rs.b, .int .i64 r.rs.c, .int .i64 r.rs.d, .int .i64 r.ls.a, .int .i64 r.ls.b, .int .i64 r.ls.c, .int .i64 r.ls.d] 0)
  have r2c : upd H11 b5 (.row true 0 [.int .i64 r.kind, .int .u16 r.t, .int .u32 r.s, .string ByteArray.empty, .int .i64 r.am, .int .i64 r.ns.a, .int .i64 r.ns.b, .int .i64 r.ns.c, .int .i64 r.ns.d, .int .i64 r.rs.a, .int .i64 r.rs.b, .int .i64 r.rs.c, .int .i64 r.rs.d, .int .i64 r.ls.a, .int .i64 r.ls.b, .int .i64 r.ls.c, .int .i64 r.ls.d] 0) b2 = _ := (upd_ne _ _ h52.symm).trans r2'
  generalize upd H11 b5 (.row true 0 [.int .i64 r.kind, .int .u16 r.t, .int .u32 r.s, .string ByteArray.empty, .int .i64 r.am, .int .i64 r.ns.a, .int .i64 r.ns.b, .int .i64 r.ns.c, .int .i64 r.ns.d, .int .i64 r.rs.a, .int .i64 r.rs.b, .int .i64 r.rs.c, .int .i64 r.rs.d, .int .i64 r.ls.a, .int .i64 r.ls.b, .int .i64 r.ls.c, .int .i64 r.ls.d] 0) = H12 at *
  refine (rnum_c H H12 p 1 (bs.drop 35) rd9 (by rw [List.length_drop]; omega) (by rw [List.length_drop]; omega)).mono ?_
  rintro v H13 ⟨rfl, rd10, kp10⟩
  rw [List.drop_drop] at rd10
  have hq := numN_lt (bs := (bs.drop 35).take 1) (m := 1) (by rw [List.length_take]; omega) (by decide)
  generalize numN ((bs.drop 35).take 1) = q at *
  have r5d := kp10 _ _ h5p r5c
  have r2d := kp10 _ _ h2p r2c
  obtain ⟨a6, c6, r6, hs6, hc6⟩ := rd10.row
  have hl6 : (bs.drop 36).length = n - 36 := by rw [List.length_drop, hl]
  rw [hl6] at r6 hs6
  simp (disch := first | omega | assumption | decide | (simp <;> omega) | fail) [facts, r6]
  rw [conv_bytes (by simp [facts]) (hs6.le rd10.le), ep]
  simp (disch := first | omega | assumption | decide | (simp <;> omega) | fail) [facts, r5d]
  have rd11 := rd10.set hb5H h5p (.row true 0 [.int .i64 r.kind, .int .u16 r.t, .int .u32 r.s, .string r.pan, .int .i64 r.am, .int .i64 r.ns.a, .int .i64 r.ns.b, .int .i64 r.ns.c, .int .i64 r.ns.d, .int .i64 r.rs.a, .int .i64 r.rs.b, .int .i64 r.rs.c, .int .i64 r.rs.d, .int .i64 r.ls.a, .int .i64 r.ls.b, .int .i64 r.ls.c, .int .i64 r.ls.d] 0)
  have r5e := upd_same H13 b5 (.row true 0 [.int .i64 r.kind, .int .u16 r.t, .int .u32 r.s, .string r.pan, .int .i64 r.am, .int .i64 r.ns.a, .int .i64 r.ns.b, .int .i64 r.ns.c, .int .i64 r.ns.d, .int .i64 r.rs.a, .int .i64 r.rs.b, .int .i64 r.rs.c, .int .i64 r.rs.d, .int .i64 r.ls.a, .int .i64 r.ls.b, .int .i64 r.ls.c, .int .i64 r.ls.d] 0)
  have r6e : upd H13 b5 (.row true 0 [.int .i64 r.kind, .int .u16 r.t, .int .u32 r.s, .string r.pan, .int .i64 r.am, .int .i64 r.ns.a, .int .i64 r.ns.b, .int .i64 r.ns.c, .int .i64 r.ns.d, .int .i64 r.rs.a, .int .i64 r.rs.b, .int .i64 r.rs.c, .int .i64 r.rs.d, .int .i64 r.ls.a, .int .i64 r.ls.b, .int .i64 r.ls.c, .int .i64 r.ls.d] 0) p = _ := (upd_ne _ _ h5p.symm).trans r6
  have r2e : upd H13 b5 (.row true 0 [.int .i64 r.kind, .int .u16 r.t, .int .u32 r.s, .string r.pan, .int .i64 r.am, .int .i64 r.ns.a, .int .i64 r.ns.b, .int .i64 r.ns.c, .int .i64 r.ns.d, .int .i64 r.rs.a, .int .i64 r.rs.b, .int .i64 r.rs.c, .int .i64 r.rs.d, .int .i64 r.ls.a, .int .i64 r.ls.b, .int .i64 r.ls.c, .int .i64 r.ls.d] 0) b2 = _ := (upd_ne _ _ h52.symm).trans r2d
  generalize upd H13 b5 (.row true 0 [.int .i64 r.kind, .int .u16 r.t, .int .u32 r.s, .string r.pan, .int .i64 r.am, .int .i64 r.ns.a, .int .i64 r.ns.b, .int .i64 r.ns.c, .int .i64 r.ns.d, .int .i64 r.rs.a, .int .i64 r.rs.b, .int .i64 r.rs.c, .int .i64 r.rs.d, .int .i64 r.ls.a, .int .i64 r.ls.b, .int .i64 r.ls.c, .int .i64 r.ls.d] 0) = H14 at *
  have hle14 := rd11.le
  refine w_plan (by simp [facts]) (opsP [1,2,3,4] (.both (opsP [0,5,6,7,8,9,10,11,12,13] .done) (opsP [5,6,7,8] (.both (opsP [0,9,10,11,12,13] .done) (opsP [9] (.both (opsP [0,10,11,12,13] .done) (opsP [10,11,0,12,13] .done))))))) (by decide +kernel) ?_
  have hps : r.pan.size = n - 36 := by rw [← ep, mkS_sz, hl6]
  by_cases hqn : q = n - 36
  · have hqI : (q : Int) = ((n - 36 : Nat) : Int) := by omega
    simp (disch := first | omega | assumption | decide | (simp <;> omega) | fail) [facts, r6e, r5e, hqI, hqn]
    repeat' apply And.intro
    all_goals
      refine (right_c r H14 (by omega)).mono ?_
      rintro v H15 ⟨rfl, hle15⟩
      have r5f := hle15 _ _ r5e
      have r2f := hle15 _ _ r2e
      simp (disch := first | omega | assumption | decide | (simp <;> omega) | fail) [facts, r5f, r2f]
      exact ⟨_, Heap.le_refl _, le_updN (Heap.le_trans hle14 hle15) hb2 _⟩
  · have hqI : ¬ (q : Int) = ((n - 36 : Nat) : Int) := by omega
    simp (disch := first | omega | assumption | decide | (simp <;> omega) | fail) [facts, r6e, r5e, hqI, hqn, r2e]
    exact ⟨_, Heap.le_refl _, le_updN hle14 hb2 _⟩
end Go.Proofs.Ytaphlamkpkldgaa.GL
