/- Layer 21: the document's ledger: keep. -/
import Derived.Test.YtdeffhibolcebaaLeL
namespace Go.Proofs.Ytdeffhibolcebaa.GL
open Go Go.RowKit Go.MapKept
set_option maxRecDepth 10000
set_option pp.deepTerms.threshold 8
set_option pp.maxSteps 3000
set_option linter.unusedSimpArgs false
set_option linter.unusedVariables false

def kp (i1 i2 l1 l2 a1 a2 p1 p2 s1 s2 : Nat) (v1 v2 : Value) (x1 x2 x1' x2' : LX) (y1 y2 : List Value) : KP :=
  ⟨fun q => cond q i1 i2, fun q => cond q l1 l2, fun q => cond q a1 a2, fun q => cond q p1 p2, fun q => cond q s1 s2, fun q => cond q v1 v2, fun q => cond q x1 x2, fun q => cond q x1' x2', fun q => cond q y1 y2⟩
set_option maxHeartbeats 2000000 in
theorem keep_c {H R : Heap} {p : Nat} {F : List Acc} {L : List LE} (hR : Heap.le R H) (h : RLed R p F L) (e : LE) (hn : L.length ≤ 1000000) : ECalls Try.prog 21 #[.pointer (some ⟨p, 0, none⟩), .agg #[.int .u16 e.t, .int .u32 e.s], .string e.ans, .int .i64 (ofE F e), .int .i64 e.net] H
    fun v H' => v = .tuple #[] ∧ ∃ R', Own H R H' R' ∧ RLed R' p F (L ++ [e]) := by
  refine ecalls_of_ewp (args := [_, _, _, _, _]) Try.func21 rfl rfl rfl (by simp [Try.ntmps21]) (by kernel_rfl) ?_
  obtain ⟨v0, v1, v2, v3, v4, v5, hr, hl⟩ := h.open
  simp (disch := first | omega | assumption | decide | (simp <;> omega) | fail) [facts, ]
  refine fresh_intro fun kb hkb => ?_
  have hle := le_upd (.row true 0 [.int .u16 e.t, .int .u32 e.s] 0) hkb
  have hk := upd_same H kb (.row true 0 [.int .u16 e.t, .int .u32 e.s] 0)
  generalize upd H kb (.row true 0 [.int .u16 e.t, .int .u32 e.s] 0) = H1 at *
  have hR1 := Heap.le_trans hR hle
  have hkR : R kb = none := le_of_none hR hkb
  obtain ⟨P, hP⟩ : ∃ P, P = kp 2 3 5 12 7 14 8 15 18 21 v2 v3 (2, L.length, rowsC LE.key L) (1, L.length, L.map fun e => .string e.ans) (2, L.length + 1, rowsC LE.key L ++ e.key) (1, L.length + 1, (L.map fun e => .string e.ans) ++ [.string e.ans]) e.key [.string e.ans] := ⟨_, rfl⟩
  have kok : KOk P [v0, v1, v2, v3, v4, v5] (rxs F L) := by
    subst hP
    refine ⟨by simp [kp], fun q => by cases q <;> rfl, fun q => by cases q <;> rfl, fun q r => by cases q <;> cases r <;> simp [kp], fun q => by cases q <;> simp [kp]⟩
  simp (disch := first | omega | assumption | decide | (simp <;> omega) | fail) [facts, ]
  refine w_vals (C := KC) (by simp [facts]) (by decide +kernel) (fun c => [.pointer (some ⟨p, 0, none⟩), .pointer (some ⟨p, 0, none⟩), .pointer (some ⟨p, 0, none⟩), .pointer (some ⟨p, 0, none⟩), .pointer (some ⟨p, 2, none⟩), v2, .agg #[.int .u16 e.t, .int .u32 e.s], .slice (some ⟨c.b true, 0, none⟩) 1 1, c.w true,
    .pointer (some ⟨p, 0, none⟩), .pointer (some ⟨p, 0, none⟩), .pointer (some ⟨p, 3, none⟩), v3, .string e.ans, .slice (some ⟨c.b false, 0, none⟩) 1 1, c.w false, .pointer (some ⟨p, 0, none⟩), .pointer (some ⟨p, 2, none⟩), undef, .pointer (some ⟨p, 0, none⟩), .pointer (some ⟨p, 3, none⟩), undef]) (KI P H1 R p [v0, v1, v2, v3, v4, v5] (rxs F L)) ⟨fun _ => 0, fun _ => undef, R⟩ ?_ ?_ ?_
  · exact KI.init kok hR1 hr hl _ _
  · simp only [allFrom_cons, allFrom_nil, putAll_cons, putAll_nil]
    refine ⟨?_, ?_, ?_, ?_, ?_, ?_, ?_, ?_, ?_, ?_, ?_, ?_, ?_, ?_, ?_, ?_, ?_, ?_, ?_, ?_, ?_, ?_, trivial⟩
    all_goals (subst hP; unfold stepV; intro c g Hx hg hr' hI)
    · simp (disch := first | omega | assumption | decide | (simp <;> omega) | fail) [facts, ]
      exact endV_same (by rintro d ⟨⟩; simp (disch := first | omega | assumption | decide | (simp <;> omega) | fail) [facts, ]) (hI.same 0 (fun q => by cases q <;> simp [kp]))
    · simp (disch := first | omega | assumption | decide | (simp <;> omega) | fail) [facts, ]
      exact endV_same (by rintro d ⟨⟩; simp (disch := first | omega | assumption | decide | (simp <;> omega) | fail) [facts, ]) (hI.same 1 (fun q => by cases q <;> simp [kp]))
    · simp (disch := first | omega | assumption | decide | (simp <;> omega) | fail) [facts, ]
      exact endV_same (by rintro d ⟨⟩; simp (disch := first | omega | assumption | decide | (simp <;> omega) | fail) [facts, ]) (hI.same 2 (fun q => by cases q <;> simp [kp]))
    · simp (disch := first | omega | assumption | decide | (simp <;> omega) | fail) [facts, ]
      exact endV_same (by rintro d ⟨⟩; simp (disch := first | omega | assumption | decide | (simp <;> omega) | fail) [facts, ]) (hI.same 3 (fun q => by cases q <;> simp [kp]))
    · simp (disch := first | omega | assumption | decide | (simp <;> omega) | fail) [facts, ]
      exact endV_same (by rintro d ⟨⟩; simp (disch := first | omega | assumption | decide | (simp <;> omega) | fail) [facts, ]) (hI.same 4 (fun q => by cases q <;> simp [kp]))
    · have rf : rd1U (Hx p) 2 = some v2 := hI.rd kok true hg
      simp (disch := first | omega | assumption | decide | (simp <;> omega) | fail) [facts, rf]
      exact endV_same (by rintro d ⟨⟩; simp (disch := first | omega | assumption | decide | (simp <;> omega) | fail) [facts, ]) (hI.same 5 (fun q => by cases q <;> simp [kp]))
    · have hfx := (hI.own.mv _ _ hkR hk).2
      simp (disch := first | omega | assumption | decide | (simp <;> omega) | fail) [facts, hfx]
      exact endV_same (by rintro d ⟨⟩; simp (disch := first | omega | assumption | decide | (simp <;> omega) | fail) [facts, ]) (hI.same 6 (fun q => by cases q <;> simp [kp]))
    · simp (disch := first | omega | assumption | decide | (simp <;> omega) | fail) [facts, ]
      refine fresh_intro fun b hb => ?_
      rw [show splice (zeros [.int .u16 0, .int .u32 0] 1) 0 [.int .u16 e.t, .int .u32 e.s] = e.key from rfl]
      simp (disch := first | omega | assumption | decide | (simp <;> omega) | fail) [facts, ]
      have hb2 := hI.build kok true hb
      exact endV_to (c.setb true b) (by rintro d ⟨⟩; simp (disch := first | omega | assumption | decide | (simp <;> omega) | fail) [facts, KC.setb]) (fun t ht => by have ht2 : t ≠ 17 := fun e' => ht (by rw [e']); simp [setE, KC.setb, ht2]) hb2
    · have ga : g 7 = true := hr' ⟨7, .data⟩ (by simp) (by decide)
      simp (disch := first | omega | assumption | decide | (simp <;> omega) | fail) [facts, ]
      refine hI.app kok true ga hg (e := 38) (nbs := 8) (z := .agg #[.int .u16 0, .int .u32 0]) (by simp [facts]) (by simp [facts]) (by simp [facts]) (by simp [facts]) (by simp [facts]) (by simp) (by decide) rfl rfl rfl rfl (by omega) ?_
      intro w R' H' hI'
      simp (disch := first | omega | assumption | decide | (simp <;> omega) | fail) [facts, ]
      exact endV_to (c.setw true w R') (by rintro d ⟨⟩; simp (disch := first | omega | assumption | decide | (simp <;> omega) | fail) [facts, KC.setw]) (fun t ht => by have ht2 : t ≠ 18 := fun e' => ht (by rw [e']); simp [setE, KC.setw, ht2]) hI'
    · simp (disch := first | omega | assumption | decide | (simp <;> omega) | fail) [facts, ]
      exact endV_same (by rintro d ⟨⟩; simp (disch := first | omega | assumption | decide | (simp <;> omega) | fail) [facts, ]) (hI.same 9 (fun q => by cases q <;> simp [kp]))
    · simp (disch := first | omega | assumption | decide | (simp <;> omega) | fail) [facts, ]
      exact endV_same (by rintro d ⟨⟩; simp (disch := first | omega | assumption | decide | (simp <;> omega) | fail) [facts, ]) (hI.same 10 (fun q => by cases q <;> simp [kp]))
    · simp (disch := first | omega | assumption | decide | (simp <;> omega) | fail) [facts, ]
      exact endV_same (by rintro d ⟨⟩; simp (disch := first | omega | assumption | decide | (simp <;> omega) | fail) [facts, ]) (hI.same 11 (fun q => by cases q <;> simp [kp]))
    · have rf : rd1U (Hx p) 3 = some v3 := hI.rd kok false hg
      simp (disch := first | omega | assumption | decide | (simp <;> omega) | fail) [facts, rf]
      exact endV_same (by rintro d ⟨⟩; simp (disch := first | omega | assumption | decide | (simp <;> omega) | fail) [facts, ]) (hI.same 12 (fun q => by cases q <;> simp [kp]))
    · simp (disch := first | omega | assumption | decide | (simp <;> omega) | fail) [facts, ]
      exact endV_same (by rintro d ⟨⟩; simp (disch := first | omega | assumption | decide | (simp <;> omega) | fail) [facts, ]) (hI.same 13 (fun q => by cases q <;> simp [kp]))
    · simp (disch := first | omega | assumption | decide | (simp <;> omega) | fail) [facts, ]
      refine fresh_intro fun b hb => ?_
      skip
      simp (disch := first | omega | assumption | decide | (simp <;> omega) | fail) [facts, ]
      have hb2 := hI.build kok false hb
      exact endV_to (c.setb false b) (by rintro d ⟨⟩; simp (disch := first | omega | assumption | decide | (simp <;> omega) | fail) [facts, KC.setb]) (fun t ht => by have ht2 : t ≠ 24 := fun e' => ht (by rw [e']); simp [setE, KC.setb, ht2]) hb2
    · have ga : g 14 = true := hr' ⟨14, .data⟩ (by simp) (by decide)
      simp (disch := first | omega | assumption | decide | (simp <;> omega) | fail) [facts, ]
      refine hI.app kok false ga hg (e := 9) (nbs := 16) (z := .string ByteArray.empty) (by simp [facts]) (by simp [facts]) (by simp [facts]) (by simp [facts]) (by simp [facts]) (by simp) (by decide) rfl rfl rfl rfl (by omega) ?_
      intro w R' H' hI'
      simp (disch := first | omega | assumption | decide | (simp <;> omega) | fail) [facts, ]
      exact endV_to (c.setw false w R') (by rintro d ⟨⟩; simp (disch := first | omega | assumption | decide | (simp <;> omega) | fail) [facts, KC.setw]) (fun t ht => by have ht2 : t ≠ 25 := fun e' => ht (by rw [e']); simp [setE, KC.setw, ht2]) hI'
    · simp (disch := first | omega | assumption | decide | (simp <;> omega) | fail) [facts, ]
      exact endV_same (by rintro d ⟨⟩; simp (disch := first | omega | assumption | decide | (simp <;> omega) | fail) [facts, ]) (hI.same 16 (fun q => by cases q <;> simp [kp]))
    · simp (disch := first | omega | assumption | decide | (simp <;> omega) | fail) [facts, ]
      exact endV_same (by rintro d ⟨⟩; simp (disch := first | omega | assumption | decide | (simp <;> omega) | fail) [facts, ]) (hI.same 17 (fun q => by cases q <;> simp [kp]))
    · have gp : g 8 = true := hr' ⟨8, .data⟩ (by simp) (by decide)
      have gl : g 5 = true := hr' ⟨5, .phase⟩ (by simp) (by decide)
      simp (disch := first | omega | assumption | decide | (simp <;> omega) | fail) [facts, ]
      refine hI.storeU kok true gp gl rfl ?_
      intro R' H' hI'
      simp (disch := first | omega | assumption | decide | (simp <;> omega) | fail) [facts, ]
      exact endV_to ⟨c.b, c.w, R'⟩ (by rintro d ⟨⟩) (fun t ht => by dsimp only) hI'
    · simp (disch := first | omega | assumption | decide | (simp <;> omega) | fail) [facts, ]
      exact endV_same (by rintro d ⟨⟩; simp (disch := first | omega | assumption | decide | (simp <;> omega) | fail) [facts, ]) (hI.same 19 (fun q => by cases q <;> simp [kp]))
    · simp (disch := first | omega | assumption | decide | (simp <;> omega) | fail) [facts, ]
      exact endV_same (by rintro d ⟨⟩; simp (disch := first | omega | assumption | decide | (simp <;> omega) | fail) [facts, ]) (hI.same 20 (fun q => by cases q <;> simp [kp]))
    · have gp : g 15 = true := hr' ⟨15, .data⟩ (by simp) (by decide)
      have gl : g 12 = true := hr' ⟨12, .phase⟩ (by simp) (by decide)
      simp (disch := first | omega | assumption | decide | (simp <;> omega) | fail) [facts, ]
      refine hI.storeU kok false gp gl rfl ?_
      intro R' H' hI'
      simp (disch := first | omega | assumption | decide | (simp <;> omega) | fail) [facts, ]
      exact endV_to ⟨c.b, c.w, R'⟩ (by rintro d ⟨⟩) (fun t ht => by dsimp only) hI'
  intro c g H2 hall hI
  obtain ⟨ow2, row2, lst2⟩ := hI.done (fun q => by subst hP; cases q <;> exact hall _ (by simp [kp]))
  have ev : set2 P [v0, v1, v2, v3, v4, v5] c.w = [v0, v1, c.w true, c.w false, v4, v5] := by subst hP; rfl
  have ex : set2 P (rxs F L) P.x' = [(1, F.length, F.map fun x => .string x.1), (1, F.length, F.map fun x => .int .i64 x.2), (2, L.length + 1, rowsC LE.key L ++ e.key), (1, L.length + 1, (L.map fun e => .string e.ans) ++ [.string e.ans]), (1, L.length, L.map fun e => .int .i64 (ofE F e)), (1, L.length, L.map fun e => .int .i64 e.net)] := by subst hP; rfl
  rw [ev] at row2 lst2
  rw [ex] at lst2
  clear ev ex hI kok
  clear hP
  clear P
  generalize c.w true = w2 at *
  generalize c.w false = w3 at *
  generalize c.R = R2 at *
  obtain ⟨xs2, hxs2⟩ : ∃ xs2 : List LX, xs2 = [(1, F.length, F.map fun x => .string x.1), (1, F.length, F.map fun x => .int .i64 x.2), (2, L.length + 1, rowsC LE.key L ++ e.key), (1, L.length + 1, (L.map fun e => .string e.ans) ++ [.string e.ans]), (1, L.length, L.map fun e => .int .i64 (ofE F e)), (1, L.length, L.map fun e => .int .i64 e.net)] := ⟨_, rfl⟩
  rw [← hxs2] at lst2
  obtain ⟨P, hP⟩ : ∃ P, P = kp 4 5 5 12 7 14 8 15 18 21 v4 v5 (1, L.length, L.map fun e => .int .i64 (ofE F e)) (1, L.length, L.map fun e => .int .i64 e.net) (1, L.length + 1, (L.map fun e => .int .i64 (ofE F e)) ++ [.int .i64 (ofE F e)]) (1, L.length + 1, (L.map fun e => .int .i64 e.net) ++ [.int .i64 e.net]) [.int .i64 (ofE F e)] [.int .i64 e.net] := ⟨_, rfl⟩
  have kok : KOk P [v0, v1, w2, w3, v4, v5] xs2 := by
    subst hP hxs2
    refine ⟨by simp [kp], fun q => by cases q <;> rfl, fun q => by cases q <;> rfl, fun q r => by cases q <;> cases r <;> simp [kp], fun q => by cases q <;> simp [kp]⟩
  simp only [putAll_cons, putAll_nil]
  simp (disch := first | omega | assumption | decide | (simp <;> omega) | fail) [facts, ]
  refine w_vals (C := KC) (by simp [facts]) (by decide +kernel) (fun c => [.pointer (some ⟨p, 0, none⟩), .pointer (some ⟨p, 0, none⟩), .pointer (some ⟨p, 0, none⟩), .pointer (some ⟨p, 0, none⟩), .pointer (some ⟨p, 4, none⟩), v4, .int .i64 (ofE F e), .slice (some ⟨c.b true, 0, none⟩) 1 1, c.w true,
    .pointer (some ⟨p, 0, none⟩), .pointer (some ⟨p, 0, none⟩), .pointer (some ⟨p, 5, none⟩), v5, .int .i64 e.net, .slice (some ⟨c.b false, 0, none⟩) 1 1, c.w false, .pointer (some ⟨p, 0, none⟩), .pointer (some ⟨p, 4, none⟩), undef, .pointer (some ⟨p, 0, none⟩), .pointer (some ⟨p, 5, none⟩), undef]) (KI P H2 R2 p [v0, v1, w2, w3, v4, v5] xs2) ⟨fun _ => 0, fun _ => undef, R2⟩ ?_ ?_ ?_
  · exact KI.init kok ow2.le row2 lst2 _ _
  · simp only [allFrom_cons, allFrom_nil, putAll_cons, putAll_nil]
    refine ⟨?_, ?_, ?_, ?_, ?_, ?_, ?_, ?_, ?_, ?_, ?_, ?_, ?_, ?_, ?_, ?_, ?_, ?_, ?_, ?_, ?_, ?_, trivial⟩
    all_goals (subst hP; unfold stepV; intro c g Hx hg hr' hI)
    · simp (disch := first | omega | assumption | decide | (simp <;> omega) | fail) [facts, ]
      exact endV_same (by rintro d ⟨⟩; simp (disch := first | omega | assumption | decide | (simp <;> omega) | fail) [facts, ]) (hI.same 0 (fun q => by cases q <;> simp [kp]))
    · simp (disch := first | omega | assumption | decide | (simp <;> omega) | fail) [facts, ]
      exact endV_same (by rintro d ⟨⟩; simp (disch := first | omega | assumption | decide | (simp <;> omega) | fail) [facts, ]) (hI.same 1 (fun q => by cases q <;> simp [kp]))
    · simp (disch := first | omega | assumption | decide | (simp <;> omega) | fail) [facts, ]
      exact endV_same (by rintro d ⟨⟩; simp (disch := first | omega | assumption | decide | (simp <;> omega) | fail) [facts, ]) (hI.same 2 (fun q => by cases q <;> simp [kp]))
    · simp (disch := first | omega | assumption | decide | (simp <;> omega) | fail) [facts, ]
      exact endV_same (by rintro d ⟨⟩; simp (disch := first | omega | assumption | decide | (simp <;> omega) | fail) [facts, ]) (hI.same 3 (fun q => by cases q <;> simp [kp]))
    · simp (disch := first | omega | assumption | decide | (simp <;> omega) | fail) [facts, ]
      exact endV_same (by rintro d ⟨⟩; simp (disch := first | omega | assumption | decide | (simp <;> omega) | fail) [facts, ]) (hI.same 4 (fun q => by cases q <;> simp [kp]))
    · have rf : rd1U (Hx p) 4 = some v4 := hI.rd kok true hg
      simp (disch := first | omega | assumption | decide | (simp <;> omega) | fail) [facts, rf]
      exact endV_same (by rintro d ⟨⟩; simp (disch := first | omega | assumption | decide | (simp <;> omega) | fail) [facts, ]) (hI.same 5 (fun q => by cases q <;> simp [kp]))
    · simp (disch := first | omega | assumption | decide | (simp <;> omega) | fail) [facts, ]
      exact endV_same (by rintro d ⟨⟩; simp (disch := first | omega | assumption | decide | (simp <;> omega) | fail) [facts, ]) (hI.same 6 (fun q => by cases q <;> simp [kp]))
    · simp (disch := first | omega | assumption | decide | (simp <;> omega) | fail) [facts, ]
      refine fresh_intro fun b hb => ?_
      skip
      simp (disch := first | omega | assumption | decide | (simp <;> omega) | fail) [facts, ]
      have hb2 := hI.build kok true hb
      exact endV_to (c.setb true b) (by rintro d ⟨⟩; simp (disch := first | omega | assumption | decide | (simp <;> omega) | fail) [facts, KC.setb]) (fun t ht => by have ht2 : t ≠ 37 := fun e' => ht (by rw [e']); simp [setE, KC.setb, ht2]) hb2
    · have ga : g 7 = true := hr' ⟨7, .data⟩ (by simp) (by decide)
      simp (disch := first | omega | assumption | decide | (simp <;> omega) | fail) [facts, ]
      refine hI.app kok true ga hg (e := 3) (nbs := 8) (z := .int .i64 0) (by simp [facts]) (by simp [facts]) (by simp [facts]) (by simp [facts]) (by simp [facts]) (by simp) (by decide) rfl rfl rfl rfl (by omega) ?_
      intro w R' H' hI'
      simp (disch := first | omega | assumption | decide | (simp <;> omega) | fail) [facts, ]
      exact endV_to (c.setw true w R') (by rintro d ⟨⟩; simp (disch := first | omega | assumption | decide | (simp <;> omega) | fail) [facts, KC.setw]) (fun t ht => by have ht2 : t ≠ 38 := fun e' => ht (by rw [e']); simp [setE, KC.setw, ht2]) hI'
    · simp (disch := first | omega | assumption | decide | (simp <;> omega) | fail) [facts, ]
      exact endV_same (by rintro d ⟨⟩; simp (disch := first | omega | assumption | decide | (simp <;> omega) | fail) [facts, ]) (hI.same 9 (fun q => by cases q <;> simp [kp]))
    · simp (disch := first | omega | assumption | decide | (simp <;> omega) | fail) [facts, ]
      exact endV_same (by rintro d ⟨⟩; simp (disch := first | omega | assumption | decide | (simp <;> omega) | fail) [facts, ]) (hI.same 10 (fun q => by cases q <;> simp [kp]))
    · simp (disch := first | omega | assumption | decide | (simp <;> omega) | fail) [facts, ]
      exact endV_same (by rintro d ⟨⟩; simp (disch := first | omega | assumption | decide | (simp <;> omega) | fail) [facts, ]) (hI.same 11 (fun q => by cases q <;> simp [kp]))
    · have rf : rd1U (Hx p) 5 = some v5 := hI.rd kok false hg
      simp (disch := first | omega | assumption | decide | (simp <;> omega) | fail) [facts, rf]
      exact endV_same (by rintro d ⟨⟩; simp (disch := first | omega | assumption | decide | (simp <;> omega) | fail) [facts, ]) (hI.same 12 (fun q => by cases q <;> simp [kp]))
    · simp (disch := first | omega | assumption | decide | (simp <;> omega) | fail) [facts, ]
      exact endV_same (by rintro d ⟨⟩; simp (disch := first | omega | assumption | decide | (simp <;> omega) | fail) [facts, ]) (hI.same 13 (fun q => by cases q <;> simp [kp]))
    · simp (disch := first | omega | assumption | decide | (simp <;> omega) | fail) [facts, ]
      refine fresh_intro fun b hb => ?_
      skip
      simp (disch := first | omega | assumption | decide | (simp <;> omega) | fail) [facts, ]
      have hb2 := hI.build kok false hb
      exact endV_to (c.setb false b) (by rintro d ⟨⟩; simp (disch := first | omega | assumption | decide | (simp <;> omega) | fail) [facts, KC.setb]) (fun t ht => by have ht2 : t ≠ 44 := fun e' => ht (by rw [e']); simp [setE, KC.setb, ht2]) hb2
    · have ga : g 14 = true := hr' ⟨14, .data⟩ (by simp) (by decide)
      simp (disch := first | omega | assumption | decide | (simp <;> omega) | fail) [facts, ]
      refine hI.app kok false ga hg (e := 2) (nbs := 8) (z := .int .i64 0) (by simp [facts]) (by simp [facts]) (by simp [facts]) (by simp [facts]) (by simp [facts]) (by simp) (by decide) rfl rfl rfl rfl (by omega) ?_
      intro w R' H' hI'
      simp (disch := first | omega | assumption | decide | (simp <;> omega) | fail) [facts, ]
      exact endV_to (c.setw false w R') (by rintro d ⟨⟩; simp (disch := first | omega | assumption | decide | (simp <;> omega) | fail) [facts, KC.setw]) (fun t ht => by have ht2 : t ≠ 45 := fun e' => ht (by rw [e']); simp [setE, KC.setw, ht2]) hI'
    · simp (disch := first | omega | assumption | decide | (simp <;> omega) | fail) [facts, ]
      exact endV_same (by rintro d ⟨⟩; simp (disch := first | omega | assumption | decide | (simp <;> omega) | fail) [facts, ]) (hI.same 16 (fun q => by cases q <;> simp [kp]))
    · simp (disch := first | omega | assumption | decide | (simp <;> omega) | fail) [facts, ]
      exact endV_same (by rintro d ⟨⟩; simp (disch := first | omega | assumption | decide | (simp <;> omega) | fail) [facts, ]) (hI.same 17 (fun q => by cases q <;> simp [kp]))
    · have gp : g 8 = true := hr' ⟨8, .data⟩ (by simp) (by decide)
      have gl : g 5 = true := hr' ⟨5, .phase⟩ (by simp) (by decide)
      simp (disch := first | omega | assumption | decide | (simp <;> omega) | fail) [facts, ]
      refine hI.storeU kok true gp gl rfl ?_
      intro R' H' hI'
      simp (disch := first | omega | assumption | decide | (simp <;> omega) | fail) [facts, ]
      exact endV_to ⟨c.b, c.w, R'⟩ (by rintro d ⟨⟩) (fun t ht => by dsimp only) hI'
    · simp (disch := first | omega | assumption | decide | (simp <;> omega) | fail) [facts, ]
      exact endV_same (by rintro d ⟨⟩; simp (disch := first | omega | assumption | decide | (simp <;> omega) | fail) [facts, ]) (hI.same 19 (fun q => by cases q <;> simp [kp]))
    · simp (disch := first | omega | assumption | decide | (simp <;> omega) | fail) [facts, ]
      exact endV_same (by rintro d ⟨⟩; simp (disch := first | omega | assumption | decide | (simp <;> omega) | fail) [facts, ]) (hI.same 20 (fun q => by cases q <;> simp [kp]))
    · have gp : g 15 = true := hr' ⟨15, .data⟩ (by simp) (by decide)
      have gl : g 12 = true := hr' ⟨12, .phase⟩ (by simp) (by decide)
      simp (disch := first | omega | assumption | decide | (simp <;> omega) | fail) [facts, ]
      refine hI.storeU kok false gp gl rfl ?_
      intro R' H' hI'
      simp (disch := first | omega | assumption | decide | (simp <;> omega) | fail) [facts, ]
      exact endV_to ⟨c.b, c.w, R'⟩ (by rintro d ⟨⟩) (fun t ht => by dsimp only) hI'
  intro c g H3 hall hI
  obtain ⟨ow3, row3, lst3⟩ := hI.done (fun q => by subst hP; cases q <;> exact hall _ (by simp [kp]))
  have ev : set2 P [v0, v1, w2, w3, v4, v5] c.w = [v0, v1, w2, w3, c.w true, c.w false] := by subst hP; rfl
  have ex : set2 P xs2 P.x' = rxs F (L ++ [e]) := by
    subst hP hxs2
    unfold rxs
    rw [rowsC_app, rowsC_single]
    simp [set2, kp]
  rw [ev] at row3 lst3
  rw [ex] at lst3
  simp only [putAll_cons, putAll_nil]
  simp (disch := first | omega | assumption | decide | (simp <;> omega) | fail) [facts, ]
  exact ⟨_, Heap.le_refl _, _, (((Own.refl hR).grow hle).trans ow2).trans ow3, _, row3, lst3⟩
end Go.Proofs.Ytdeffhibolcebaa.GL
