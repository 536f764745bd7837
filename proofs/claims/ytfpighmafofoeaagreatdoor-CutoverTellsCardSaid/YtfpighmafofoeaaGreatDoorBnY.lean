/- Layer 20: a new book.; Layer 20: a new book of the reference. -/
import Derived.Test.YtfpighmafofoeaaGreatDoorBnX
import Derived.Test.YtfpighmafofoeaaGreatDoorBrG
namespace Go.Proofs.YtfpighmafofoeaaGreatDoor.GL
open Go Go.RowKit
open Ca (S4 flat setV OkS CassOk COk Cs newS newC)
set_option maxRecDepth 10000
set_option pp.deepTerms.threshold 8
set_option pp.maxSteps 3000
set_option linter.unusedSimpArgs false
set_option linter.unusedVariables false

def tm0 (s : S4) : Tm := ⟨newS s, false, 0⟩
theorem ok_newS {s : S4} (h : CassOk s) : OkS (newS s) := by
  unfold CassOk COk at h
  unfold OkS Ca.OkC newS newC Ca.fewIn i64In
  simp only
  omega
theorem clone18_c (H : Heap) (b o n c : Nat) (cs : List Value) (h : SlA H (some ⟨b, o, none⟩) n 18 cs) (hone : cs.all (·.oneCell') = true) (hn : 0 < n) (hn2 : n ≤ 1000) :
    ECalls Tryz.prog 21 #[.slice (some ⟨b, o, none⟩) n c] H fun r H' => ∃ b' c' room, r = .slice (some ⟨b', 0, none⟩) n c' ∧ H b' = none ∧ H' b' = some (.row true 0 cs room) ∧ n ≤ c' ∧ c' * 18 ≤ n * 18 + room ∧ Heap.le H H' := by
  refine ecalls_of_ewp (args := [_]) Tryz.func21 rfl rfl rfl (by simp [Tryz.ntmps21]) (by kernel_rfl) ?_
  simp (disch := first | omega | assumption | decide | (simp <;> omega) | fail) [facts, ]
  refine fresh_intro fun b5 hb5 => ?_
  have hl5 := le_upd (.row true 0 (zeros [.int .i64 0, .int .i64 0, .int .i64 0, .int .i64 0, .int .i64 0, .int .i64 0, .int .i64 0, .int .i64 0, .int .i64 0, .int .i64 0, .int .i64 0, .int .i64 0, .int .i64 0, .int .i64 0, .int .i64 0, .int .i64 0, .bool false, .int .i64 0] 0) 0) hb5
  have r5 := upd_same H b5 (.row true 0 (zeros [.int .i64 0, .int .i64 0, .int .i64 0, .int .i64 0, .int .i64 0, .int .i64 0, .int .i64 0, .int .i64 0, .int .i64 0, .int .i64 0, .int .i64 0, .int .i64 0, .int .i64 0, .int .i64 0, .int .i64 0, .int .i64 0, .bool false, .int .i64 0] 0) 0)
  simp (disch := first | omega | assumption | decide | (simp <;> omega) | fail) [facts, ]
  generalize upd H b5 _ = H1 at *
  have s5 : SlA H1 (some ⟨b5, 0, none⟩) 0 18 [] := SlA.row r5 (Nat.le_refl _) rfl (by simp) (by simp)
  refine app_new (P := Tryz.prog) (e := 81) (s := 18) (nbs := 144) (z := .agg #[.int .i64 0, .int .i64 0, .int .i64 0, .int .i64 0, .int .i64 0, .int .i64 0, .int .i64 0, .int .i64 0, .int .i64 0, .int .i64 0, .int .i64 0, .int .i64 0, .int .i64 0, .int .i64 0, .int .i64 0, .int .i64 0, .bool false, .int .i64 0]) (m := 0) (n := n) (cs := []) (ys := cs) (by simp [facts]) (by simp [facts]) (by simp [facts]) (by simp [facts]) rfl (by decide) s5 (Heap.le_refl H1) (src_sl (e1 := 81) (z := .agg #[.int .i64 0, .int .i64 0, .int .i64 0, .int .i64 0, .int .i64 0, .int .i64 0, .int .i64 0, .int .i64 0, .int .i64 0, .int .i64 0, .int .i64 0, .int .i64 0, .int .i64 0, .int .i64 0, .int .i64 0, .int .i64 0, .bool false, .int .i64 0]) (by simp [facts]) (by simp [facts]) (by simp [facts]) (h.le hl5)) h.len hone hn (by omega) ?_
  intro b' c' room hb' hc' hf'
  rw [Nat.zero_add] at hc' hf' ⊢
  simp (disch := first | omega | assumption | decide | (simp <;> omega) | fail) [facts, ]
  exact ⟨_, Heap.le_refl _, b', c', ⟨rfl, rfl⟩, le_of_none hl5 hb', room, by simp, hc', hf', Heap.le_trans hl5 (le_upd _ hb')⟩
def bnInv (H1 : Heap) (b1 p m n : Nat) (ta : Option Addr) (tc : Nat) (T : List S4) (s : St) : Prop :=
  ∃ (j : Nat) (R : Heap) (fv : Value), j ≤ n ∧ s.env 1 = .pointer (some ⟨b1, 0, none⟩) ∧ s.env 3 = .pointer (some ⟨p, 0, none⟩) ∧ s.env 12 = .slice ta n tc ∧ s.env 13 = .int .i64 n ∧ s.env 14 = .int .i64 j ∧
    Own H1 (fun _ => none) s.heap R ∧ R p = some (.row true 0 [fv, .slice none 0 0, .map (some m)] 0) ∧ R m = some (.map []) ∧ LstR R fv 18 j (rowsC Tm.cells ((T.take j).map tm0)) ∧ blkV fv ≠ some p ∧ blkV fv ≠ some m
set_option maxHeartbeats 1600000 in
theorem bnew_c (v : Value) (T : List S4) (k : Nat) (U H : Heap) (hU : Heap.le U H) (hv : CfgV U v T k) (hT : T.length ≤ 8) (hT0 : 0 < T.length) (hk : k < 256) :
    ECalls Tryz.prog 6 #[v] H fun r H' => ∃ p R fv tv m, r = .pointer (some ⟨p, 0, none⟩) ∧ Own H (fun _ => none) H' R ∧ BookR R p fv tv m [] (T.map tm0) ∧ LstR R fv 18 T.length (rowsC Tm.cells (T.map tm0)) ∧ blkV fv ≠ some p ∧ blkV fv ≠ some m ∧ ∀ b, blkV fv = some b → blkV tv ≠ some b := by
  refine ecalls_of_ewp (args := [_]) Tryz.func6 rfl rfl rfl (by simp [Tryz.ntmps6]) (by kernel_rfl) ?_
  have hrt := fun H2 (hl : Heap.le H H2) => mright_c v T k U H2 (Heap.le_trans hU hl) hv hT hk
  obtain ⟨⟨tv, pv, fv, rfl, ht, hp, hf⟩, hok⟩ := hv
  obtain ⟨ta, tc, rfl, hts, _⟩ := ht.sl hU
  obtain ⟨pa, pc, rfl, hps, _⟩ := hp.sl hU
  obtain ⟨fa, fc, rfl, hfs, _⟩ := hf.sl hU
  obtain ⟨n, hn⟩ : ∃ n, n = T.length := ⟨_, rfl⟩
  rw [← hn] at hts hT hT0 hrt ⊢
  clear ht hp hf hps hfs
  simp (disch := first | omega | assumption | decide | (simp <;> omega) | fail) [facts, ]
  refine fresh_intro fun b1 hb1 => ?_
  have r1 := upd_same H b1 (.row true 0 [.slice ta n tc, .slice pa 4 pc, .slice fa 4 fc, .int .i64 500, .int .i64 100000] 0)
  have hl1 := le_upd (.row true 0 [.slice ta n tc, .slice pa 4 pc, .slice fa 4 fc, .int .i64 500, .int .i64 100000] 0) hb1
  generalize upd H b1 _ = H0 at *
  simp (disch := first | omega | assumption | decide | (simp <;> omega) | fail) [facts, ]
  refine .inl fun m hm => ?_
  have ow1 := Own.new (o := .map []) (Heap.le_refl H0) hm
  simp (disch := first | omega | assumption | decide | (simp <;> omega) | fail) [facts, ]
  refine fresh_intro fun p hp => ?_
  have qpm : p ≠ m := (ne_of_fresh hp (upd_same _ _ _)).symm
  have ow2 := ow1.add hp (.row true 0 [.slice none 0 0, .slice none 0 0, .map (some m)] 0)
  have rp2 := upd_same (upd (fun _ => none) m (.map [])) p (.row true 0 [.slice none 0 0, .slice none 0 0, .map (some m)] 0)
  have rm2 : upd (upd (fun _ => none) m (.map [])) p (.row true 0 [.slice none 0 0, .slice none 0 0, .map (some m)] 0) m = some (.map []) := by rw [upd_ne _ _ qpm.symm]; exact upd_same _ _ _
  generalize upd (upd H0 m _) p _ = G at *
  generalize upd (upd (fun _ => none) m _) p _ = R at *
  have r1G := ow2.all _ _ r1
  simp (disch := first | omega | assumption | decide | (simp <;> omega) | fail) [facts, r1G]
  refine (hrt G (Heap.le_trans hl1 ow2.all)).mono ?_
  rintro v G2 ⟨rfl, hle2⟩
  replace ow2 := ow2.grow hle2
  replace r1G := hle2 _ _ r1G
  simp (disch := first | omega | assumption | decide | (simp <;> omega) | fail) [facts, r1G]
  refine w_loop (bnInv H0 b1 p m n ta tc T) (fun st => n - (intOf (st.env 14)).toNat) ?_ ?_
  · exact ⟨0, R, .slice none 0 0, Nat.zero_le _, by simp, by simp, by simp, by simp, by simp, ow2, rp2, rm2, by simpa [rowsC] using LstR.nil R 18, by simp [blkV], by simp [blkV]⟩
  clear ow2 r1G rp2 rm2 hle2 ow1 hrt
  rintro ⟨env, G⟩ ⟨j, R, fv, hj, e1, e3, e12, e13, e14, ow, rp, rm, hL, hfp, hfm⟩
  simp only at e1 e3 e12 e13 e14 ow
  by_cases hlt : j < n
  · have hltI : (j : Int) < (n : Int) := by omega
    obtain ⟨s, hs⟩ : ∃ s, T[j]? = some s := ⟨_, List.getElem?_eq_getElem (by omega)⟩
    obtain ⟨b, o, rfl⟩ := hts.lit (by omega)
    have rk : rdNU (G b) (o + j * 16) 16 = some (flat s) := (hts.le (Heap.le_trans hl1 ow.all)).el flat16 hs (j := 0) (r := 16) (by decide) (by decide)
    have tl := flat16 s
    have tone := flat1 s
    have j16 : List.take 16 (flat s) = flat s := rfl
    have hspl : splice [.int .i64 0, .int .i64 0, .int .i64 0, .int .i64 0, .int .i64 0, .int .i64 0, .int .i64 0, .int .i64 0, .int .i64 0, .int .i64 0, .int .i64 0, .int .i64 0, .int .i64 0, .int .i64 0, .int .i64 0, .int .i64 0] 0 (flat s) = flat s := splice_all rfl
    simp (disch := first | omega | assumption | decide | (simp <;> omega) | fail) [facts, e1, e3, e12, e13, e14, hltI, rk]
    refine fresh_intro fun b5 hb5 => ?_
    have r5 := upd_same G b5 (.row true 0 (flat s) 0)
    have ow5 := ow.grow (le_upd (.row true 0 (flat s) 0) hb5)
    simp (disch := first | omega | assumption | decide | (simp <;> omega) | fail) [facts, upd_upd, hspl]
    generalize upd G b5 _ = G5 at *
    have rpG := ow5.le _ _ rp
    obtain ⟨sl, hsl⟩ : ∃ sl, sl = flat (newS s) := ⟨_, rfl⟩
    have sl16 : sl.length = 16 := by rw [hsl]; rfl
    have sl1 : sl.all (·.oneCell') = true := by rw [hsl]; rfl
    have ks : List.take 16 sl = sl := List.take_of_length_le (by omega)
    have hnc := fun H => Ca.new_c s H
    simp only [setV] at hnc
    rw [← hsl] at hnc
    obtain ⟨cl, hcl⟩ : ∃ cl, cl = (tm0 s).cells := ⟨_, rfl⟩
    have hcl2 : sl ++ [.bool false, .int .i64 0] = cl := by rw [hsl, hcl]; rfl
    have cl18 : cl.length = 18 := by rw [hcl]; rfl
    have cl1 : cl.all (·.oneCell') = true := by rw [hcl]; rfl
    have hspc : splice (zeros [.int .i64 0, .int .i64 0, .int .i64 0, .int .i64 0, .int .i64 0, .int .i64 0, .int .i64 0, .int .i64 0, .int .i64 0, .int .i64 0, .int .i64 0, .int .i64 0, .int .i64 0, .int .i64 0, .int .i64 0, .int .i64 0, .bool false, .int .i64 0] 1) 0 cl = cl := splice_all (by rw [cl18]; rfl)
    have hcl3 : sl ++ List.drop sl.length [.int .i64 0, .int .i64 0, .int .i64 0, .int .i64 0, .int .i64 0, .int .i64 0, .int .i64 0, .int .i64 0, .int .i64 0, .int .i64 0, .int .i64 0, .int .i64 0, .int .i64 0, .int .i64 0, .int .i64 0, .int .i64 0, .bool false, .int .i64 0] = cl := by rw [sl16]; exact hcl2
    refine w_plan (P := Tryz.prog) (by simp [facts]) (opsP [0,1,2,3] (.both (opsP [4,5,6,7,8,9,10,11,12,13,14] .done) (opsP [5] (.both (opsP [4,6,7,8,9,10,11,12,13,14] .done) (opsP [6,7] (.both (opsP [4,8,9,10,11,12,13,14] .done) (opsP [8,9] (.both (opsP [4,10,11,12,13,14] .done) (opsP [10,4,11,12,13,14] .done))))))))) ?_ ?_
    · decide +kernel
    simp (disch := first | omega | assumption | decide | (simp <;> omega) | fail) [facts, e3, rpG, r5, j16]
    repeat' apply And.intro
    all_goals
      refine (hnc _).mono ?_
      rintro v H4 ⟨x, rfl, hx, rx, hle4⟩
      have ow4 := ow5.grow hle4
      have rp4 := hle4 _ _ rpG
      simp (disch := first | omega | assumption | decide | (simp <;> omega) | fail) [facts, rp4, rx, ks, hcl3, hspc]
      repeat' apply And.intro
      all_goals
        refine fresh_intro fun b28 hb28 => ?_
        have ow28 := ow4.grow (le_upd (.row true 0 cl 0) hb28)
        have r28 := upd_same H4 b28 (.row true 0 cl 0)
        have rp28 := ow28.le _ _ rp
        generalize upd H4 b28 _ = H6 at *
        have s28 : SlA H6 (some ⟨b28, 0, none⟩) 1 18 cl := SlA.row r28 (Nat.le_refl _) (by rw [cl18]) (by rw [cl18]; decide) (by rw [Nat.sub_self, List.drop_zero]; exact List.take_of_length_le (by rw [cl18]; decide))
        simp (disch := first | omega | assumption | decide | (simp <;> omega) | fail) [facts, rp28]
        refine hL.app (P := Tryz.prog) (e := 81) (s := 18) (nbs := 144) (n := j) (m := 1) (ys := cl) (z := .agg #[.int .i64 0, .int .i64 0, .int .i64 0, .int .i64 0, .int .i64 0, .int .i64 0, .int .i64 0, .int .i64 0, .int .i64 0, .int .i64 0, .int .i64 0, .int .i64 0, .int .i64 0, .int .i64 0, .int .i64 0, .int .i64 0, .bool false, .int .i64 0]) (by simp [facts]) (by simp [facts]) (by simp [facts]) (by simp [facts]) rfl (by decide) ow28
          (src_sl (e1 := 81) (z := .agg #[.int .i64 0, .int .i64 0, .int .i64 0, .int .i64 0, .int .i64 0, .int .i64 0, .int .i64 0, .int .i64 0, .int .i64 0, .int .i64 0, .int .i64 0, .int .i64 0, .int .i64 0, .int .i64 0, .int .i64 0, .int .i64 0, .bool false, .int .i64 0]) (by simp [facts]) (by simp [facts]) (by simp [facts]) s28) (by rw [cl18]) cl1 (by omega) ?_
        intro v' H7 R7 ow7 hL7 hk7 _
        obtain ⟨kp, kp2⟩ := hk7 p _ rp hfp
        obtain ⟨km, km2⟩ := hk7 m _ rm hfm
        obtain ⟨a7, c7, rfl, _, _⟩ := hL7.sl ow7.le
        have rp7 := ow7.le _ _ kp
        simp (disch := first | omega | assumption | decide | (simp <;> omega) | fail) [facts, rp7, e14]
        refine ⟨_, Heap.le_refl _, ⟨j + 1, _, _, by omega, by simp [e1], by simp [e3], by simp [e12], by simp [e13], by simp, (ow7.set kp (.row true 0 [.slice a7 (j + 1) c7, .slice none 0 0, .map (some m)] 0)), upd_same _ _ _, by rw [upd_ne _ _ qpm.symm]; exact km, ?_, kp2, km2⟩, by simp [intOf, e14]; omega⟩
        rw [take_snoc hs, List.map_append, rowsC_app, List.map_singleton, rowsC_single, ← hcl]
        exact hL7.up fun i o hi ho => by rw [upd_ne _ _ (fun e => kp2 (by rw [hi, e]))]; exact ho
  · have hjn : j = n := by omega
    subst hjn
    rw [hn, List.take_length] at hL
    rw [← hn] at hL
    have rpG := ow.le _ _ rp
    obtain ⟨fa2, fc2, rfl, hfs, hfc⟩ := hL.sl ow.le
    obtain ⟨fb, fo, rfl⟩ := hfs.lit hT0
    have hone : (rowsC Tm.cells (T.map tm0)).all (·.oneCell') = true := rowsC_one tm1 _
    simp (disch := first | omega | assumption | decide | (simp <;> omega) | fail) [facts, e3, e13, e14, rpG]
    refine (clone18_c G fb fo j fc2 _ hfs hone hT0 (by omega)).mono ?_
    rintro v G2 ⟨b', c', room, rfl, hb', rb', hc', hf', hle2⟩
    have ow2 := ow.grow hle2
    have rp2 := ow2.le _ _ rp
    simp (disch := first | omega | assumption | decide | (simp <;> omega) | fail) [facts, rp2]
    have hb'R : R b' = none := le_of_none ow.le hb'
    have qpb : p ≠ b' := fun e => by rw [e, hb'R] at rp; cases rp
    have qmb : m ≠ b' := fun e => by rw [e, hb'R] at rm; cases rm
    have qfb : fb ≠ b' := fun e => by
      obtain ⟨o', ho'⟩ := hL.blk rfl
      simp only at ho'
      rw [e, hb'R] at ho'; cases ho'
    have ow3 := ow.take2 hle2 hb' rb'
    have ow4 := ow3.set (p := p) (o0 := .row true 0 [.slice (some ⟨fb, fo, none⟩) j fc2, .slice none 0 0, .map (some m)] 0) (by rw [upd_ne _ _ qpb]; exact rp) (.row true 0 [.slice (some ⟨fb, fo, none⟩) j fc2, .slice (some ⟨b', 0, none⟩) j c', .map (some m)] 0)
    have hlen : (T.map tm0).length = j := by rw [List.length_map, hn]
    have hfp' : fb ≠ p := fun e => hfp (by rw [e]; rfl)
    refine ⟨_, Heap.le_refl _, p, e3, _, (Own.nil hl1).trans ow4, _, .slice (some ⟨b', 0, none⟩) j c', m, ⟨upd_same _ _ _, ?_, ?_, qpm, fun e => qpb (by simpa [blkV] using e.symm), fun e => qmb (by simpa [blkV] using e.symm)⟩, ?_, hfp, hfm, fun b hb e => ?_⟩
    · rw [upd_ne _ _ qpm.symm, upd_ne _ _ qmb]; exact rm
    · rw [hlen]
      exact .inr ⟨b', 0, c', [], room, rfl, by rw [upd_ne _ _ qpb.symm, upd_same, List.append_nil], by rw [rowsC_len tm18, hlen], hc', by simpa using hf'⟩
    · exact hL.up fun i o hi ho => by
        have : i = fb := by simpa [blkV] using hi.symm
        rw [this] at ho ⊢
        rw [upd_ne _ _ hfp', upd_ne _ _ qfb]; exact ho
    · have h1 : b = fb := by simpa [blkV] using hb.symm
      have h2 : b = b' := by simpa [blkV] using e.symm
      exact qfb (h1.symm.trans h2)
end Go.Proofs.YtfpighmafofoeaaGreatDoor.GL

namespace Go.Proofs.YtfpighmafofoeaaGreatDoor.GL
open Go Go.RowKit
open St (Txn txnL txnV zeroT)
open Ca (S4 flat setV OkS CassOk COk Cs newS newC)
set_option maxRecDepth 10000
set_option pp.deepTerms.threshold 8
set_option pp.maxSteps 3000
set_option linter.unusedSimpArgs false
set_option linter.unusedVariables false

/-- One more terminal. -/
theorem rtnew {R1 R' : Heap} {q b : Nat} {tv v' lv : Value} {W : List Tp} {L : List Txn} {y : Tm} (h : RefR R1 q tv lv W L) (hb : R1 b = some (.row true 0 (flat y.s) 0)) (hbW : ∀ x ∈ W, x.2 ≠ b) (hbq : b ≠ q) (hbt : blkV tv ≠ some b) (hbl : blkV lv ≠ some b)
    (hL : LstR R' v' 3 (W.length + 1) (rowsC tpL W ++ tpL (y, b))) (hk : ∀ i o, R1 i = some o → blkV tv ≠ some i → R' i = some o ∧ blkV v' ≠ some i) : RefR (upd R' q (.row true 0 [v', lv] 0)) q v' lv (W ++ [(y, b)]) L := by
  have hq := hk q _ h.row h.tq
  have hof : ∀ {P : Nat → Prop}, (∀ z ∈ W, P z.2) → P b → ∀ z ∈ W ++ [(y, b)], P z.2 := fun {P} hP h1 z hz => by
    rcases List.mem_append.1 hz with hz | hz
    · exact hP z hz
    · rw [List.mem_singleton.1 hz]; exact h1
  refine ⟨upd_same _ _ _, ?_, ?_, fun z hz => ?_, ?_, hof (P := fun b => b ≠ q) h.nq hbq, hof (P := fun b => blkV v' ≠ some b) (fun z hz => (hk _ _ (h.set z hz) (h.nt z hz)).2) (hk _ _ hb hbt).2, hof (P := fun b => blkV lv ≠ some b) h.nl hbl, hq.2, h.lq, fun i hi e => ?_⟩
  · exact h.lst.up fun i o hi ho => by rw [upd_ne _ _ (fun e => h.lq (by rw [hi, e]))]; exact (hk i o ho (fun e => h.tl i e hi)).1
  · rw [List.length_append, rowsC_app, rowsC_single]
    exact hL.up fun i o hi ho => by rw [upd_ne _ _ (fun e => hq.2 (by rw [hi, e]))]; exact ho
  · rcases List.mem_append.1 hz with hz | hz
    · rw [upd_ne _ _ (h.nq z hz)]; exact (hk _ _ (h.set z hz) (h.nt z hz)).1
    · rw [List.mem_singleton.1 hz, upd_ne _ _ hbq]; exact (hk _ _ hb hbt).1
  · rw [List.map_append, List.nodup_append]
    refine ⟨h.nd, by simp, ?_⟩
    intro a ha c hc
    obtain ⟨z, hz, rfl⟩ := List.mem_map.1 ha
    simp only [List.map_cons, List.map_nil, List.mem_singleton] at hc
    rw [hc]; exact hbW z hz
  · obtain ⟨o, ho⟩ := h.lst.blk e
    exact (hk i o ho (fun e2 => h.tl i e2 e)).2 hi
def rnInv (H1 : Heap) (b1 q n : Nat) (T : List S4) (s : St) : Prop :=
  ∃ (j : Nat) (R : Heap) (tv : Value) (W : List Tp), j ≤ n ∧ s.env 1 = .pointer (some ⟨b1, 0, none⟩) ∧ s.env 3 = .pointer (some ⟨q, 0, none⟩) ∧ s.env 4 = .int .i64 j ∧ Own H1 (fun _ => none) s.heap R ∧ RefR R q tv (.slice none 0 0) W [] ∧ tmsOf W = (T.take j).map tm0
set_option maxHeartbeats 1600000 in
theorem rnewbook_c (v : Value) (T : List S4) (k : Nat) (U H : Heap) (hU : Heap.le U H) (hv : CfgV U v T k) (hT : T.length ≤ 8) (hk : k < 256) :
    ECalls Tryz.prog 7 #[v] H fun r H' => ∃ q R tv W, r = .pointer (some ⟨q, 0, none⟩) ∧ Own H (fun _ => none) H' R ∧ RefR R q tv (.slice none 0 0) W [] ∧ tmsOf W = T.map tm0 := by
  refine ecalls_of_ewp (args := [_]) Tryz.func7 rfl rfl rfl (by simp [Tryz.ntmps7]) (by kernel_rfl) ?_
  have hrt := fun H2 (hl : Heap.le H H2) => cright_c v T k U H2 (Heap.le_trans hU hl) hv hT hk
  obtain ⟨⟨tv, pv, fv, rfl, ht, hp, hf⟩, hok⟩ := hv
  obtain ⟨ta, tc, rfl, hts, _⟩ := ht.sl hU
  obtain ⟨pa, pc, rfl, hps, _⟩ := hp.sl hU
  obtain ⟨fa, fc, rfl, hfs, _⟩ := hf.sl hU
  obtain ⟨n, hn⟩ : ∃ n, n = T.length := ⟨_, rfl⟩
  rw [← hn] at hts hT hrt ⊢
  clear ht hp hf hps hfs
  simp (disch := first | omega | assumption | decide | (simp <;> omega) | fail) [facts, ]
  refine fresh_intro fun b1 hb1 => ?_
  have r1 := upd_same H b1 (.row true 0 [.slice ta n tc, .slice pa 4 pc, .slice fa 4 fc, .int .i64 500, .int .i64 100000] 0)
  have hl1 := le_upd (.row true 0 [.slice ta n tc, .slice pa 4 pc, .slice fa 4 fc, .int .i64 500, .int .i64 100000] 0) hb1
  generalize upd H b1 _ = H0 at *
  simp (disch := first | omega | assumption | decide | (simp <;> omega) | fail) [facts, ]
  refine fresh_intro fun q hq => ?_
  have ow1 := Own.new (o := .row true 0 [.slice none 0 0, .slice none 0 0] 0) (Heap.le_refl H0) hq
  have hB0 : RefR (upd (fun _ => none) q (.row true 0 [.slice none 0 0, .slice none 0 0] 0)) q (.slice none 0 0) (.slice none 0 0) [] [] := by
    refine ⟨upd_same _ _ _, LstR.nil _ _, LstR.nil _ _, ?_, ?_, ?_, ?_, ?_, ?_, ?_, ?_⟩ <;> simp [blkV]
  simp (disch := first | omega | assumption | decide | (simp <;> omega) | fail) [facts, ]
  refine w_loop (rnInv H0 b1 q n T) (fun st => n - (intOf (st.env 4)).toNat) ?_ ?_
  · exact ⟨0, _, .slice none 0 0, [], Nat.zero_le _, by simp, by simp, by simp, ow1, hB0, rfl⟩
  clear ow1 hB0
  rintro ⟨env, G⟩ ⟨j, R, tv, W, hj, e1, e3, e4, ow, hB, hW⟩
  simp only at e1 e3 e4 ow
  have r1G := ow.all _ _ r1
  by_cases hlt : j < n
  · have hltI : (j : Int) < (n : Int) := by omega
    obtain ⟨s, hs⟩ : ∃ s, T[j]? = some s := ⟨_, List.getElem?_eq_getElem (by omega)⟩
    obtain ⟨b, o, rfl⟩ := hts.lit (by omega)
    have tl := flat16 s
    have tone := flat1 s
    have j16 : List.take 16 (flat s) = flat s := rfl
    simp (disch := first | omega | assumption | decide | (simp <;> omega) | fail) [facts, e1, e3, e4, hltI, r1G]
    refine (hrt G (Heap.le_trans hl1 ow.all)).mono ?_
    rintro v G2 ⟨rfl, hle2⟩
    have ow2 := ow.grow hle2
    have r1G2 := hle2 _ _ r1G
    have rk : rdNU (G2 b) (o + j * 16) 16 = some (flat s) := (hts.le (Heap.le_trans hl1 ow2.all)).el flat16 hs (j := 0) (r := 16) (by decide) (by decide)
    have rqG := ow2.le _ _ hB.row
    have hWl : W.length = j := by
      have := congrArg List.length hW
      simpa [tmsOf, List.length_take, Nat.min_eq_left (show j ≤ T.length by omega)] using this
    obtain ⟨sl, hsl⟩ : ∃ sl, sl = flat (newS s) := ⟨_, rfl⟩
    have hnc := fun H => Ca.newR_c s H
    simp only [setV] at hnc
    rw [← hsl] at hnc
    simp (disch := first | omega | assumption | decide | (simp <;> omega) | fail) [facts, ]
    refine w_plan (P := Tryz.prog) (by simp [facts]) (opsP [0,1,2,3,5,7] (.both (opsP [4,6,8,9,10,11,12,13,14,15,16] .done) (opsP [6,8] (.both (opsP [4,9,10,11,12,13,14,15,16] .done) (opsP [9] (.both (opsP [4,10,11,12,13,14,15,16] .done) (opsP [10,11] (.both (opsP [4,12,13,14,15,16] .done) (opsP [12,4,13,14,15,16] .done))))))))) ?_ ?_
    · decide +kernel
    simp (disch := first | omega | assumption | decide | (simp <;> omega) | fail) [facts, e1, e3, e4, rqG, r1G2, hltI, rk]
    repeat' apply And.intro
    all_goals
      refine (hnc _).mono ?_
      rintro v H4 ⟨x, rfl, hx, rx, hle4⟩
      have ow4 := ow2.grow hle4
      have rq4 := hle4 _ _ rqG
      simp (disch := first | omega | assumption | decide | (simp <;> omega) | fail) [facts, rq4]
      repeat' apply And.intro
      all_goals
        refine fresh_intro fun b28 hb28 => ?_
        have hxR : R x = none := le_of_none ow2.le hx
        have owx := ow2.take2 hle4 hx rx
        have hBx := hB.le (le_upd (.row true 0 sl 0) hxR)
        have hspt : splice (zeros [.pointer none, .bool false, .int .i64 0] 1) 0 [.pointer (some ⟨x, 0, none⟩), .bool false, .int .i64 0] = tpL (tm0 s, x) := rfl
        rw [hspt]
        have ow28 := owx.grow (le_upd (.row true 0 (tpL (tm0 s, x)) 0) hb28)
        have r28 := upd_same H4 b28 (.row true 0 (tpL (tm0 s, x)) 0)
        have rq28 := ow28.le _ _ hBx.row
        have rx2 := upd_same R x (.row true 0 sl 0)
        have hxW : ∀ z ∈ W, z.2 ≠ x := fun z hz e => by have := hB.set z hz; rw [e, hxR] at this; cases this
        have hxq : x ≠ q := fun e => by have := hB.row; rw [← e, hxR] at this; cases this
        have hxt : blkV tv ≠ some x := fun e => by
          obtain ⟨o', ho'⟩ := hB.trm.blk e
          rw [hxR] at ho'; cases ho'
        generalize upd H4 b28 _ = H6 at *
        generalize upd R x _ = R1 at *
        have s28 : SlA H6 (some ⟨b28, 0, none⟩) 1 3 (tpL (tm0 s, x)) := SlA.row r28 (Nat.le_refl _) rfl (by rw [tp3]; decide) (by rw [Nat.sub_self, List.drop_zero]; rfl)
        simp (disch := first | omega | assumption | decide | (simp <;> omega) | fail) [facts, rq28]
        refine LstR.app (P := Tryz.prog) (e := 86) (s := 3) (nbs := 24) (n := W.length) (m := 1) (ys := tpL (tm0 s, x)) (z := .agg #[.pointer none, .bool false, .int .i64 0]) (by simp [facts]) (by simp [facts]) (by simp [facts]) (by simp [facts]) rfl (by decide) hBx.trm ow28
          (src_sl (e1 := 86) (z := .agg #[.pointer none, .bool false, .int .i64 0]) (by simp [facts]) (by simp [facts]) (by simp [facts]) s28) rfl (tp1 _) (by omega) ?_
        intro v' H7 R7 ow7 hL7 hk7 _
        have hkq := (hk7 q _ hBx.row hBx.tq).1
        have hB7 := rtnew hBx (y := tm0 s) (by show R1 x = some (.row true 0 (flat (newS s)) 0); rw [← hsl]; exact rx2) hxW hxq hxt (by simp [blkV]) hL7 hk7
        obtain ⟨a7, c7, rfl, _, _⟩ := hL7.sl ow7.le
        have rq7 := ow7.le _ _ hkq
        simp (disch := first | omega | assumption | decide | (simp <;> omega) | fail) [facts, rq7, e4]
        refine ⟨_, Heap.le_refl _, ⟨j + 1, _, _, _, by omega, by simp [e1], by simp [e3], by simp, ow7.set hkq _, hB7, ?_⟩, by simp [intOf, e4]; omega⟩
        rw [take_snoc hs, List.map_append, ← hW]
        unfold tmsOf
        rw [List.map_append]; rfl
  · have hjn : j = n := by omega
    subst hjn
    have hltI : ¬ (j : Int) < (j : Int) := by omega
    simp (disch := first | omega | assumption | decide | (simp <;> omega) | fail) [facts, e1, e3, e4, r1G, hltI]
    rw [hn, List.take_length] at hW
    exact ⟨_, Heap.le_refl _, R, (Own.nil hl1).trans ow, tv, W, hB, hW⟩
end Go.Proofs.YtfpighmafofoeaaGreatDoor.GL
