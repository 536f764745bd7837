/- Layer 20: BookPlays. -/
import Derived.Test.YthaggpicjpkjiaaBlC
namespace Go.Proofs.Ythaggpicjpkjiaa.GL
open Go Go.RowKit
open St (Txn txnL txnV zeroT RightT OkT Rec recV stepF)
open Ca (S4 flat setV OkS CassOk newS)
set_option maxRecDepth 10000
set_option pp.deepTerms.threshold 8
set_option pp.maxSteps 3000
set_option linter.unusedSimpArgs false
set_option linter.unusedVariables false

theorem recIn_term {x : In20} (h : x.wf) : 0 ≤ (recIn x).term ∧ (recIn x).term ≤ 65535 := by
  unfold recIn
  split
  · exact h.term
  · split
    all_goals
      show 0 ≤ ((x.k % 3 : Nat) : Int) ∧ ((x.k % 3 : Nat) : Int) ≤ 65535
      omega
theorem recIn_len {x : In20} (h : x.raw.pan.length ≤ 60) : (recIn x).pan.length ≤ 60 := by
  unfold recIn
  split
  · exact h
  · split
    all_goals
      have := recN_len x.kind x.k x.stan x.am
      first
        | (show (recN x.kind x.k x.stan x.am).pan.length ≤ 60; omega)
        | omega
/-- One record, done to both. -/
theorem do20_c {F A B H : Heap} {p m : Nat} {fv tv : Value} {M : List Txn} {q : Nat} {tv2 lv : Value} {W : List Tp} {b : Bz} (h : Two20 F A B H p m fv tv M q tv2 lv W b) (r : Rec) (h0 : 0 ≤ r.term) (h1 : r.term ≤ 65535) (hpl : r.pan.length ≤ 100000) :
    ECalls Try.prog 12 #[.pointer (some ⟨p, 0, none⟩), recV r] H fun v H' => v = .int .i64 (doB b r).2 ∧ ∃ A' M', TwoO F A' B H' ∧ BookR A' p fv tv m M' (doB b r).1.T ∧ M'.Perm (doB b r).1.L := by
  refine (bdo_c H A p fv tv m M b.L b.T h.t.ale h.bk h.pm h.ok r h0 h1 hpl).mono ?_
  rintro v H' ⟨rfl, A', M', ow, hB, hp⟩
  exact ⟨rfl, A', M', h.t.left ow, hB, hp⟩
theorem rdo20_c {F A A' B H H' : Heap} {p m : Nat} {fv tv : Value} {M M' : List Txn} {q : Nat} {tv2 lv : Value} {W : List Tp} {b : Bz} (h : Two20 F A B H p m fv tv M q tv2 lv W b) (r : Rec) (h0 : 0 ≤ r.term) (h1 : r.term ≤ 65535) (hpl : r.pan.length ≤ 100000)
    (t' : TwoO F A' B H') (hB' : BookR A' p fv tv m M' (doB b r).1.T) (hp' : M'.Perm (doB b r).1.L) :
    ECalls Try.prog 13 #[.pointer (some ⟨q, 0, none⟩), recV r] H' fun v H2 => v = .int .i64 (doB b r).2 ∧ ∃ B' lv' W', Two20 F A' B' H2 p m fv tv M' q tv2 lv' W' (doB b r).1 := by
  have hok : BOk ⟨tmsOf W, b.L⟩ := by rw [h.tm]; exact h.ok
  have hc := rdo_c H' B q tv2 lv W b.L t'.ble h.rf hok r h0 h1 hpl
  rw [h.tm] at hc
  refine hc.mono ?_
  rintro v H2 ⟨rfl, B', lv', W', ow, hR, hT⟩
  exact ⟨rfl, B', lv', W', t'.right ow, hB', hR, hp', hT, doB_ok h.ok r h0⟩
/-- What the call knows besides. -/
theorem Two20.frame {F F2 A B H H2 : Heap} {p m : Nat} {fv tv : Value} {M : List Txn} {q : Nat} {tv2 lv : Value} {W : List Tp} {b : Bz} (h : Two20 F A B H p m fv tv M q tv2 lv W b) (t : TwoO F2 A B H2) : Two20 F2 A B H2 p m fv tv M q tv2 lv W b := ⟨t, h.bk, h.rf, h.pm, h.tm, h.ok⟩
def bplInv (H1 : Heap) (a : Option Addr) (n c b7 p m : Nat) (fv tv : Value) (q : Nat) (tv2 : Value) (s : St) : Prop :=
  ∃ (i : Nat) (F A B : Heap) (M : List Txn) (lv : Value) (W : List Tp) (b : Bz), i ≤ n ∧ s.env 2 = .slice a n c ∧ s.env 7 = .pointer (some ⟨b7, 0, none⟩) ∧ s.env 10 = .pointer (some ⟨p, 0, none⟩) ∧ s.env 11 = .pointer (some ⟨q, 0, none⟩) ∧ s.env 12 = .int .i64 i ∧ Heap.le H1 F ∧ Two20 F A B s.heap p m fv tv M q tv2 lv W b
set_option maxHeartbeats 4000000 in
theorem bookPlays_c (t k : Nat) (a : Option Addr) (n c : Nat) (L : List In20) (at' : KZ) (H : Heap) (ht : t < 256) (hk : k < 256) (h : SlA H a n 21 (rowsC In20.cells L)) (hL : ∀ x ∈ L, x.wf) :
    ECalls Try.prog 3 #[.int .u8 t, .int .u8 k, .slice a n c, encK at'] H fun v _ => v = .bool true := by
  refine ecalls_of_ewp (args := [_, _, _, _]) Try.func3 rfl rfl rfl (by simp [Try.ntmps3]) (by kernel_rfl) ?_
  have hlen : L.length = n := h.els in21 (by decide)
  unfold encK
  simp (disch := first | omega | assumption | decide | (simp <;> omega) | fail) [facts, ]
  refine fresh_intro fun b7 hb7 => ?_
  have r7 := upd_same H b7 (.row true 0 [.int .u16 at'.t, .int .u32 at'.s] 0)
  have hl7 := le_upd (.row true 0 [.int .u16 at'.t, .int .u32 at'.s] 0) hb7
  generalize upd H b7 _ = H0 at *
  simp (disch := first | omega | assumption | decide | (simp <;> omega) | fail) [facts, ]
  refine (known20_c H0).mono ?_
  rintro v H1 ⟨rfl, hle1⟩
  replace r7 := hle1 _ _ r7
  replace h := (h.le hl7).le hle1
  by_cases hn : (60 : Int) < (n : Int)
  · simp (disch := first | omega | assumption | decide | (simp <;> omega) | fail) [facts, hn]
    exact ⟨_, Heap.le_refl _⟩
  simp (disch := first | omega | assumption | decide | (simp <;> omega) | fail) [facts, hn]
  refine (bank_c t k H1 ht hk).mono ?_
  rintro v H2 ⟨T, U, owU, hC, hT⟩
  obtain ⟨⟨tv0, pv0, fv0, rfl, hc1, hc2, hc3⟩, hcok⟩ := hC
  obtain ⟨ta, tc, rfl, _, _⟩ := hc1.sl (Heap.le_refl U)
  obtain ⟨pa, pc, rfl, _, _⟩ := hc2.sl (Heap.le_refl U)
  obtain ⟨fa, fc, rfl, _, _⟩ := hc3.sl (Heap.le_refl U)
  have hC : CfgV U (.agg #[.slice ta T.length tc, .slice pa 4 pc, .slice fa 4 fc, .int .i64 500, .int .i64 100000]) T k := ⟨⟨_, _, _, rfl, hc1, hc2, hc3⟩, hcok⟩
  replace r7 := owU.all _ _ r7
  replace h := h.le owU.all
  simp (disch := first | omega | assumption | decide | (simp <;> omega) | fail) [facts, ]
  refine fresh_intro fun b9 hb9 => ?_
  have r9 := upd_same H2 b9 (.row true 0 [.slice ta T.length tc, .slice pa 4 pc, .slice fa 4 fc, .int .i64 500, .int .i64 100000] 0)
  have hl9 := le_upd (.row true 0 [.slice ta T.length tc, .slice pa 4 pc, .slice fa 4 fc, .int .i64 500, .int .i64 100000] 0) hb9
  replace r7 := hl9 _ _ r7
  replace h := h.le hl9
  have hU9 := Heap.le_trans owU.le hl9
  simp (disch := first | omega | assumption | decide | (simp <;> omega) | fail) [facts, upd_upd]
  generalize upd H2 b9 _ = H3 at *
  obtain ⟨I, hI⟩ : ∃ I : St → Prop, I = (fun s => s.env 2 = .slice a n c ∧ s.env 7 = .pointer (some ⟨b7, 0, none⟩) ∧ ∃ p q m fv tv tv2 M W A B, s.env 10 = .pointer (some ⟨p, 0, none⟩) ∧ s.env 11 = .pointer (some ⟨q, 0, none⟩) ∧ Two20 H3 A B s.heap p m fv tv M q tv2 (.slice none 0 0) W ⟨T.map tm0, []⟩) := ⟨_, rfl⟩
  refine w_cut I ?_ ?_
  · refine w_plan (P := Try.prog) (by simp [facts]) (.both (opsP [0] (.both (opsP [1,2,3,4,5] .done) (opsP [2,1,3,4,5] .done))) (opsP [2,0,1,3,4,5] .done)) ?_ ?_
    · decide +kernel
    simp (disch := first | omega | assumption | decide | (simp <;> omega) | fail) [facts, r9]
    repeat' apply And.intro
    all_goals
      refine (bnew_c _ T k U H3 hU9 hC (by omega) (by omega) hk).mono ?_
      rintro v H4 ⟨p, A, fv, tv, m, rfl, owA, hB, _⟩
      have r9' := owA.all _ _ r9
      simp (disch := first | omega | assumption | decide | (simp <;> omega) | fail) [facts, r9']
      refine (rnewbook_c _ T k U H4 (Heap.le_trans hU9 owA.all) hC (by omega) hk).mono ?_
      rintro v H5 ⟨q, B, tv2, W, rfl, owB, hR, hW⟩
      simp (disch := first | omega | assumption | decide | (simp <;> omega) | fail) [facts, ]
      subst hI
      exact ⟨by simp, by simp, p, q, m, fv, tv, tv2, [], W, A, B, by simp, by simp, TwoO.new (Heap.le_refl H3) owA owB, hB, hR, List.Perm.refl _, hW, bok_new hcok (by omega)⟩
  rintro ⟨env, G⟩ hII
  subst hI
  obtain ⟨e2, e7, p, q, m, fv, tv, tv2, M, W, A, B, e10, e11, hTw⟩ := hII
  simp only at e2 e7 e10 e11 hTw
  simp (disch := first | omega | assumption | decide | (simp <;> omega) | fail) [facts, e2, e7, e10, e11]
  refine w_loop (bplInv H3 a n c b7 p m fv tv q tv2) (fun st => n - (intOf (st.env 12)).toNat) ?_ ?_
  · exact ⟨0, H3, A, B, M, _, W, _, Nat.zero_le _, by simp [e2], by simp [e7], by simp [e10], by simp [e11], by simp, Heap.le_refl _, hTw⟩
  clear e2 e7 e10 e11 hTw
  rintro ⟨env, G⟩ ⟨i, F, A, B, M, lv, W, b, hi, e2, e7, e10, e11, e12, hF, hTw⟩
  simp only at e2 e7 e10 e11 e12 hTw
  by_cases hlt : i < n
  · have hltI : (i : Int) < (n : Int) := by omega
    obtain ⟨x, hx⟩ : ∃ x, L[i]? = some x := ⟨_, List.getElem?_eq_getElem (by omega)⟩
    have hxw := hL x (List.mem_of_getElem? hx)
    obtain ⟨ab, ao, rfl⟩ := h.lit (by omega)
    have hsG := h.le (Heap.le_trans hF hTw.t.fle)
    have rp : rd1U (G ab) (ao + i * 21 + 7) = some (.string (mkS x.raw.pan)) := hsG.el1 in21 hx (j := 7) (by decide)
    have rx : rdNU (G ab) (ao + i * 21) 21 = some x.cells := hsG.el in21 hx (j := 0) (r := 21) (by decide) (by decide)
    by_cases hlong : (60 : Int) < (x.raw.pan.length : Int)
    · simp (disch := first | omega | assumption | decide | (simp <;> omega) | fail) [facts, e2, e12, hltI, rp, hlong]
      exact ⟨_, Heap.le_refl _⟩
    have hpl : (recIn x).pan.length ≤ 60 := recIn_len (by omega)
    obtain ⟨h0, h1⟩ := recIn_term hxw
    have hrc := inrec_c x hxw G
    have hst : ∃ st, (recIn x).stan = st := ⟨_, rfl⟩
    obtain ⟨r, hr⟩ : ∃ r, r = recIn x := ⟨_, rfl⟩
    rw [← hr] at hpl h0 h1 hrc
    clear hst
    have er : recV r = .agg (recL r).toArray := rfl
    obtain ⟨rl, hrl⟩ : ∃ rl, rl = recL r := ⟨_, rfl⟩
    rw [← hrl] at er
    have rl17 : rl.length = 17 := by rw [hrl]; rfl
    have rl1 : rl.all (·.oneCell') = true := by rw [hrl]; rfl
    have k17 : List.take 17 rl = rl := List.take_of_length_le (by omega)
    have fk : List.take 2 rl.tail = [.int .u16 r.term, .int .u32 r.stan] := by rw [hrl]; rfl
    have hsp : splice [.int .i64 0, .int .u16 0, .int .u32 0, .string (mkS []), .int .i64 0, .int .i64 0, .int .i64 0, .int .i64 0, .int .i64 0, .int .i64 0, .int .i64 0, .int .i64 0, .int .i64 0, .int .i64 0, .int .i64 0, .int .i64 0, .int .i64 0] 0 rl = rl := splice_all (by rw [rl17]; rfl)
    obtain ⟨xl, hxl⟩ : ∃ xl, xl = x.cells := ⟨_, rfl⟩
    have xl21 : xl.length = 21 := by rw [hxl]; rfl
    have xk : List.take 21 xl = xl := List.take_of_length_le (by omega)
    rw [← hxl] at rx hrc
    simp (disch := first | omega | assumption | decide | (simp <;> omega) | fail) [facts, e2, e12, hltI, rp, hlong, rx, xk]
    refine hrc.mono ?_
    rintro v G2 ⟨rfl, hle2⟩
    have t2 := hTw.t.grow hle2
    rw [er]
    simp (disch := first | omega | assumption | decide | (simp <;> omega) | fail) [facts, ]
    refine fresh_intro fun b13 hb13 => ?_
    have t3 := t2.keep hb13 (.row true 0 rl 0)
    have hF3 := Heap.le_trans hF (le_upd (.row true 0 rl 0) (le_of_none t2.fle hb13))
    have r13F := upd_same F b13 (.row true 0 rl 0)
    simp (disch := first | omega | assumption | decide | (simp <;> omega) | fail) [facts, upd_upd, hsp]
    generalize upd F b13 _ = F2 at *
    generalize upd G2 b13 _ = G3 at *
    have r13 := t3.fle _ _ r13F
    have hT3 := hTw.frame t3
    clear hTw
    have cd := do20_c hT3 r h0 h1 (by omega)
    rw [er] at cd
    obtain ⟨I, hI⟩ : ∃ I : St → Prop, I = (fun s => s.env 2 = .slice (some ⟨ab, ao, none⟩) n c ∧ s.env 7 = .pointer (some ⟨b7, 0, none⟩) ∧ s.env 10 = .pointer (some ⟨p, 0, none⟩) ∧ s.env 11 = .pointer (some ⟨q, 0, none⟩) ∧ s.env 12 = .int .i64 i ∧ s.env 13 = .pointer (some ⟨b13, 0, none⟩) ∧ s.env 65 = .bool false ∧ ∃ A B M lv W, Two20 F2 A B s.heap p m fv tv M q tv2 lv W (doB b r).1) := ⟨_, rfl⟩
    refine w_cut I ?_ ?_
    · refine w_plan (P := Try.prog) (by simp [facts]) (opsP [0,3] (.both (opsP [1] (.both (opsP [2,4,5,6,7,8,9,10,11,12] .done) (opsP [4,2,5,6,7,8,9,10,11,12] .done))) (opsP [4,1,2,5,6,7,8,9,10,11,12] .done))) ?_ ?_
      · decide +kernel
      simp (disch := first | omega | assumption | decide | (simp <;> omega) | fail) [facts, e10, e11, r13, k17]
      repeat' apply And.intro
      all_goals
        refine cd.mono ?_
        rintro v G4 ⟨rfl, A4, M4, t4, hB4, hp4⟩
        have r13' := t4.fle _ _ r13F
        have cr := rdo20_c hT3 r h0 h1 (by omega) t4 hB4 hp4
        rw [er] at cr
        simp (disch := first | omega | assumption | decide | (simp <;> omega) | fail) [facts, e11, r13', k17]
        refine cr.mono ?_
        rintro v G5 ⟨rfl, B5, lv5, W5, hT5⟩
        simp (disch := first | omega | assumption | decide | (simp <;> omega) | fail) [facts, e10, e11]
        refine (same20_c hT5).mono ?_
        rintro v G6 ⟨rfl, t6⟩
        simp (disch := first | omega | assumption | decide | (simp <;> omega) | fail) [facts, ]
        subst hI
        exact ⟨by simp [e2], by simp [e7], by simp [e10], by simp [e11], by simp [e12], by simp, by simp, A4, B5, M4, lv5, W5, hT5.frame t6⟩
    clear e2 e7 e10 e11 e12 hT3 t3 r13 cd
    rintro ⟨env, G⟩ hII
    subst hI
    obtain ⟨e2, e7, e10, e11, e12, e13, e65, A, B, M, lv, W, hTw⟩ := hII
    simp only at e2 e7 e10 e11 e12 e13 e65 hTw
    generalize (doB b r).1 = b2 at hTw
    have r13 := hTw.t.fle _ _ r13F
    have cg := get_c G p fv tv m M b2.T (hTw.bk.le hTw.t.ale) (kyR r)
    obtain ⟨w, hw⟩ : ∃ w, w = (getK (kyR r) b2.L).getD zeroT := ⟨_, rfl⟩
    obtain ⟨ws, hws⟩ : ∃ ws, ws = (getK (kyR r) b2.L).isSome := ⟨_, rfl⟩
    rw [getK_perm hTw.pm hTw.ok.ord.nodup, ← hw, ← hws] at cg
    simp only [encK, kyR, txnV] at cg
    have tl := txn11 w
    have tone := txn1 w
    have j11 : List.take 11 (txnL w) = txnL w := rfl
    have hspw : splice [.int .u16 0, .int .u32 0, .string (mkS []), .int .i64 0, .int .i64 0, .int .i64 0, .int .i64 0, .int .i64 0, .int .i64 0, .int .i64 0, .int .i64 0] 0 (txnL w) = txnL w := splice_all rfl
    have heq : eqCells [.int, .int, .str, .int, .int, .int, .int, .int, .int, .int, .int] (txnL w) (txnL w) = some true := by
      unfold txnL
      simp [eqC_int, eqC_nil]
    simp (disch := first | omega | assumption | decide | (simp <;> omega) | fail) [facts, e65, e10, e13, r13, fk]
    refine cg.mono ?_
    rintro v G7 ⟨rfl, hle7⟩
    have t7 := hTw.t.grow hle7
    simp (disch := first | omega | assumption | decide | (simp <;> omega) | fail) [facts, ]
    refine fresh_intro fun b14 hb14 => ?_
    have t8 := t7.keep hb14 (.row true 0 (txnL w) 0)
    have hF8 := Heap.le_trans hF3 (le_upd (.row true 0 (txnL w) 0) (le_of_none t7.fle hb14))
    have r14F := upd_same F2 b14 (.row true 0 (txnL w) 0)
    have r13F8 := upd_other (o := .row true 0 (txnL w) 0) (le_of_none t7.fle hb14) r13F
    simp (disch := first | omega | assumption | decide | (simp <;> omega) | fail) [facts, upd_upd, hspw]
    generalize upd F2 b14 _ = F3 at *
    generalize upd G7 b14 _ = G8 at *
    have r13' := t8.fle _ _ r13F8
    have r14' := t8.fle _ _ r14F
    have cg2 := rget_c G8 q tv2 lv W b2.L (hTw.rf.le t8.ble) (by have := hTw.ok.len; omega) hTw.ok.ord (kyR r)
    rw [← hw, ← hws] at cg2
    simp only [encK, kyR, txnV] at cg2
    simp (disch := first | omega | assumption | decide | (simp <;> omega) | fail) [facts, e11, e13, r13', fk]
    refine cg2.mono ?_
    rintro v G9 ⟨rfl, hle9⟩
    have t9 := t8.grow hle9
    simp (disch := first | omega | assumption | decide | (simp <;> omega) | fail) [facts, ]
    refine fresh_intro fun b16 hb16 => ?_
    have t10 := t9.keep hb16 (.row true 0 (txnL w) 0)
    have hF10 := Heap.le_trans hF8 (le_upd (.row true 0 (txnL w) 0) (le_of_none t9.fle hb16))
    have r16F := upd_same F3 b16 (.row true 0 (txnL w) 0)
    have r14F10 := upd_other (o := .row true 0 (txnL w) 0) (le_of_none t9.fle hb16) r14F
    simp (disch := first | omega | assumption | decide | (simp <;> omega) | fail) [facts, upd_upd, hspw]
    generalize upd F3 b16 _ = F4 at *
    generalize upd G9 b16 _ = G10 at *
    have r14'' := t10.fle _ _ r14F10
    have r16'' := t10.fle _ _ r16F
    simp (disch := first | omega | assumption | decide | (simp <;> omega) | fail) [facts, r14'', r16'', j11, heq, e12]
    exact ⟨_, Heap.le_refl _, ⟨i + 1, F4, A, B, M, lv, W, b2, by omega, by simp [e2], by simp [e7], by simp [e10], by simp [e11], by simp, hF10, hTw.frame t10⟩, by simp [intOf, e12]; omega⟩
  · have hltI : ¬ (i : Int) < (n : Int) := by omega
    have r7G := hTw.t.fle _ _ (hF _ _ r7)
    have cg := get_c G p fv tv m M b.T (hTw.bk.le hTw.t.ale) at'
    obtain ⟨w, hw⟩ : ∃ w, w = (getK at' b.L).getD zeroT := ⟨_, rfl⟩
    obtain ⟨ws, hws⟩ : ∃ ws, ws = (getK at' b.L).isSome := ⟨_, rfl⟩
    rw [getK_perm hTw.pm hTw.ok.ord.nodup, ← hw, ← hws] at cg
    simp only [encK, txnV] at cg
    have tl := txn11 w
    have tone := txn1 w
    have j11 : List.take 11 (txnL w) = txnL w := rfl
    have hspw : splice [.int .u16 0, .int .u32 0, .string (mkS []), .int .i64 0, .int .i64 0, .int .i64 0, .int .i64 0, .int .i64 0, .int .i64 0, .int .i64 0, .int .i64 0] 0 (txnL w) = txnL w := splice_all rfl
    simp (disch := first | omega | assumption | decide | (simp <;> omega) | fail) [facts, e2, e7, e10, e12, hltI, r7G]
    refine cg.mono ?_
    rintro v G7 ⟨rfl, hle7⟩
    have t7 := hTw.t.grow hle7
    simp (disch := first | omega | assumption | decide | (simp <;> omega) | fail) [facts, ]
    refine fresh_intro fun b14 hb14 => ?_
    have t8 := t7.grow (le_upd (.row true 0 (txnL w) 0) hb14)
    simp (disch := first | omega | assumption | decide | (simp <;> omega) | fail) [facts, upd_upd, hspw]
    generalize upd G7 b14 _ = G8 at *
    have r7' := t8.fle _ _ (hF _ _ r7)
    have cg2 := rget_c G8 q tv2 lv W b.L (hTw.rf.le t8.ble) (by have := hTw.ok.len; omega) hTw.ok.ord at'
    rw [← hw, ← hws] at cg2
    simp only [encK, txnV] at cg2
    simp (disch := first | omega | assumption | decide | (simp <;> omega) | fail) [facts, e7, e11, r7']
    refine cg2.mono ?_
    rintro v G9 ⟨rfl, hle9⟩
    simp (disch := first | omega | assumption | decide | (simp <;> omega) | fail) [facts, ]
    refine fresh_intro fun b16 hb16 => ?_
    simp (disch := first | omega | assumption | decide | (simp <;> omega) | fail) [facts, upd_upd, hspw]
    exact ⟨_, Heap.le_refl _⟩
end Go.Proofs.Ythaggpicjpkjiaa.GL
