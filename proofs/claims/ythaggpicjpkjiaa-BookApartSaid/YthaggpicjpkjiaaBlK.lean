/- Layer 20: BookApart. -/
import Derived.Test.YthaggpicjpkjiaaBlJ
namespace Go.Proofs.Ythaggpicjpkjiaa.GL
open Go Go.RowKit
open St (Txn txnL txnV zeroT RightT OkT Rec recV stepF fromL revT)
open Ca (S4 flat setV OkS CassOk newS)
set_option maxRecDepth 10000
set_option pp.deepTerms.threshold 8
set_option pp.maxSteps 3000
set_option linter.unusedSimpArgs false
set_option linter.unusedVariables false

/-- Two books beside each other, the second one the first one's part. -/
structure Ap (F A B H : Heap) (p m : Nat) (fv tv : Value) (M : List Txn) (a : Bz) (p2 m2 : Nat) (fv2 tv2 : Value) (M2 : List Txn) (b : Bz) (i : Nat) : Prop where
  t : TwoO F A B H
  ba : BookR A p fv tv m M a.T
  bb : BookR B p2 fv2 tv2 m2 M2 b.T
  pa : M.Perm a.L
  pb : M2.Perm b.L
  oa : BOk a
  ob : BOk b
  part : PartB a b
  la : a.L.length ≤ i
  lb : b.L.length ≤ i
theorem Ap.frame {F F2 A B H H2 : Heap} {p m : Nat} {fv tv : Value} {M : List Txn} {a : Bz} {p2 m2 : Nat} {fv2 tv2 : Value} {M2 : List Txn} {b : Bz} {i : Nat} (h : Ap F A B H p m fv tv M a p2 m2 fv2 tv2 M2 b i) (t : TwoO F2 A B H2) : Ap F2 A B H2 p m fv tv M a p2 m2 fv2 tv2 M2 b i := ⟨t, h.ba, h.bb, h.pa, h.pb, h.oa, h.ob, h.part, h.la, h.lb⟩
def apInv (H1 : Heap) (a : Option Addr) (n c p m : Nat) (fv tv : Value) (p2 m2 : Nat) (fv2 tv2 : Value) (s : St) : Prop :=
  ∃ (i : Nat) (F A B : Heap) (M : List Txn) (x : Bz) (M2 : List Txn) (y : Bz), i ≤ n ∧ s.env 1 = .slice a n c ∧ s.env 6 = .pointer (some ⟨p, 0, none⟩) ∧ s.env 7 = .pointer (some ⟨p2, 0, none⟩) ∧ s.env 8 = .int .i64 i ∧ Heap.le H1 F ∧ Ap F A B s.heap p m fv tv M x p2 m2 fv2 tv2 M2 y i
set_option maxHeartbeats 4000000 in
theorem bookApart_c (k : Nat) (a : Option Addr) (n c : Nat) (L : List In20) (H : Heap) (hk : k < 256) (h : SlA H a n 21 (rowsC In20.cells L)) (hL : ∀ x ∈ L, x.wf) :
    ECalls Try.prog 6 #[.int .u8 k, .slice a n c] H fun v _ => v = .bool true := by
  refine ecalls_of_ewp (args := [_, _]) Try.func6 rfl rfl rfl (by simp [Try.ntmps6]) (by kernel_rfl) ?_
  have hlen : L.length = n := h.els in21 (by decide)
  simp (disch := first | omega | assumption | decide | (simp <;> omega) | fail) [facts, ]
  refine (known20_c H).mono ?_
  rintro v H1 ⟨rfl, hle1⟩
  replace h := h.le hle1
  by_cases hn : (40 : Int) < (n : Int)
  · simp (disch := first | omega | assumption | decide | (simp <;> omega) | fail) [facts, hn]
    exact ⟨_, Heap.le_refl _⟩
  have hb := fun H => bank_c 2 k H (by decide) hk
  simp (disch := first | omega | assumption | decide | (simp <;> omega) | fail) [facts, hn]
  refine (hb H1).mono ?_
  rintro v H2 ⟨T, U, owU, hC, hT⟩
  obtain ⟨⟨tv0, pv0, fv0, rfl, hc1, hc2, hc3⟩, hcok⟩ := hC
  obtain ⟨ta, tc, rfl, _, _⟩ := hc1.sl (Heap.le_refl U)
  obtain ⟨pa, pc, rfl, _, _⟩ := hc2.sl (Heap.le_refl U)
  obtain ⟨fa, fc, rfl, _, _⟩ := hc3.sl (Heap.le_refl U)
  have hC : CfgV U (.agg #[.slice ta T.length tc, .slice pa 4 pc, .slice fa 4 fc, .int .i64 500, .int .i64 100000]) T k := ⟨⟨_, _, _, rfl, hc1, hc2, hc3⟩, hcok⟩
  replace h := h.le owU.all
  simp (disch := first | omega | assumption | decide | (simp <;> omega) | fail) [facts, ]
  refine fresh_intro fun b5 hb5 => ?_
  have r5 := upd_same H2 b5 (.row true 0 [.slice ta T.length tc, .slice pa 4 pc, .slice fa 4 fc, .int .i64 500, .int .i64 100000] 0)
  have hl5 := le_upd (.row true 0 [.slice ta T.length tc, .slice pa 4 pc, .slice fa 4 fc, .int .i64 500, .int .i64 100000] 0) hb5
  replace h := h.le hl5
  have hU5 := Heap.le_trans owU.le hl5
  simp (disch := first | omega | assumption | decide | (simp <;> omega) | fail) [facts, upd_upd]
  generalize upd H2 b5 _ = H3 at *
  have hok0 : BOk ⟨T.map tm0, []⟩ := bok_new hcok (by omega)
  have hpt0 : PartB ⟨T.map tm0, []⟩ ⟨T.map tm0, []⟩ := ⟨rfl, rfl, rfl⟩
  obtain ⟨I, hI⟩ : ∃ I : St → Prop, I = (fun s => s.env 1 = .slice a n c ∧ ∃ p m fv tv p2 m2 fv2 tv2 A B, s.env 6 = .pointer (some ⟨p, 0, none⟩) ∧ s.env 7 = .pointer (some ⟨p2, 0, none⟩) ∧ Ap H3 A B s.heap p m fv tv [] ⟨T.map tm0, []⟩ p2 m2 fv2 tv2 [] ⟨T.map tm0, []⟩ 0) := ⟨_, rfl⟩
  refine w_cut I ?_ ?_
  · refine w_plan (P := Try.prog) (by simp [facts]) (.both (opsP [0] (.both (opsP [1,2,3,4,5] .done) (opsP [2,1,3,4,5] .done))) (opsP [2,0,1,3,4,5] .done)) ?_ ?_
    · decide +kernel
    simp (disch := first | omega | assumption | decide | (simp <;> omega) | fail) [facts, r5]
    repeat' apply And.intro
    all_goals
      refine (bnew_c _ T k U H3 hU5 hC (by omega) (by omega) hk).mono ?_
      rintro v H4 ⟨p, A, fv, tv, m, rfl, owA, hB, _⟩
      have r5' := owA.all _ _ r5
      simp (disch := first | omega | assumption | decide | (simp <;> omega) | fail) [facts, r5']
      refine (bnew_c _ T k U H4 (Heap.le_trans hU5 owA.all) hC (by omega) (by omega) hk).mono ?_
      rintro v H5 ⟨p2, B, fv2, tv2, m2, rfl, owB, hB2, _⟩
      simp (disch := first | omega | assumption | decide | (simp <;> omega) | fail) [facts, ]
      subst hI
      exact ⟨by simp, p, m, fv, tv, p2, m2, fv2, tv2, A, B, by simp, by simp, TwoO.new (Heap.le_refl H3) owA owB, hB, hB2, List.Perm.refl _, List.Perm.refl _, hok0, hok0, hpt0, Nat.le_refl _, Nat.le_refl _⟩
  rintro ⟨env, G⟩ hII
  subst hI
  obtain ⟨e1, p, m, fv, tv, p2, m2, fv2, tv2, A, B, e6, e7, hAp⟩ := hII
  simp only at e1 e6 e7 hAp
  simp (disch := first | omega | assumption | decide | (simp <;> omega) | fail) [facts, e1, e6, e7]
  refine w_loop (apInv H3 a n c p m fv tv p2 m2 fv2 tv2) (fun st => n - (intOf (st.env 8)).toNat) ?_ ?_
  · exact ⟨0, H3, A, B, [], _, [], _, Nat.zero_le _, by simp [e1], by simp [e6], by simp [e7], by simp, Heap.le_refl _, hAp⟩
  clear e1 e6 e7 hAp
  rintro ⟨env, G⟩ ⟨i, F, A, B, M, x2, M2, y2, hi, e1, e6, e7, e8, hF, hAp⟩
  simp only at e1 e6 e7 e8 hAp
  by_cases hlt : i < n
  · have hltI : (i : Int) < (n : Int) := by omega
    obtain ⟨x, hx⟩ : ∃ x, L[i]? = some x := ⟨_, List.getElem?_eq_getElem (by omega)⟩
    have hxw := hL x (List.mem_of_getElem? hx)
    obtain ⟨ab, ao, rfl⟩ := h.lit (by omega)
    have hsG := h.le (Heap.le_trans hF hAp.t.fle)
    obtain ⟨r, hr⟩ : ∃ r, r = recN x.kind x.k x.stan x.am := ⟨_, rfl⟩
    have hrc := fun H => recN_c x.kind x.k x.stan x.am hxw.kind hxw.k hxw.stan hxw.am H
    rw [← hr] at hrc
    have hrt : 0 ≤ r.term ∧ r.term ≤ 65535 := by
      rw [hr]
      show 0 ≤ ((x.k % 3 : Nat) : Int) ∧ ((x.k % 3 : Nat) : Int) ≤ 65535
      omega
    have hrl2 : r.pan.length ≤ 100000 := by rw [hr]; exact Nat.le_trans (recN_len _ _ _ _) (by decide)
    have er : recV r = .agg (recL r).toArray := rfl
    obtain ⟨rl, hrl⟩ : ∃ rl, rl = recL r := ⟨_, rfl⟩
    rw [← hrl] at er
    have rl17 : rl.length = 17 := by rw [hrl]; rfl
    have rl1 : rl.all (·.oneCell') = true := by rw [hrl]; rfl
    have k17 : List.take 17 rl = rl := List.take_of_length_le (by omega)
    have g1 : rl[1]? = some (.int .u16 r.term) := by rw [hrl]; rfl
    obtain ⟨_, g1b⟩ := List.getElem?_eq_some_iff.1 g1
    have hsp : splice [.int .i64 0, .int .u16 0, .int .u32 0, .string (mkS []), .int .i64 0, .int .i64 0, .int .i64 0, .int .i64 0, .int .i64 0, .int .i64 0, .int .i64 0, .int .i64 0, .int .i64 0, .int .i64 0, .int .i64 0, .int .i64 0, .int .i64 0] 0 rl = rl := splice_all (by rw [rl17]; rfl)
    simp (disch := first | omega | assumption | decide | (simp <;> omega) | fail) [facts, e1, e8, hltI]
    refine w_growL (by simp [facts]) 22 [34,35,36,37,38,39,40,41,42,43,44,45,46,47,48,49,50,51,52,53,54,9] [.eq (.slice (some ⟨ab, ao, none⟩) n c), .eq (.int .i64 i), .eq (.pointer (some ⟨ab, ao + i * 21, none⟩)), .eq (.pointer (some ⟨ab, ao + i * 21, none⟩)), .eq (.int .u8 x.kind), .eq (.slice (some ⟨ab, ao, none⟩) n c), .eq (.int .i64 i), .eq (.pointer (some ⟨ab, ao + i * 21, none⟩)), .eq (.pointer (some ⟨ab, ao + i * 21 + 1, none⟩)), .eq (.int .u8 x.k), .eq (.slice (some ⟨ab, ao, none⟩) n c), .eq (.int .i64 i), .eq (.pointer (some ⟨ab, ao + i * 21, none⟩)), .eq (.pointer (some ⟨ab, ao + i * 21 + 2, none⟩)), .eq (.int .u8 x.stan), .eq (.slice (some ⟨ab, ao, none⟩) n c), .eq (.int .i64 i), .eq (.pointer (some ⟨ab, ao + i * 21, none⟩)), .eq (.pointer (some ⟨ab, ao + i * 21 + 3, none⟩)), .eq (.int .u16 x.am), .eq (.agg rl.toArray), .new G [.int .i64 0, .int .u16 0, .int .u32 0, .string (mkS []), .int .i64 0, .int .i64 0, .int .i64 0, .int .i64 0, .int .i64 0, .int .i64 0, .int .i64 0, .int .i64 0, .int .i64 0, .int .i64 0, .int .i64 0, .int .i64 0, .int .i64 0] (fun b => .pointer (some ⟨b, 0, none⟩))] (by decide +kernel) rfl ?_ ?_
    · simp only [List.take_succ_cons, List.take_zero, allL_cons, allL_nil]
      refine ⟨?_, ?_, ?_, ?_, ?_, ?_, ?_, ?_, ?_, ?_, ?_, ?_, ?_, ?_, ?_, ?_, ?_, ?_, ?_, ?_, ?_, ?_, trivial⟩
      all_goals (unfold stepL; intro f Hx hl ha)
      all_goals (
        have x0 : rd1U (Hx ab) (ao + i * 21) = some (.int .u8 x.kind) := (hsG.le hl).el1 in21 hx (j := 0) (by decide)
        have x1 : rd1U (Hx ab) (ao + i * 21 + 1) = some (.int .u8 x.k) := (hsG.le hl).el1 in21 hx (j := 1) (by decide)
        have x2 : rd1U (Hx ab) (ao + i * 21 + 2) = some (.int .u8 x.stan) := (hsG.le hl).el1 in21 hx (j := 2) (by decide)
        have x3 : rd1U (Hx ab) (ao + i * 21 + 3) = some (.int .u16 x.am) := (hsG.le hl).el1 in21 hx (j := 3) (by decide))
      all_goals try (simp (disch := first | omega | assumption | decide | (simp <;> omega) | fail) [facts, e1, e8, hltI, x0, x1, x2, x3]; done)
      · simp (disch := first | omega | assumption | decide | (simp <;> omega) | fail) [facts, ]
        refine (hrc Hx).mono ?_
        rintro v H' ⟨rfl, hle'⟩
        simp (disch := first | omega | assumption | decide | (simp <;> omega) | fail) [facts, er]
        exact hle'
      · simp (disch := first | omega | assumption | decide | (simp <;> omega) | fail) [facts, ]
        refine fresh_intro fun b hb => ?_
        simp (disch := first | omega | assumption | decide | (simp <;> omega) | fail) [facts, ]
        exact ⟨le_upd _ hb, le_of_none hl hb⟩
    intro f G2 hle2 hkn
    replace hkn : (∃ b, f 9 = .pointer (some ⟨b, 0, none⟩) ∧ G b = none ∧ G2 b = some (.row true 0 [.int .i64 0, .int .u16 0, .int .u32 0, .string (mkS []), .int .i64 0, .int .i64 0, .int .i64 0, .int .i64 0, .int .i64 0, .int .i64 0, .int .i64 0, .int .i64 0, .int .i64 0, .int .i64 0, .int .i64 0, .int .i64 0, .int .i64 0] 0)) := by simpa using hkn
    obtain ⟨b9, f9, hb9, r9⟩ := hkn
    have hb9F := le_of_none hAp.t.fle hb9
    have t5 := (hAp.t.grow hle2).keep2 (le_of_none hAp.t.ale hb9) (le_of_none hAp.t.ble hb9) (.row true 0 rl 0)
    have hF5 := Heap.le_trans hF (le_upd (.row true 0 rl 0) hb9F)
    have r9F := upd_same F b9 (.row true 0 rl 0)
    simp (disch := first | omega | assumption | decide | (simp <;> omega) | fail) [facts, f9, r9, hsp]
    generalize upd F b9 _ = F5 at *
    generalize upd G2 b9 _ = G3 at *
    have r9g := t5.fle _ _ r9F
    have cd := bdo_c G3 A p fv tv m M x2.L x2.T t5.ale hAp.ba hAp.pa hAp.oa r hrt.1 hrt.2 hrl2
    rw [er] at cd
    have hokA := doB_ok hAp.oa r hrt.1
    have hlA := doB_len x2 r
    have hla := hAp.la
    have hlb := hAp.lb
    simp (disch := first | omega | assumption | decide | (simp <;> omega) | fail) [facts, e6, f9, r9g, k17]
    refine cd.mono ?_
    rintro v G4 ⟨rfl, A4, M4, ow4, hB4, hp4⟩
    have t6 := t5.left ow4
    have r9h := t6.fle _ _ r9F
    by_cases h1 : r.term = 1
    · have cd2 := bdo_c G4 B p2 fv2 tv2 m2 M2 y2.L y2.T t6.ble hAp.bb hAp.pb hAp.ob r hrt.1 hrt.2 hrl2
      rw [er] at cd2
      have hokB := doB_ok hAp.ob r hrt.1
      have hlB := doB_len y2 r
      have hpart := part_in hAp.part hAp.oa (by omega) (by omega) h1
      simp (disch := first | omega | assumption | decide | (simp <;> omega) | fail) [facts, f9, r9h, g1, g1b, h1, e7, k17]
      refine cd2.mono ?_
      rintro v G5 ⟨rfl, B5, M5, ow5, hB5, hp5⟩
      have t7 := t6.right ow5
      simp (disch := first | omega | assumption | decide | (simp <;> omega) | fail) [facts, e8]
      exact ⟨_, Heap.le_refl _, ⟨i + 1, F5, A4, B5, M4, _, M5, _, by omega, by simp [e1], by simp [e6], by simp [e7], by simp, hF5, ⟨t7, hB4, hB5, hp4, hp5, hokA, hokB, hpart, Nat.le_trans hlA (by omega), Nat.le_trans hlB (by omega)⟩⟩, by simp [intOf, e8]; omega⟩
    · have hpart := part_out hAp.part hAp.oa h1 hrt.1
      simp (disch := first | omega | assumption | decide | (simp <;> omega) | fail) [facts, f9, r9h, g1, g1b, h1, e7, k17, e8]
      exact ⟨_, Heap.le_refl _, ⟨i + 1, F5, A4, B, M4, _, M2, _, by omega, by simp [e1], by simp [e6], by simp [e7], by simp, hF5, ⟨t6, hB4, hAp.bb, hp4, hAp.pb, hokA, hAp.ob, hpart, Nat.le_trans hlA (by omega), by omega⟩⟩, by simp [intOf, e8]; omega⟩
  · have hltI : ¬ (i : Int) < (n : Int) := by omega
    obtain ⟨t1, hBa, hBb, hpa, hpb, hoa, hob, hpart, hla, hlb⟩ := hAp
    have hTa := hoa.few
    have hTb := hob.few
    have hLa := hoa.len
    have hLb := hob.len
    have c1 := cassettes_c G p fv tv m M x2.T (hBa.le t1.ale) 1 (by omega) hTa
    obtain ⟨sz, hsz⟩ : ∃ sz, cassZ x2.T 1 = .tuple #[.agg (flat sz).toArray, .bool (decide (1 < x2.T.length))] := ⟨_, rfl⟩
    have hsz2 : cassZ y2.T 1 = .tuple #[.agg (flat sz).toArray, .bool (decide (1 < x2.T.length))] := by
      rw [← hsz]
      unfold cassZ
      rw [← hpart.t, hpart.ln]
    rw [hsz] at c1
    have sl16 := flat16 sz
    have sl1 := flat1 sz
    have j16 : List.take 16 (flat sz) = flat sz := rfl
    have hspl : splice [.int .i64 0, .int .i64 0, .int .i64 0, .int .i64 0, .int .i64 0, .int .i64 0, .int .i64 0, .int .i64 0, .int .i64 0, .int .i64 0, .int .i64 0, .int .i64 0, .int .i64 0, .int .i64 0, .int .i64 0, .int .i64 0] 0 (flat sz) = flat sz := splice_all rfl
    have heq : eqCells [.int, .int, .int, .int, .int, .int, .int, .int, .int, .int, .int, .int, .int, .int, .int, .int] (flat sz) (flat sz) = some true := by
      unfold flat
      simp [eqC_int, eqC_nil]
    simp (disch := first | omega | assumption | decide | (simp <;> omega) | fail) [facts, e1, e6, e8, hltI]
    refine c1.mono ?_
    rintro v G1 ⟨rfl, hle1⟩
    have t2 := t1.grow hle1
    simp (disch := first | omega | assumption | decide | (simp <;> omega) | fail) [facts, ]
    refine fresh_intro fun b10 hb10 => ?_
    have t3 := t2.keep hb10 (.row true 0 (flat sz) 0)
    have r10F := upd_same F b10 (.row true 0 (flat sz) 0)
    simp (disch := first | omega | assumption | decide | (simp <;> omega) | fail) [facts, upd_upd, hspl]
    generalize upd F b10 _ = F3 at *
    generalize upd G1 b10 _ = G2 at *
    have c2 := cassettes_c G2 p2 fv2 tv2 m2 M2 y2.T (hBb.le t3.ble) 1 (by omega) hTb
    rw [hsz2] at c2
    simp (disch := first | omega | assumption | decide | (simp <;> omega) | fail) [facts, e7]
    refine c2.mono ?_
    rintro v G3 ⟨rfl, hle3⟩
    have t4 := t3.grow hle3
    simp (disch := first | omega | assumption | decide | (simp <;> omega) | fail) [facts, ]
    refine fresh_intro fun b12 hb12 => ?_
    have t5 := t4.keep hb12 (.row true 0 (flat sz) 0)
    have r12F := upd_same F3 b12 (.row true 0 (flat sz) 0)
    have r10F5 := upd_other (o := .row true 0 (flat sz) 0) (le_of_none t4.fle hb12) r10F
    simp (disch := first | omega | assumption | decide | (simp <;> omega) | fail) [facts, upd_upd, hspl]
    generalize upd F3 b12 _ = F5 at *
    generalize upd G3 b12 _ = G5 at *
    have p1 := bopen_c G5 p fv tv m M x2.L x2.T (hBa.le t5.ale) hpa hoa.ord (by omega) 1
    simp (disch := first | omega | assumption | decide | (simp <;> omega) | fail) [facts, e6]
    refine p1.mono ?_
    rintro v G6 ⟨U, owU, lU⟩
    have t6 := t5.grow owU.all
    obtain ⟨a1, d1, rfl, s1, _⟩ := lU.sl owU.le
    have p2' := bopen_c G6 p2 fv2 tv2 m2 M2 y2.L y2.T (hBb.le t6.ble) hpb hob.ord (by omega) 1
    rw [part_open hpart] at p2'
    simp (disch := first | omega | assumption | decide | (simp <;> omega) | fail) [facts, e7]
    refine p2'.mono ?_
    rintro v G7 ⟨U2, owU2, lU2⟩
    have t7 := t6.grow owU2.all
    obtain ⟨a2, d2, rfl, s2, _⟩ := lU2.sl owU2.le
    replace s1 := s1.le owU2.all
    obtain ⟨LL, hLL⟩ : ∃ LL, LL = x2.L.filter (keepB 1) := ⟨_, rfl⟩
    have hLLn : LL.length ≤ 1000 := by rw [hLL]; exact Nat.le_trans (List.length_filter_le _ _) (by omega)
    rw [← hLL] at s1 s2 ⊢
    obtain ⟨nl, hnl⟩ : ∃ nl, nl = LL.length := ⟨_, rfl⟩
    rw [← hnl] at s1 s2 hLLn ⊢
    have r10g := t7.fle _ _ r10F5
    have r12g := t7.fle _ _ r12F
    obtain ⟨ov, o1, o2⟩ : ∃ ov : Bool, (ECalls Try.prog 21 #[.pointer (some ⟨p, 0, none⟩), .int .u16 1] G7 fun v H' => v = .bool ov ∧ H' = G7) ∧ (ECalls Try.prog 21 #[.pointer (some ⟨p2, 0, none⟩), .int .u16 1] G7 fun v H' => v = .bool ov ∧ H' = G7) := by
      refine ⟨_, out_c G7 p fv tv m M x2.T (hBa.le t7.ale) 1 (by omega) hTa, ?_⟩
      have := out_c G7 p2 fv2 tv2 m2 M2 y2.T (hBb.le t7.ble) 1 (by omega) hTb
      rw [← hpart.t] at this
      exact this
    obtain ⟨lz, l1, l2⟩ : ∃ lz : Int, (ECalls Try.prog 20 #[.pointer (some ⟨p, 0, none⟩), .int .u16 1] G7 fun v H' => v = .int .i64 lz ∧ H' = G7) ∧ (ECalls Try.prog 20 #[.pointer (some ⟨p2, 0, none⟩), .int .u16 1] G7 fun v H' => v = .int .i64 lz ∧ H' = G7) := by
      refine ⟨_, loads_c G7 p fv tv m M x2.T (hBa.le t7.ale) 1 (by omega) hTa, ?_⟩
      have := loads_c G7 p2 fv2 tv2 m2 M2 y2.T (hBb.le t7.ble) 1 (by omega) hTb
      rw [← hpart.t] at this
      exact this
    simp (disch := first | omega | assumption | decide | (simp <;> omega) | fail) [facts, r10g, r12g, j16, heq, e6]
    refine o1.mono ?_
    rintro v H9 ⟨rfl, rfl⟩
    simp (disch := first | omega | assumption | decide | (simp <;> omega) | fail) [facts, e7]
    refine o2.mono ?_
    rintro v H9 ⟨rfl, rfl⟩
    simp (disch := first | omega | assumption | decide | (simp <;> omega) | fail) [facts, e6]
    refine l1.mono ?_
    rintro v H9 ⟨rfl, rfl⟩
    simp (disch := first | omega | assumption | decide | (simp <;> omega) | fail) [facts, e7]
    refine l2.mono ?_
    rintro v H9 ⟨rfl, rfl⟩
    simp (disch := first | omega | assumption | decide | (simp <;> omega) | fail) [facts, ]
    refine w_loop (fun st => ∃ j : Nat, j ≤ nl ∧ st.heap = H9 ∧ st.env 7 = .pointer (some ⟨p2, 0, none⟩) ∧ st.env 14 = .slice a1 nl d1 ∧ st.env 15 = .slice a2 nl d2 ∧ st.env 16 = .int .i64 j) (fun st => nl - (intOf (st.env 16)).toNat) ?_ ?_
    · exact ⟨0, Nat.zero_le _, rfl, by simp [e7], by simp, by simp, by simp⟩
    clear e1 e6 e7 e8
    rintro ⟨env, G⟩ ⟨j, hj, hG, e7, e14, e15, e16⟩
    simp only at hG e7 e14 e15 e16
    subst hG
    by_cases hlt2 : j < nl
    · have hltJ : (j : Int) < (nl : Int) := by omega
      obtain ⟨t, ht⟩ : ∃ t, LL[j]? = some t := ⟨_, List.getElem?_eq_getElem (by omega)⟩
      obtain ⟨ba, oa, rfl⟩ := s1.lit (by omega)
      obtain ⟨bb, ob, rfl⟩ := s2.lit (by omega)
      have ra : rdNU (G ba) (oa + j * 11) 11 = some (txnL t) := s1.el txn11 ht (j := 0) (r := 11) (by decide) (by decide)
      have rb : rdNU (G bb) (ob + j * 11) 11 = some (txnL t) := s2.el txn11 ht (j := 0) (r := 11) (by decide) (by decide)
      obtain ⟨te, st, pan, am, sta, n0, n1, n2, n3, gi, ow⟩ := t
      simp only [txnL] at ra rb
      simp (disch := first | omega | assumption | decide | (simp <;> omega) | fail) [facts, e14, e15, e16, hltJ]
      refine w_plan (P := Try.prog) (by simp [facts]) (opsP [0,1,2,3,4,5,6,7,8] .done) ?_ ?_
      · decide +kernel
      simp (disch := first | omega | assumption | decide | (simp <;> omega) | fail) [facts, e14, e15, e16, hltJ, ra, rb]
      exact ⟨_, Heap.le_refl _, ⟨j + 1, by omega, rfl, by simp [e7], by simp [e14], by simp [e15], by simp⟩, by simp [intOf, e16]; omega⟩
    · have hltJ : ¬ (j : Int) < (nl : Int) := by omega
      have q1 := bopen_c G p2 fv2 tv2 m2 M2 y2.L y2.T (hBb.le t7.ble) hpb hob.ord (by omega) 0
      rw [part_none hpart (by decide)] at q1
      simp (disch := first | omega | assumption | decide | (simp <;> omega) | fail) [facts, e7, e14, e16, hltJ]
      refine q1.mono ?_
      rintro v GA ⟨V, owV, lV⟩
      obtain ⟨a3, d3, rfl, _, _⟩ := lV.sl owV.le
      have q2 := bopen_c GA p2 fv2 tv2 m2 M2 y2.L y2.T (hBb.le (t7.grow owV.all).ble) hpb hob.ord (by omega) 2
      rw [part_none hpart (by decide)] at q2
      simp (disch := first | omega | assumption | decide | (simp <;> omega) | fail) [facts, e7]
      refine q2.mono ?_
      rintro v GB ⟨V2, owV2, lV2⟩
      obtain ⟨a4, d4, rfl, _, _⟩ := lV2.sl owV2.le
      simp (disch := first | omega | assumption | decide | (simp <;> omega) | fail) [facts, ]
      exact ⟨_, Heap.le_refl _⟩
end Go.Proofs.Ythaggpicjpkjiaa.GL
