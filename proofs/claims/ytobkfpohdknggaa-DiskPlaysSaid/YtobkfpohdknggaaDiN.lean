/- Layer 3: the walk of DiskPlays. -/
import Derived.Test.YtobkfpohdknggaaDiM
namespace Go.Proofs.Ytobkfpohdknggaa.GL
open Go Go.RowKit
set_option maxRecDepth 10000
set_option pp.deepTerms.threshold 8
set_option pp.maxSteps 3000
set_option linter.unusedSimpArgs false
set_option linter.unusedVariables false

structure St3 (H1 F A B H : Heap) (pd pr : Nat) (d : DZ) (r : RZ) (i : Nat) : Prop where
  f : Heap.le H1 F
  t : TwoO F A B H
  dk : Dsk A pd d
  rf : Ref B pr r
  s : Same3 d r
  few : d.wait.length ≤ i
theorem St3.few' {H1 F A B H : Heap} {pd pr i : Nat} {d : DZ} {r : RZ} (h : St3 H1 F A B H pd pr d r i) : r.wait.length ≤ i := by rw [h.s.wait]; exact h.few
def plInv3 (H1 : Heap) (a : Option Addr) (n c pd pr : Nat) (s : St) : Prop :=
  ∃ (i : Nat) (F A B : Heap) (d : DZ) (r : RZ), i ≤ n ∧ s.env 1 = .slice a n c ∧ s.env 6 = .pointer (some ⟨pd, 0, none⟩) ∧ s.env 7 = .pointer (some ⟨pr, 0, none⟩) ∧ s.env 8 = .int .i64 i ∧ St3 H1 F A B s.heap pd pr d r i
set_option maxHeartbeats 4000000 in
theorem diskPlays_c (N : Int) (a : Option Addr) (n c : Nat) (L : List A3Z) (H : Heap) (h : SlA H a n 5 (rowsC A3Z.cells L)) (hL : ∀ x ∈ L, A3Ok H x) (hN : -9223372036854775808 ≤ N ∧ N ≤ 9223372036854775807) :
    ECalls Try.prog 6 #[.int .i64 N, .slice a n c] H fun r _ => r = .bool true := by
  refine ecalls_of_ewp (args := [_, _]) Try.func6 rfl rfl rfl (by simp [Try.ntmps6]) (by kernel_rfl) ?_
  have hlen : L.length = n := h.els a35 (by decide)
  simp (disch := first | omega | assumption | decide | (simp <;> omega) | fail) [facts, ]
  refine (known3_c H).mono ?_
  rintro v H1 ⟨rfl, hle⟩
  by_cases hn : (60 : Int) < (n : Int)
  · simp (disch := first | omega | assumption | decide | (simp <;> omega) | fail) [facts, hn]
    exact ⟨_, Heap.le_refl _⟩
  replace h := h.le hle
  replace hL : ∀ x ∈ L, A3Ok H1 x := fun x hx => (hL x hx).le hle
  simp (disch := first | omega | assumption | decide | (simp <;> omega) | fail) [facts, hn]
  refine (diskNew_c H1 _).mono ?_
  rintro v H2 ⟨pd, A0, rfl, own1, d1⟩
  simp (disch := first | omega | assumption | decide | (simp <;> omega) | fail) [facts, ]
  refine (refNew_c H2 _).mono ?_
  rintro v H3 ⟨pr, B0, rfl, own2, r1⟩
  simp (disch := first | omega | assumption | decide | (simp <;> omega) | fail) [facts, ]
  refine w_loop (plInv3 H1 a n c pd pr) (fun s => n - (intOf (s.env 8)).toNat) ?_ ?_
  · exact ⟨0, H1, A0, B0, _, _, Nat.zero_le _, by simp, by simp, by simp, by simp, Heap.le_refl _, TwoO.new (Heap.le_refl _) own1 own2, d1, r1, Same3.new _, Nat.le_refl _⟩
  clear own1 own2 d1 r1
  rintro ⟨env, G⟩ ⟨i, F, A, B, d, r, hi, e1, e6, e7, e8, S⟩
  simp only at e1 e6 e7 e8 S
  by_cases hlt : i < n
  · have hltI : (i : Int) < (n : Int) := by omega
    obtain ⟨x, hx⟩ : ∃ x, L[i]? = some x := ⟨_, List.getElem?_eq_getElem (by omega)⟩
    have hxo := hL x (List.mem_of_getElem? hx)
    obtain ⟨b, o, rfl⟩ := h.lit (by omega)
    have rx : rdNU (G b) (o + i * 5) 5 = some [.int .u8 x.w, .int .u8 x.s, .int .u8 x.n, .slice x.a x.b.length x.c, .slice x.ka x.k.length x.kc] := by
      have := (h.le (Heap.le_trans S.f S.t.fle)).el a35 hx (j := 0) (r := 5) (by decide) (by decide)
      exact this
    simp (disch := first | omega | assumption | decide | (simp <;> omega) | fail) [facts, e1, e6, e7, e8, hltI, rx]
    refine fresh_intro fun b9 hb9 => ?_
    simp (disch := first | omega | assumption | decide | (simp <;> omega) | fail) [facts, upd_upd]
    have t2 := S.t.keep hb9 (.row true 0 [.int .u8 x.w, .int .u8 x.s, .int .u8 x.n, .slice x.a x.b.length x.c, .slice x.ka x.k.length x.kc] 0)
    have f2 := Heap.le_trans S.f (le_upd (.row true 0 [.int .u8 x.w, .int .u8 x.s, .int .u8 x.n, .slice x.a x.b.length x.c, .slice x.ka x.k.length x.kc] 0) (le_of_none S.t.fle hb9))
    have l9 := upd_same F b9 (.row true 0 [.int .u8 x.w, .int .u8 x.s, .int .u8 x.n, .slice x.a x.b.length x.c, .slice x.ka x.k.length x.kc] 0)
    have hd := S.dk
    have hr := S.rf
    have hs := S.s
    have hfew := S.few
    have hfew' := S.few'
    clear S rx
    generalize upd F b9 (.row true 0 [.int .u8 x.w, .int .u8 x.s, .int .u8 x.n, .slice x.a x.b.length x.c, .slice x.ka x.k.length x.kc] 0) = F2 at *
    generalize upd G b9 (.row true 0 [.int .u8 x.w, .int .u8 x.s, .int .u8 x.n, .slice x.a x.b.length x.c, .slice x.ka x.k.length x.kc] 0) = G2 at *
    have m9 := t2.fle _ _ l9
    by_cases h100 : (100 : Int) < (x.b.length : Int)
    · simp (disch := first | omega | assumption | decide | (simp <;> omega) | fail) [facts, e1, e6, e7, e8, m9, h100]
      exact ⟨_, Heap.le_refl _⟩
    by_cases h60 : (60 : Int) < (x.k.length : Int)
    · simp (disch := first | omega | assumption | decide | (simp <;> omega) | fail) [facts, e1, e6, e7, e8, m9, h100, h60]
      exact ⟨_, Heap.le_refl _⟩
    obtain ⟨z, hz⟩ : ∃ z : Int, (x.s : Int) % 8 - 1 = z := ⟨_, rfl⟩
    have hz2 : -1 ≤ z ∧ z ≤ 6 := by omega
    simp (disch := first | omega | assumption | decide | (simp <;> omega) | fail) [facts, e1, e6, e7, e8, m9, h100, h60, hz]
    obtain ⟨I, hI⟩ : ∃ I : St → Prop, I = (fun s => ∃ F A B d r, s.env 1 = .slice (some ⟨b, o, none⟩) n c ∧ s.env 6 = .pointer (some ⟨pd, 0, none⟩) ∧ s.env 7 = .pointer (some ⟨pr, 0, none⟩) ∧ s.env 8 = .int .i64 i ∧ St3 H1 F A B s.heap pd pr d r (i + 1)) := ⟨_, rfl⟩
    refine cond_cutB' I ?_ ?_
    · by_cases h4 : (x.w : Int) % 9 = 4
      · obtain ⟨s1, s2⟩ := hs.sync
        simp (disch := first | omega | assumption | decide | (simp <;> omega) | fail) [facts, e1, e6, e7, e8, h4]
        refine (diskSync_c t2.ale hd (by omega)).mono ?_
        rintro v G3 ⟨rfl, A3, ow3, hd3⟩
        have t3 := t2.left ow3
        simp (disch := first | omega | assumption | decide | (simp <;> omega) | fail) [facts, e1, e6, e7, e8, h4]
        refine (refSync_c t3.ble hr (by omega)).mono ?_
        rintro v G4 ⟨rfl, B4, ow4, hr4⟩
        have t4 := t3.right ow4
        rw [s1]
        simp (disch := first | omega | assumption | decide | (simp <;> omega) | fail) [facts, e1, e6, e7, e8, h4]
        subst hI
        exact ⟨F2, A3, B4, _, _, by simp [e1], by simp [e6], by simp [e7], by simp [e8], f2, t4, hd3, hr4, s2, by have := syncD_wait d; omega⟩
      by_cases h56 : (x.w : Int) % 9 = 5 ∨ (x.w : Int) % 9 = 6
      · have fin : ∀ G', Heap.le G2 G' → ∃ F A B d r, St3 H1 F A B G' pd pr d r (i + 1) := fun G' hl => ⟨F2, A, B, d, r, f2, t2.grow hl, hd, hr, hs, by omega⟩
        have ho := hs.out z
        by_cases hz0 : routZ r z = 0
        · obtain ⟨hg, j, hzj, hj⟩ := routZ_zero hz0
          subst hzj
          obtain ⟨s0, q1, q2⟩ := hs.read (j := j) (by rw [← hs.S]; exact hj)
          rcases h56 with h56 | h56
          all_goals
            simp (disch := first | omega | assumption | decide | (simp <;> omega) | fail) [facts, e1, e6, e7, e8, h56]
            refine (diskRead_in t2.ale hd j (by rw [← hs.gone]; exact hg) q2).mono ?_
            rintro v G3 ⟨hle3, a3, c3, rfl, out3⟩
            obtain ⟨_, _, e, sl3⟩ := out3.sl
            simp only [Value.slice.injEq] at e
            obtain ⟨rfl, _, rfl⟩ := e
            simp (disch := first | omega | assumption | decide | (simp <;> omega) | fail) [facts, e1, e6, e7, e8, h56]
            refine (refRead_in (t2.grow hle3).ble hr j hg q1 (by omega)).mono ?_
            rintro v G4 ⟨hle4, a4, c4, rfl, out4⟩
            obtain ⟨_, _, e, sl4⟩ := out4.sl
            simp only [Value.slice.injEq] at e
            obtain ⟨rfl, _, rfl⟩ := e
            replace sl3 : SlA G4 a3 64 1 ((readW j s0 r.wait).b.map u8V) := sl3.le hle4
            replace sl4 : SlA G4 a4 64 1 ((readW j s0 r.wait).b.map u8V) := sl4
            obtain ⟨F', A', B', d', r', S'⟩ := fin G4 (Heap.le_trans hle3 hle4)
            simp (disch := first | omega | assumption | decide | (simp <;> omega) | fail) [facts, e1, e6, e7, e8, h56, conv_bytes (P := Try.prog) (el := 5) (by simp [facts]) sl3, conv_bytes (P := Try.prog) (el := 5) (by simp [facts]) sl4, b_neqT]
            subst hI
            exact ⟨F', A', B', d', r', by simp [e1], by simp [e6], by simp [e7], by simp [e8], S'⟩
        · have c1 := diskRead_out t2.ale hd z (by rw [ho]; exact hz0)
          have c2 := refRead_out t2.ble hr z hz0
          rw [ho] at c1
          obtain ⟨F', A', B', d', r', S'⟩ := fin G2 (Heap.le_refl _)
          have sn : SlA G2 none 0 1 (([] : List UInt8).map u8V) := SlA.nil _ _
          rcases h56 with h56 | h56
          all_goals
            simp (disch := first | omega | assumption | decide | (simp <;> omega) | fail) [facts, e1, e6, e7, e8, h56]
            refine c1.mono ?_
            rintro v G3 ⟨rfl, rfl⟩
            simp (disch := first | omega | assumption | decide | (simp <;> omega) | fail) [facts, e1, e6, e7, e8, h56]
            refine c2.mono ?_
            rintro v G4 ⟨rfl, rfl⟩
            simp (disch := first | omega | assumption | decide | (simp <;> omega) | fail) [facts, e1, e6, e7, e8, h56, conv_bytes (P := Try.prog) (el := 5) (by simp [facts]) sn, b_neqT]
            subst hI
            exact ⟨F', A', B', d', r', by simp [e1], by simp [e6], by simp [e7], by simp [e8], S'⟩
      have h5 : ¬ (x.w : Int) % 9 = 5 := fun h => h56 (.inl h)
      have h6 : ¬ (x.w : Int) % 9 = 6 := fun h => h56 (.inr h)
      by_cases h7 : (x.w : Int) % 9 = 7
      · by_cases h3 : (x.n : Int) % 3 = 0
        · have hn16 : (x.n : Int) % 16 - 1 < 9223372036854775808 := by omega
          simp (disch := first | omega | assumption | decide | (simp <;> omega) | fail) [facts, e1, e6, e7, e8, h4, h5, h6, h7, m9, h3]
          refine (diskCut_c t2.ale hd ((x.n : Int) % 16 - 1) hn16).mono ?_
          rintro v G3 ⟨A3, ow3, hd3⟩
          have t3 := t2.left ow3
          have m9' := t3.fle _ _ l9
          simp (disch := first | omega | assumption | decide | (simp <;> omega) | fail) [facts, e1, e6, e7, e8, h4, h5, h6, h7, m9']
          refine (refCut_c t3.ble hr ((x.n : Int) % 16 - 1) hn16).mono ?_
          rintro v G4 ⟨B4, ow4, hr4⟩
          have t4 := t3.right ow4
          simp (disch := first | omega | assumption | decide | (simp <;> omega) | fail) [facts, e1, e6, e7, e8, h4, h5, h6, h7]
          subst hI
          exact ⟨F2, A3, B4, _, _, by simp [e1], by simp [e6], by simp [e7], by simp [e8], f2, t4, hd3, hr4, hs.cut _, by simp only [cutZ]; omega⟩
        · simp (disch := first | omega | assumption | decide | (simp <;> omega) | fail) [facts, e1, e6, e7, e8, h4, h5, h6, h7, m9, h3]
          subst hI
          exact ⟨F2, A, B, d, r, by simp [e1], by simp [e6], by simp [e7], by simp [e8], f2, t2, hd, hr, hs, by omega⟩
      by_cases h8 : (x.w : Int) % 9 = 8
      · have hxn := hxo.n
        have hfin : (reopenZ d x.k ((x.n : Int) - 20)).wait.length ≤ i + 1 := by simp [reopenZ]
        have hsre := hs.reopen x.k ((x.n : Int) - 20)
        simp (disch := first | omega | assumption | decide | (simp <;> omega) | fail) [facts, e1, e6, e7, e8, h4, h5, h6, h7, h8, m9]
        refine (diskReopen_c t2.ale hd t2.fle t2.fa (hxo.le f2).k ((x.n : Int) - 20) (by omega) (by omega)).mono ?_
        rintro v G3 ⟨A3, ow3, hd3⟩
        generalize reopenZ d x.k ((x.n : Int) - 20) = d' at *
        have t3 := t2.left ow3
        have m9' := t3.fle _ _ l9
        simp (disch := first | omega | assumption | decide | (simp <;> omega) | fail) [facts, e1, e6, e7, e8, h4, h5, h6, h7, m9']
        refine (refReopen_c t3.ble hr t3.fle t3.fb (hxo.le f2).k ((x.n : Int) - 20) (by omega) (by omega)).mono ?_
        rintro v G4 ⟨B4, ow4, hr4⟩
        have t4 := t3.right ow4
        simp (disch := first | omega | assumption | decide | (simp <;> omega) | fail) [facts, e1, e6, e7, e8, h4, h5, h6, h7]
        subst hI
        exact ⟨F2, A3, B4, _, _, by simp [e1], by simp [e6], by simp [e7], by simp [e8], f2, t4, hd3, hr4, hsre, hfin⟩
      · obtain ⟨s1, s2⟩ := hs.write z x.b
        simp (disch := first | omega | assumption | decide | (simp <;> omega) | fail) [facts, e1, e6, e7, e8, h4, h5, h6, h7, h8]
        refine w_plan (P := Try.prog) (by simp [facts]) (opsP [0,1,2,5,6,7] (.both (opsP [3] (.both (opsP [4,8,9,10] .done) (opsP [8,4,9,10] .done))) (opsP [8,3,4,9,10] .done))) ?_ ?_
        · decide +kernel
        simp (disch := first | omega | assumption | decide | (simp <;> omega) | fail) [facts, e1, e6, e7, e8, m9]
        repeat' apply And.intro
        all_goals
          refine (diskWrite_c t2.ale hd t2.fle t2.fa z (hxo.le f2).b (by omega) (by omega)).mono ?_
          rintro v G3 ⟨rfl, A3, ow3, hd3⟩
          have t3 := t2.left ow3
          have m9' := t3.fle _ _ l9
          simp (disch := first | omega | assumption | decide | (simp <;> omega) | fail) [facts, m9']
          refine (refWrite_c t3.ble hr t3.fle t3.fb z (hxo.le f2).b (by omega) (by omega)).mono ?_
          rintro v G4 ⟨rfl, B4, ow4, hr4⟩
          have t4 := t3.right ow4
          rw [s1]
          simp (disch := first | omega | assumption | decide | (simp <;> omega) | fail) [facts, e1, e6, e7, e8]
          subst hI
          exact ⟨F2, A3, B4, _, _, by simp [e1], by simp [e6], by simp [e7], by simp [e8], f2, t4, hd3, hr4, s2, by have := writeD_wait d z x.b; omega⟩
    subst hI
    clear e1 e6 e7 e8 t2 f2 l9 m9 hd hr hs hfew hfew' hxo
    rintro ⟨env, G⟩ ⟨F, A, B, d, r, e1, e6, e7, e8, S⟩
    simp only at e1 e6 e7 e8 S
    have hd := S.dk
    have hr := S.rf
    have hsw := S.few
    obtain ⟨k, ok, ck, rk, qv, ra⟩ := S.rf
    have hpr := S.t.ble _ _ ra.row
    rw [S.s.gone, S.s.S] at hpr
    refine ewp_seq_cut (I := fun s => s.heap = G ∧ s.env 1 = .slice (some ⟨b, o, none⟩) n c ∧ s.env 6 = .pointer (some ⟨pd, 0, none⟩) ∧ s.env 7 = .pointer (some ⟨pr, 0, none⟩) ∧ s.env 8 = .int .i64 i ∧ s.env 159 = .bool false) ?_ ?_
    · refine w_plan (P := Try.prog) (by simp [facts]) (opsP [0,2,3,4] (.both (opsP [1,5,6,7,8,10,11,12] (.both (opsP [9,13,14,15,16] .done) (opsP [13,14,9,15,16] .done))) (opsP [5,1,6,7,8,10,11,12] (.both (opsP [9,13,14,15,16] .done) (opsP [13,14,9,15,16] .done))))) ?_ ?_
      · decide +kernel
      simp (disch := first | omega | assumption | decide | (simp <;> omega) | fail) [facts, e1, e6, e7, e8, hpr]
      repeat' apply And.intro
      all_goals
        refine (diskDown_c S.t.ale hd).mono ?_
        rintro v G3 ⟨rfl, rfl⟩
        simp (disch := first | omega | assumption | decide | (simp <;> omega) | fail) [facts, e1, e6, e7, e8, hpr]
        repeat' apply And.intro
        all_goals
          refine (diskSectors_c S.t.ale hd).mono ?_
          rintro v G4 ⟨rfl, rfl⟩
          simp (disch := first | omega | assumption | decide | (simp <;> omega) | fail) [facts, e1, e6, e7, e8, hpr]
    rintro ⟨env, G'⟩ ⟨hG, e1, e6, e7, e8, e159⟩
    simp only at hG e1 e6 e7 e8 e159
    subst hG
    simp (disch := first | omega | assumption | decide | (simp <;> omega) | fail) [facts, e1, e6, e7, e8, e159]
    exact ⟨_, Heap.le_refl _, ⟨i + 1, F, A, B, d, r, by omega, by simp [e1], by simp [e6], by simp [e7], by simp, S⟩, by simp [intOf]; omega⟩
  · have hin : i = n := by omega
    subst hin
    have hltI : ¬ (i : Int) < (i : Int) := by omega
    have hd := S.dk
    have hr := S.rf
    have hs := S.s
    have hfew := S.few
    have hfew' := S.few'
    have t := S.t
    obtain ⟨k, ok, ck, rk, qv, ra⟩ := S.rf
    simp (disch := first | omega | assumption | decide | (simp <;> omega) | fail) [facts, e1, e6, e7, e8, hltI]
    refine (diskClone_c t.ale hd (by omega)).mono ?_
    rintro v Hc ⟨pc, C, rfl, owc, hc⟩
    have hleC := owc.all
    have hpr := hleC _ _ (t.ble _ _ ra.row)
    simp (disch := first | omega | assumption | decide | (simp <;> omega) | fail) [facts, e1, e6, e7, e8]
    refine w_loop (fun s => ∃ j : Nat, j ≤ r.S.length ∧ s.env 6 = .pointer (some ⟨pd, 0, none⟩) ∧ s.env 7 = .pointer (some ⟨pr, 0, none⟩) ∧ s.env 15 = .pointer (some ⟨pc, 0, none⟩) ∧ s.env 16 = .int .i64 j ∧ Heap.le Hc s.heap) (fun s => r.S.length - (intOf (s.env 16)).toNat) ?_ ?_
    · exact ⟨0, Nat.zero_le _, by simp [e6], by simp [e7], by simp, by simp, Heap.le_refl _⟩
    clear e1 e6 e7 e8
    rintro ⟨env, G1⟩ ⟨j, hj, e6, e7, e15, e16, hl1⟩
    simp only at e6 e7 e15 e16 hl1
    have hpr1 := hl1 _ _ hpr
    by_cases hjl : j < r.S.length
    · have hjI : (j : Int) < (r.S.length : Int) := by omega
      have hfewS := ra.few
      have ho := hs.out (j : Int)
      simp (disch := first | omega | assumption | decide | (simp <;> omega) | fail) [facts, e6, e7, e15, e16, hpr1, hjI]
      by_cases hg : r.gone = true
      · have hz : routZ r j = 22 := by simp [routZ, hg]
        have c1 := diskRead_out (Heap.le_trans t.ale (Heap.le_trans hleC hl1)) hd (j : Int) (by rw [ho, hz]; decide)
        have c2 := refRead_out (Heap.le_trans t.ble (Heap.le_trans hleC hl1)) hr (j : Int) (by rw [hz]; decide)
        have c3 := diskRead_out (Heap.le_trans owc.le hl1) hc (j : Int) (by rw [ho, hz]; decide)
        rw [ho, hz] at c1 c3
        rw [hz] at c2
        have sn : SlA G1 none 0 1 (([] : List UInt8).map u8V) := SlA.nil _ _
        refine c1.mono ?_
        rintro v G3 ⟨rfl, rfl⟩
        simp (disch := first | omega | assumption | decide | (simp <;> omega) | fail) [facts, e6, e7, e15, e16]
        refine c2.mono ?_
        rintro v G4 ⟨rfl, rfl⟩
        simp (disch := first | omega | assumption | decide | (simp <;> omega) | fail) [facts, e6, e7, e15, e16]
        refine c3.mono ?_
        rintro v G5 ⟨rfl, rfl⟩
        simp (disch := first | omega | assumption | decide | (simp <;> omega) | fail) [facts, e6, e7, e15, e16, conv_bytes (P := Try.prog) (el := 5) (by simp [facts]) sn, b_neqT]
        exact ⟨_, Heap.le_refl _, ⟨j + 1, by omega, by simp [e6], by simp [e7], by simp [e15], by simp, hl1⟩, by simp [intOf]; omega⟩
      · have hgf : r.gone = false := by simpa using hg
        obtain ⟨s0, q1, q2⟩ := hs.read (j := j) (by rw [← hs.S]; exact hjl)
        refine (diskRead_in (Heap.le_trans t.ale (Heap.le_trans hleC hl1)) hd j (by rw [← hs.gone]; exact hgf) q2).mono ?_
        rintro v G3 ⟨hle3, a3, c3, rfl, out3⟩
        obtain ⟨_, _, e, sl3⟩ := out3.sl
        simp only [Value.slice.injEq] at e
        obtain ⟨rfl, _, rfl⟩ := e
        simp (disch := first | omega | assumption | decide | (simp <;> omega) | fail) [facts, e6, e7, e15, e16]
        refine (refRead_in (Heap.le_trans t.ble (Heap.le_trans hleC (Heap.le_trans hl1 hle3))) hr j hgf q1 (by omega)).mono ?_
        rintro v G4 ⟨hle4, a4, c4, rfl, out4⟩
        obtain ⟨_, _, e, sl4⟩ := out4.sl
        simp only [Value.slice.injEq] at e
        obtain ⟨rfl, _, rfl⟩ := e
        simp (disch := first | omega | assumption | decide | (simp <;> omega) | fail) [facts, e6, e7, e15, e16]
        refine (diskRead_in (Heap.le_trans owc.le (Heap.le_trans hl1 (Heap.le_trans hle3 hle4))) hc j (by rw [← hs.gone]; exact hgf) q2).mono ?_
        rintro v G5 ⟨hle5, a5, c5, rfl, out5⟩
        obtain ⟨_, _, e, sl5⟩ := out5.sl
        simp only [Value.slice.injEq] at e
        obtain ⟨rfl, _, rfl⟩ := e
        replace sl3 : SlA G5 a3 64 1 ((readW j s0 r.wait).b.map u8V) := sl3.le (Heap.le_trans hle4 hle5)
        replace sl4 : SlA G5 a4 64 1 ((readW j s0 r.wait).b.map u8V) := sl4.le hle5
        replace sl5 : SlA G5 a5 64 1 ((readW j s0 r.wait).b.map u8V) := sl5
        simp (disch := first | omega | assumption | decide | (simp <;> omega) | fail) [facts, e6, e7, e15, e16, conv_bytes (P := Try.prog) (el := 5) (by simp [facts]) sl3, conv_bytes (P := Try.prog) (el := 5) (by simp [facts]) sl4, conv_bytes (P := Try.prog) (el := 5) (by simp [facts]) sl5, b_neqT]
        exact ⟨_, Heap.le_refl _, ⟨j + 1, by omega, by simp [e6], by simp [e7], by simp [e15], by simp, Heap.le_trans hl1 (Heap.le_trans hle3 (Heap.le_trans hle4 hle5))⟩, by simp [intOf]; omega⟩
    · have hjI : ¬ (j : Int) < (r.S.length : Int) := by omega
      simp (disch := first | omega | assumption | decide | (simp <;> omega) | fail) [facts, e6, e7, e15, e16, hpr1, hjI]
      exact ⟨_, Heap.le_refl _⟩
end Go.Proofs.Ytobkfpohdknggaa.GL
