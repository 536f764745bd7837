/- Layer 21: LedgerApart, walked. -/
import Derived.Test.YtdeffhibolcebaaLeH
namespace Go.Proofs.Ytdeffhibolcebaa.GL
open Go Go.RowKit Go.MapKept
set_option maxRecDepth 10000
set_option pp.deepTerms.threshold 8
set_option pp.maxSteps 3000
set_option linter.unusedSimpArgs false
set_option linter.unusedVariables false

theorem mkN_two (a b : Int) (ha : 0 ≤ a ∧ a ≤ 65535) (hb : 0 ≤ b ∧ b ≤ 65535) : mkN [a, b] [p51, p9] 2 = [(p51, a), (p9, b)] := by
  have h1 : min (max a 0) 1000000000000 = a := by omega
  have h2 : min (max b 0) 1000000000000 = b := by omega
  simp [mkN, stepF, gF, idxF, clampAt, h1, h2, (by decide : ¬ p51 = p9)]
theorem apart_c (a b stan : Int) (pan : ByteArray) (H : Heap) (ha : 0 ≤ a ∧ a ≤ 65535) (hb : 0 ≤ b ∧ b ≤ 65535) (hs : 0 ≤ stan ∧ stan ≤ 255) :
    ECalls Try.prog 5 #[.int .u16 a, .int .u16 b, .int .u8 stan, .string pan] H fun r _ => r = .bool true := by
  refine ecalls_of_ewp (args := [_, _, _, _]) Try.func5 rfl rfl rfl (by simp [Try.ntmps5]) (by kernel_rfl) ?_
  simp (disch := first | omega | assumption | decide | (simp <;> omega) | fail) [facts, ]
  refine (known_c H).mono ?_
  rintro v H0 ⟨rfl, hle0⟩
  by_cases hlen : 60 < pan.size
  · have hlenI : (60 : Int) < (pan.size : Int) := by omega
    simp (disch := first | omega | assumption | decide | (simp <;> omega) | fail) [facts, hlenI]
    exact ⟨_, Heap.le_refl _⟩
  have hlenI : ¬ (60 : Int) < (pan.size : Int) := by omega
  simp (disch := first | omega | assumption | decide | (simp <;> omega) | fail) [facts, hlenI]
  refine fresh_intro fun b1 hb1 => ?_
  simp (disch := first | omega | assumption | decide | (simp <;> omega) | fail) [facts, ]
  refine fresh_intro fun b2 hb2 => ?_
  simp (disch := first | omega | assumption | decide | (simp <;> omega) | fail) [facts, ]
  have s1 : SlA (upd (upd H0 b1 (.row true 0 [.string p51, .string p9] 0)) b2 (.row true 0 [.int .i64 a, .int .i64 b] 0)) (some ⟨b1, 0, none⟩) 2 1 ([p51, p9].map .string) := SlA.row (upd_other hb2 (upd_same _ _ _)) (Nat.le_refl _) rfl (by simp) (by simp)
  have s2 : SlA (upd (upd H0 b1 (.row true 0 [.string p51, .string p9] 0)) b2 (.row true 0 [.int .i64 a, .int .i64 b] 0)) (some ⟨b2, 0, none⟩) 2 1 ([a, b].map i64V) := SlA.row (upd_same _ _ _) (Nat.le_refl _) rfl (by simp) (by simp [i64V])
  refine (new_c _ _ _ 2 2 2 2 [p51, p9] [a, b] s1 s2 (by decide) (by decide)).mono ?_
  rintro v H1 ⟨p, fm, lm, R1, rfl, ow1, hL1⟩
  rw [mkN_two a b ha hb] at hL1
  clear s1 s2
  obtain ⟨c, d, e, F1, F2, F3, L1, L2, L3, f, g, there, q1, q2, q3, q4, q5, q6, q7, q8, q9, hv2, hv3, hP⟩ := apart_pure a b stan pan ha hb
  simp (disch := first | omega | assumption | decide | (simp <;> omega) | fail) [facts, ]
  refine fresh_intro fun kb hkb => ?_
  simp (disch := first | omega | assumption | decide | (simp <;> omega) | fail) [facts, ]
  refine fresh_intro fun kc hkc => ?_
  have hbc : kb ≠ kc := fun e => by subst e; rw [upd_same] at hkc; cases hkc
  simp (disch := first | omega | assumption | decide | (simp <;> omega) | fail) [facts, upd_same, upd_ne _ _ hbc, upd_ne _ _ hbc.symm]
  obtain ⟨H2, hH2⟩ : ∃ H2, H2 = upd (upd (upd (upd H1 kb (.row true 0 [.int .u16 0, .int .u32 0] 0)) kc (.row true 0 [.int .u16 0, .int .u32 0] 0)) kb (.row true 0 [.int .u16 0, .int .u32 stan] 0)) kc (.row true 0 [.int .u16 1, .int .u32 stan] 0) := ⟨_, rfl⟩
  have hk2 : H2 kb = some (.row true 0 [.int .u16 0, .int .u32 stan] 0) := by rw [hH2, upd_ne _ _ hbc, upd_same]
  have hc2 : H2 kc = some (.row true 0 [.int .u16 1, .int .u32 stan] 0) := by rw [hH2, upd_same]
  have hkc1 : H1 kc = none := by rw [upd_ne _ _ hbc.symm] at hkc; exact hkc
  have hl2 : Heap.le H1 H2 := fun i o hi => by
    rw [hH2, upd_ne _ _ (ne_of_fresh hkc1 hi), upd_ne _ _ (ne_of_fresh hkb hi), upd_ne _ _ (ne_of_fresh hkc1 hi), upd_ne _ _ (ne_of_fresh hkb hi)]
    exact hi
  rw [← hH2]
  have hR2 : Heap.le R1 H2 := Heap.le_trans ow1.le hl2
  have hkR : R1 kb = none := le_of_none ow1.le hkb
  have hcR : R1 kc = none := le_of_none ow1.le hkc1
  obtain ⟨I, hI⟩ : ∃ I : St → Prop, I = (fun st => ∃ R3, st.env 0 = .int .u16 a ∧ st.env 1 = .int .u16 b ∧ st.env 3 = .string pan ∧ st.env 9 = .pointer (some ⟨p, 0, none⟩) ∧ st.env 10 = .pointer (some ⟨kb, 0, none⟩) ∧ st.env 11 = .pointer (some ⟨kc, 0, none⟩) ∧ st.env 12 = .string c ∧ st.env 13 = .string d ∧ Own H2 R1 st.heap R3 ∧ Led R3 p F2 L2 fm lm) := ⟨_, rfl⟩
  refine w_cut I ?_ ?_
  · refine w_plan (by simp [facts]) (opsP [0,2,3,4,5,7,9,10] (.both (opsP [1] (.both (opsP [6,8,11,12,13] .done) (opsP [8,6,11,12,13] .done))) (opsP [8,1,6,11,12,13] .done))) (by decide +kernel) ?_
    simp (disch := first | omega | assumption | decide | (simp <;> omega) | fail) [facts, hk2, hc2]
    repeat' apply And.intro
    all_goals
      refine (debit_c hR2 hL1 0 stan p51 (a / 2 + 1) (fun v hv => by rw [gF51] at hv; cases hv; omega)).mono ?_
      rintro v H3 ⟨rfl, R3, ow3, hL3⟩
      rw [q2, q3] at hL3
      rw [q1]
      have hc3 := (ow3.mv _ _ hcR hc2).2
      simp (disch := first | omega | assumption | decide | (simp <;> omega) | fail) [facts, hc3]
      refine (debit_c ow3.le hL3 1 stan p9 b hv2).mono ?_
      rintro v H4 ⟨rfl, R4, ow4, hL4⟩
      rw [q5, q6] at hL4
      rw [q4]
      simp (disch := first | omega | assumption | decide | (simp <;> omega) | fail) [facts, ]
      subst hI
      exact ⟨R4, by simp, by simp, by simp, by simp, by simp, by simp, by simp, by simp, ow3.trans ow4, hL4⟩
  rintro ⟨env, H4⟩ hS
  subst hI
  obtain ⟨R4, e0, e1, e3, e9, e10, e11, e12, e13, ow4, hL4⟩ := hS
  simp only at e0 e1 e3 e9 e10 e11 e12 e13 ow4
  have hk4 := ow4.mv _ _ hkR hk2
  have hc4 := ow4.mv _ _ hcR hc2
  simp (disch := first | omega | assumption | decide | (simp <;> omega) | fail) [facts, e3, e9]
  refine (debit_c ow4.le hL4 2 0 pan 5 hv3).mono ?_
  rintro v H5 ⟨rfl, R5, ow5, hL5⟩
  rw [q8, q9] at hL5
  rw [q7]
  have hk5 := ow5.mv _ _ hk4.1 hk4.2
  have hc5 := ow5.mv _ _ hc4.1 hc4.2
  simp (disch := first | omega | assumption | decide | (simp <;> omega) | fail) [facts, e9]
  refine (funds_c ow5.le hL5 p51).mono ?_
  rintro v H6 ⟨rfl, hle6⟩
  rw [hP.hf]
  simp (disch := first | omega | assumption | decide | (simp <;> omega) | fail) [facts, e9]
  refine (funds_c (Heap.le_trans ow5.le hle6) hL5 p9).mono ?_
  rintro v H7 ⟨rfl, hle7⟩
  rw [hP.hg]
  have hR7 := Heap.le_trans ow5.le (Heap.le_trans hle6 hle7)
  simp (disch := first | omega | assumption | decide | (simp <;> omega) | fail) [facts, e9, e3]
  refine (funds_c hR7 hL5 pan).mono ?_
  rintro v H8 ⟨rfl, hle8⟩
  rw [hP.hp]
  have hR8 := Heap.le_trans hR7 hle8
  have hk8 := hle8 _ _ (hle7 _ _ (hle6 _ _ hk5.2))
  have hc8 := hle8 _ _ (hle7 _ _ (hle6 _ _ hc5.2))
  have hck := hP.hc
  have hdk := hP.hd
  have hth := hP.ht
  have hnn := hP.nn
  obtain ⟨x1, hx1⟩ : ∃ x, x = decide (a / 2 + 1 ≤ a) := ⟨_, rfl⟩
  obtain ⟨x2, hx2⟩ : ∃ x, x = decide (0 < b) := ⟨_, rfl⟩
  obtain ⟨x3, hx3⟩ : ∃ x, x = decide (pan = p51) := ⟨_, rfl⟩
  obtain ⟨x4, hx4⟩ : ∃ x, x = decide (pan = p9) := ⟨_, rfl⟩
  rw [← hx1] at hck
  rw [← hx2] at hdk
  rw [← hx3, ← hx4] at hth
  cases there with
  | true =>
    have n1 : 0 ≤ f := hnn.1
    have n2 : 0 ≤ g := hnn.2
    cases x3 with
    | true =>
      simp (disch := first | omega | assumption | decide | (simp <;> omega) | fail) [facts, e0, e1, e3, e12, e13, hck, hdk, ← hx1, ← hx2, ← hx3, ← hx4, n1, n2]
      exact ⟨_, Heap.le_refl _⟩
    | false =>
      cases x4 with
      | true =>
        simp (disch := first | omega | assumption | decide | (simp <;> omega) | fail) [facts, e0, e1, e3, e12, e13, hck, hdk, ← hx1, ← hx2, ← hx3, ← hx4, n1, n2]
        exact ⟨_, Heap.le_refl _⟩
      | false => cases hth
  | false =>
    obtain ⟨rfl, rfl⟩ : x3 = false ∧ x4 = false := by
      clear hx3 hx4
      cases x3 <;> cases x4 <;> simp at hth ⊢
    have he14 := hP.he rfl
    obtain ⟨q10, q11, q12⟩ := hP.eq rfl
    have hnb := hP.nb
    simp (disch := first | omega | assumption | decide | (simp <;> omega) | fail) [facts, e0, e1, e3, e9, e10, e11, e12, e13, hck, hdk, ← hx1, ← hx2, ← hx3, ← hx4, he14, hk8]
    refine (net_c hR8 hL5 0 stan).mono ?_
    rintro v H9 ⟨rfl, hle9⟩
    have hc9 := hle9 _ _ hc8
    obtain ⟨n0, hn0⟩ : ∃ n0, n0 = netE 0 stan L3 := ⟨_, rfl⟩
    obtain ⟨n1, hn1⟩ : ∃ n1, n1 = netE 1 stan L3 := ⟨_, rfl⟩
    rw [← hn0] at q10 hnb ⊢
    rw [← hn1] at q11 hnb
    obtain ⟨⟨w1, w2⟩, ⟨w3, w4⟩, w5, w6⟩ := hnb
    subst q10
    subst q11
    simp (disch := first | omega | assumption | decide | (simp <;> omega) | fail) [facts, e0, e1, e9, e11, hc9]
    refine (net_c (Heap.le_trans hR8 hle9) hL5 1 stan).mono ?_
    rintro v H10 ⟨rfl, hle10⟩
    rw [← hn1]
    simp (disch := first | omega | assumption | decide | (simp <;> omega) | fail) [facts, e0, e1, e9, e11, hc9]
    refine (total_c (Heap.le_trans hR8 (Heap.le_trans hle9 hle10)) hL5 hP.len hP.bd).mono ?_
    rintro v H11 ⟨rfl, hle11⟩
    simp (disch := first | omega | assumption | decide | (simp <;> omega) | fail) [facts, q12]
    exact ⟨_, Heap.le_refl _⟩
end Go.Proofs.Ytdeffhibolcebaa.GL
