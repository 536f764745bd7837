/- Layer 19: the walk of StepLives. -/
import Derived.Test.YtahmnhdmnhijcaaStG
namespace Go.Proofs.Ytahmnhdmnhijcaa.GL
open Go Go.RowKit
set_option maxRecDepth 10000
set_option pp.deepTerms.threshold 8
set_option pp.maxSteps 3000
set_option linter.unusedSimpArgs false
set_option linter.unusedVariables false

theorem LifeT.few {A : Int} {t : Txn} {s c : Int} (h : LifeT A t s c) : 0 ≤ s ∧ s ≤ 1 ∧ 0 ≤ c ∧ c ≤ 1 := by
  rcases h with ⟨_, h1, h2⟩ | ⟨_, _, _, _, h⟩ <;> omega

set_option maxHeartbeats 8000000 in
theorem stepLives_c (a : Option Addr) (n c : Nat) (bs : List UInt8) (am gi : Nat) (H : Heap) (h : SlA H a n 1 (bs.map u8V)) (ham : am < 65536) (hgi : gi < 65536) :
    ECalls Try.prog 3 #[.slice a n c, .int .u16 am, .int .u16 gi] H fun r _ => r = .bool true := by
  refine ecalls_of_ewp (args := [_, _, _]) Try.func3 rfl rfl rfl (by simp [Try.ntmps3]) (by kernel_rfl) ?_
  have hl : bs.length = n := by simpa using h.len
  have e1 : (am : Int) % 3000 = ((am % 3000 : Nat) : Int) := by omega
  have h3 : am % 3000 < 3000 := Nat.mod_lt _ (by decide)
  generalize am % 3000 = x at e1 h3
  obtain ⟨G, hG, hG2⟩ : ∃ G : Int, (gi : Int) % ((x : Int) + 1 + 1) = G ∧ 0 ≤ G ∧ G ≤ (x : Int) + 1 := ⟨_, rfl, Int.emod_nonneg _ (by omega), by have := Int.emod_lt_of_pos (gi : Int) (show 0 < (x : Int) + 1 + 1 by omega); omega⟩
  obtain ⟨A, hA⟩ : ∃ A : Int, A = (x : Int) + 1 := ⟨_, rfl⟩
  rw [← hA] at hG hG2
  have hA3 : 1 ≤ A ∧ A ≤ 3000 := by omega
  simp (disch := first | omega | assumption | decide | (simp <;> omega) | fail) [facts, ]
  refine (known_c H).mono ?_
  rintro r H1 ⟨rfl, hle1⟩
  by_cases t40 : (40 : Int) < n
  · simp (disch := first | omega | assumption | decide | (simp <;> omega) | fail) [facts, t40]
    exact ⟨_, Heap.le_refl _⟩
  simp (disch := first | omega | assumption | decide | (simp <;> omega) | fail) [facts, t40, e1, ← hA]
  refine fresh_intro fun b8 hb8 => ?_
  simp (disch := first | omega | assumption | decide | (simp <;> omega) | fail) [facts, upd_upd]
  refine fresh_intro fun b9 hb9 => ?_
  have n89 : b8 ≠ b9 := ne_of_fresh hb9 (upd_same _ _ _)
  have n98 := n89.symm
  have hb8' : H b8 = none := le_of_none hle1 hb8
  have hb9' : H b9 = none := le_of_none hle1 (le_of_none (le_upd _ hb8) hb9)
  have hle2 : Heap.le H (upd (upd H1 b8 (.row true 0 [.int .u16 1, .int .u32 7] 0)) b9 (.row true 0 (txnL zeroT) 0)) := le_updN _ (le_updN _ hle1 hb8') hb9'
  have l8 : upd (upd H1 b8 (.row true 0 [.int .u16 1, .int .u32 7] 0)) b9 (.row true 0 (txnL zeroT) 0) b8 = some (.row true 0 [.int .u16 1, .int .u32 7] 0) := by rw [upd_ne _ _ n89, upd_same]
  have l9 : upd (upd H1 b8 (.row true 0 [.int .u16 1, .int .u32 7] 0)) b9 (.row true 0 (txnL zeroT) 0) b9 = some (.row true 0 (txnL zeroT) 0) := upd_same _ _ _
  simp (disch := first | omega | assumption | decide | (simp <;> omega) | fail) [facts, upd_upd]
  refine w_cutB (fun s => s.env 9 = .pointer (some ⟨b9, 0, none⟩) ∧ ∃ t sn cn, LifeT A t sn cn ∧ s.heap b9 = some (.row true 0 (txnL t) 0)) ?_ ?_
  · refine w_loop (fun s => ∃ k : Nat, k ≤ n ∧ s.env 0 = .slice a n c ∧ s.env 2 = .int .u16 gi ∧ s.env 7 = .int .i64 A ∧ s.env 8 = .pointer (some ⟨b8, 0, none⟩) ∧ s.env 9 = .pointer (some ⟨b9, 0, none⟩) ∧ s.env 12 = .int .i64 k ∧ Heap.le H s.heap ∧
      s.heap b8 = some (.row true 0 [.int .u16 1, .int .u32 7] 0) ∧ ∃ t sn cn, LifeT A t sn cn ∧ s.env 10 = .int .i64 sn ∧ s.env 11 = .int .i64 cn ∧ s.heap b9 = some (.row true 0 (txnL t) 0)) (fun s => n - (intOf (s.env 12)).toNat) ?_ ?_
    · exact ⟨0, Nat.zero_le _, by simp, by simp, by simp, by simp, by simp, by simp, hle2, l8, zeroT, 0, 0, .inl ⟨rfl, rfl, rfl⟩, by simp, by simp, l9⟩
    · clear l8 l9 hle2
      rintro ⟨e, H2⟩ ⟨k, hk, e0, e2, e7, e8, e9, e12, hle, l8, t, sn, cn, hlife, e10, e11, l9⟩
      simp only at e0 e2 e7 e8 e9 e10 e11 e12 hle l8 l9
      by_cases hlt : (k : Int) < n
      · obtain ⟨b, hb⟩ : ∃ b, bs[k]? = some b := ⟨_, List.getElem?_eq_getElem (by omega)⟩
        have gx := (h.le hle).at hb
        rw [u8V_def] at gx
        have px := h.plain
        have tx := h.there (by omega)
        have hfew := hlife.few
        have hb256 := b.toNat_lt
        have e7m : (b.toNat : Int) % 7 = ((b.toNat % 7 : Nat) : Int) := by omega
        have hm7 : b.toNat % 7 < 7 := Nat.mod_lt _ (by decide)
        generalize b.toNat % 7 = m at e7m hm7
        have cs := fun H => step_c t (lifeR ((m : Int) + 1) A G) H hlife.right (lifeR_right _ A G (by omega) hA3 hG2) (hlife.key _ _)
        have hstep := life_step A G ((m : Int) + 1) t sn cn hlife (by omega) hA3 hG2
        simp (disch := first | omega | assumption | decide | (simp <;> omega) | fail) [facts, e0, e2, e7, e8, e9, e10, e11, e12, hlt]
        refine w_cut (fun s => s.env 0 = .slice a n c ∧ s.env 2 = .int .u16 gi ∧ s.env 7 = .int .i64 A ∧ s.env 8 = .pointer (some ⟨b8, 0, none⟩) ∧ s.env 9 = .pointer (some ⟨b9, 0, none⟩) ∧ s.env 10 = .int .i64 sn ∧ s.env 11 = .int .i64 cn ∧ s.env 12 = .int .i64 k ∧ Heap.le H s.heap ∧
          s.heap b8 = some (.row true 0 [.int .u16 1, .int .u32 7] 0) ∧ s.heap b9 = some (.row true 0 (txnL t) 0) ∧ ∃ b13, s.env 13 = .pointer (some ⟨b13, 0, none⟩) ∧ b13 ≠ b8 ∧ b13 ≠ b9 ∧ H b13 = none ∧
          s.heap b13 = some (.row true 0 [.int .i64 ((m : Int) + 1), .int .u16 1, .int .u32 7, .string (mkS [53, 49]), .int .i64 A, .int .i64 0, .int .i64 0, .int .i64 0, .int .i64 0, .int .i64 0, .int .i64 0, .int .i64 0, .int .i64 0, .int .i64 0, .int .i64 0, .int .i64 0, .int .i64 0] 0)) ?_ ?_
        · refine w_plan (P := Try.prog) (by simp [facts]) (opsP [0,1,2,8] (.both (opsP [3,4,5,6] (.both (opsP [7,9,10,11] .done) (opsP [10,7,9,11] .done))) (.both (opsP [7] (.both (opsP [3,4,5,6,9,10,11] .done) (opsP [10,3,4,5,6,9,11] .done))) (opsP [10] (.both (opsP [3,4,5,6,7,9,11] .done) (opsP [7,3,4,5,6,9,11] .done)))))) ?_ ?_
          · decide +kernel
          simp (disch := first | omega | assumption | decide | (simp <;> omega) | fail) [facts, e0, e2, e7, e8, e9, e10, e11, e12, gx, e7m, l8]
          try (repeat' apply And.intro)
          all_goals
            refine fresh_intro fun b13 hb13 => ?_
            have n13 : b8 ≠ b13 := ne_of_fresh hb13 l8
            have n139 : b9 ≠ b13 := ne_of_fresh hb13 l9
            have gx' : at1 (upd H2 b13 (.row true 0 [.int .i64 0, .int .u16 0, .int .u32 0, .string (mkS []), .int .i64 0, .int .i64 0, .int .i64 0, .int .i64 0, .int .i64 0, .int .i64 0, .int .i64 0, .int .i64 0, .int .i64 0, .int .i64 0, .int .i64 0, .int .i64 0, .int .i64 0] 0)) a k = some (.int .u8 (b.toNat : Int)) := ((h.le hle).le (le_upd _ hb13)).at hb
            simp (disch := first | omega | assumption | decide | (simp <;> omega) | fail) [facts, e0, e2, e7, e8, e9, e10, e11, e12, gx', e7m, l8, upd_ne, upd_upd]
            exact ⟨Heap.le_trans hle (le_upd _ hb13), l9, n13.symm, n139.symm, le_of_none hle hb13⟩
        · rintro ⟨e, H3⟩ ⟨e0, e2, e7, e8, e9, e10, e11, e12, hle, l8, l9, b13, e13, n138, n139, hb13, l13⟩
          clear gx
          obtain ⟨te, st, pan, amt, sta, n0, n1, n2, n3, gv, ow⟩ := t
          simp only at e0 e2 e7 e8 e9 e10 e11 e12 e13 hle l8 l9 l13
          simp only [txnL] at l9
          obtain ⟨K, hK⟩ : ∃ K : Int, K = (m : Int) + 1 := ⟨_, rfl⟩
          rw [← hK] at cs hstep l13
          by_cases hK6 : K = 6
          · subst hK6
            have eR : lifeR 6 A G = ⟨6, 1, 7, [53, 49], G, 0, 0, 0, 0⟩ := by simp [lifeR]
            rw [eR] at cs hstep
            simp (disch := first | omega | assumption | decide | (simp <;> omega) | fail) [facts, e0, e2, e7, e8, e9, e10, e11, e12, e13, l13, hG]
            have m9 : upd H3 b13 (.row true 0 [.int .i64 6, .int .u16 1, .int .u32 7, .string (mkS [53, 49]), .int .i64 G, .int .i64 0, .int .i64 0, .int .i64 0, .int .i64 0, .int .i64 0, .int .i64 0, .int .i64 0, .int .i64 0, .int .i64 0, .int .i64 0, .int .i64 0, .int .i64 0] 0) b9 = some (.row true 0 [.int .u16 te, .int .u32 st, .string (mkS pan), .int .i64 amt, .int .i64 sta, .int .i64 n0, .int .i64 n1, .int .i64 n2, .int .i64 n3, .int .i64 gv, .int .i64 ow] 0) := by rw [upd_ne _ _ (Ne.symm n139), l9]
            have m8 : upd H3 b13 (.row true 0 [.int .i64 6, .int .u16 1, .int .u32 7, .string (mkS [53, 49]), .int .i64 G, .int .i64 0, .int .i64 0, .int .i64 0, .int .i64 0, .int .i64 0, .int .i64 0, .int .i64 0, .int .i64 0, .int .i64 0, .int .i64 0, .int .i64 0, .int .i64 0] 0) b8 = some (.row true 0 [.int .u16 1, .int .u32 7] 0) := by rw [upd_ne _ _ (Ne.symm n138), l8]
            have m13 := upd_same H3 b13 (.row true 0 [.int .i64 6, .int .u16 1, .int .u32 7, .string (mkS [53, 49]), .int .i64 G, .int .i64 0, .int .i64 0, .int .i64 0, .int .i64 0, .int .i64 0, .int .i64 0, .int .i64 0, .int .i64 0, .int .i64 0, .int .i64 0, .int .i64 0, .int .i64 0] 0)
            have hle3 : Heap.le H (upd H3 b13 (.row true 0 [.int .i64 6, .int .u16 1, .int .u32 7, .string (mkS [53, 49]), .int .i64 G, .int .i64 0, .int .i64 0, .int .i64 0, .int .i64 0, .int .i64 0, .int .i64 0, .int .i64 0, .int .i64 0, .int .i64 0, .int .i64 0, .int .i64 0, .int .i64 0] 0)) := le_updN _ hle hb13
            generalize upd H3 b13 (.row true 0 [.int .i64 6, .int .u16 1, .int .u32 7, .string (mkS [53, 49]), .int .i64 G, .int .i64 0, .int .i64 0, .int .i64 0, .int .i64 0, .int .i64 0, .int .i64 0, .int .i64 0, .int .i64 0, .int .i64 0, .int .i64 0, .int .i64 0, .int .i64 0] 0) = H4 at m8 m9 m13 hle3 ⊢
            try simp (disch := first | omega | assumption | decide | (simp <;> omega) | fail) [facts, e0, e2, e7, e8, e9, e10, e11, e12, e13, m9, m13]
            simp only [txnV, txnL, recV] at cs
            refine (cs _).mono ?_
            rintro v H5 ⟨rfl, hle5⟩
            replace m8 := hle5 _ _ m8
            replace m9 := hle5 _ _ m9
            replace m13 := hle5 _ _ m13
            replace hle3 := Heap.le_trans hle3 hle5
            generalize stepF ⟨te, st, pan, amt, sta, n0, n1, n2, n3, gv, ow⟩ ⟨6, 1, 7, [53, 49], G, 0, 0, 0, 0⟩ = ue at hstep ⊢
            obtain ⟨⟨ute, ust, upan, uam, usta, u0, u1, u2, u3, ugv, uow⟩, er⟩ := ue
            simp only [pairV, txnV, txnL] at hstep ⊢
            simp (disch := first | omega | assumption | decide | (simp <;> omega) | fail) [facts, e0, e2, e7, e8, e9, e10, e11, e12, e13]
            refine fresh_intro fun b14 hb14 => ?_
            have q8 : b8 ≠ b14 := ne_of_fresh hb14 m8
            have q9 : b9 ≠ b14 := ne_of_fresh hb14 m9
            have q13 : b13 ≠ b14 := ne_of_fresh hb14 m13
            have q9' := q9.symm
            have hb14' : H b14 = none := le_of_none hle3 hb14
            by_cases her : er = 0
            · subst her
              obtain ⟨hl2, hs1, hc1, hst, hgi0, ham0, hf1, hf2, hf3⟩ := hstep rfl
              replace hl2 : LifeT A ⟨ute, ust, upan, uam, usta, u0, u1, u2, u3, ugv, uow⟩ (sn) (cn + 1) := by simpa [if_true] using hl2
              replace hs1 : sn ≤ 1 := by first | exact hs1 | (simp at hs1; omega)
              replace hc1 : cn + 1 ≤ sn := by first | exact hc1 | (simp at hc1; omega)
              simp only at hst hgi0 ham0 hf1 hf2 hf3
              simp (disch := first | omega | assumption | decide | (simp <;> omega) | fail) [facts, e0, e2, e7, e8, e9, e10, e11, e12, e13, m8, m9, m13, upd_ne, upd_upd, show ¬ 1 < sn by omega, show ¬ sn < cn + 1 by omega, show ¬ usta < sta by omega, show ¬ ugv < 0 by omega, show ¬ A < ugv + uow by omega]
              refine ⟨_, Heap.le_refl _, ⟨k + 1, by omega, by simp [e0], by simp [e2], by simp [e7], by simp [e8], by simp [e9], by simp, ?_, ?_, ⟨ute, ust, upan, uam, usta, u0, u1, u2, u3, ugv, uow⟩, _, _, hl2, by simp [e10], by simp [e11], ?_⟩, by simp [intOf, e12]; omega⟩
              · show Heap.le H _
                repeat' (first | exact hle3 | exact hb14' | exact hb9' | apply le_updN)
              · simp [upd_ne, q8, n89, m8]
              · simp [txnL]
            · simp (disch := first | omega | assumption | decide | (simp <;> omega) | fail) [facts, e0, e2, e7, e8, e9, e10, e11, e12, e13, her, upd_upd]
              refine ⟨_, Heap.le_refl _, ⟨k + 1, by omega, by simp [e0], by simp [e2], by simp [e7], by simp [e8], by simp [e9], by simp, ?_, ?_, ⟨te, st, pan, amt, sta, n0, n1, n2, n3, gv, ow⟩, _, _, hlife, by simp [e10], by simp [e11], ?_⟩, by simp [intOf, e12]; omega⟩
              · show Heap.le H _
                repeat' (first | exact hle3 | exact hb14' | exact hb9' | apply le_updN)
              · simp [upd_ne, q8, m8]
              · simp [upd_ne, q9, m9, txnL]
          by_cases hK5 : K = 5
          · subst hK5
            have eR : lifeR 5 A G = ⟨5, 1, 7, [53, 49], A, 0, 0, 0, 0⟩ := by simp [lifeR]
            rw [eR] at cs hstep
            have m9 := l9
            have m8 := l8
            have m13 := l13
            have hle3 := hle
            simp (disch := first | omega | assumption | decide | (simp <;> omega) | fail) [facts, e0, e2, e7, e8, e9, e10, e11, e12, e13, l13, m9]
            simp only [txnV, txnL, recV] at cs
            refine (cs _).mono ?_
            rintro v H5 ⟨rfl, hle5⟩
            replace m8 := hle5 _ _ m8
            replace m9 := hle5 _ _ m9
            replace m13 := hle5 _ _ m13
            replace hle3 := Heap.le_trans hle3 hle5
            generalize stepF ⟨te, st, pan, amt, sta, n0, n1, n2, n3, gv, ow⟩ ⟨5, 1, 7, [53, 49], A, 0, 0, 0, 0⟩ = ue at hstep ⊢
            obtain ⟨⟨ute, ust, upan, uam, usta, u0, u1, u2, u3, ugv, uow⟩, er⟩ := ue
            simp only [pairV, txnV, txnL] at hstep ⊢
            simp (disch := first | omega | assumption | decide | (simp <;> omega) | fail) [facts, e0, e2, e7, e8, e9, e10, e11, e12, e13]
            refine fresh_intro fun b14 hb14 => ?_
            have q8 : b8 ≠ b14 := ne_of_fresh hb14 m8
            have q9 : b9 ≠ b14 := ne_of_fresh hb14 m9
            have q13 : b13 ≠ b14 := ne_of_fresh hb14 m13
            have q9' := q9.symm
            have hb14' : H b14 = none := le_of_none hle3 hb14
            by_cases her : er = 0
            · subst her
              obtain ⟨hl2, hs1, hc1, hst, hgi0, ham0, hf1, hf2, hf3⟩ := hstep rfl
              replace hl2 : LifeT A ⟨ute, ust, upan, uam, usta, u0, u1, u2, u3, ugv, uow⟩ (sn + 1) (cn) := by simpa [if_true] using hl2
              replace hs1 : sn + 1 ≤ 1 := by first | exact hs1 | (simp at hs1; omega)
              replace hc1 : cn ≤ sn + 1 := by first | exact hc1 | (simp at hc1; omega)
              simp only at hst hgi0 ham0 hf1 hf2 hf3
              simp (disch := first | omega | assumption | decide | (simp <;> omega) | fail) [facts, e0, e2, e7, e8, e9, e10, e11, e12, e13, m8, m9, m13, upd_ne, upd_upd, show ¬ 1 < sn + 1 by omega, show ¬ sn + 1 < cn by omega, show ¬ usta < sta by omega, show ¬ ugv < 0 by omega, show ¬ A < ugv + uow by omega]
              refine ⟨_, Heap.le_refl _, ⟨k + 1, by omega, by simp [e0], by simp [e2], by simp [e7], by simp [e8], by simp [e9], by simp, ?_, ?_, ⟨ute, ust, upan, uam, usta, u0, u1, u2, u3, ugv, uow⟩, _, _, hl2, by simp [e10], by simp [e11], ?_⟩, by simp [intOf, e12]; omega⟩
              · show Heap.le H _
                repeat' (first | exact hle3 | exact hb14' | exact hb9' | apply le_updN)
              · simp [upd_ne, q8, n89, m8]
              · simp [txnL]
            · simp (disch := first | omega | assumption | decide | (simp <;> omega) | fail) [facts, e0, e2, e7, e8, e9, e10, e11, e12, e13, her, upd_upd]
              refine ⟨_, Heap.le_refl _, ⟨k + 1, by omega, by simp [e0], by simp [e2], by simp [e7], by simp [e8], by simp [e9], by simp, ?_, ?_, ⟨te, st, pan, amt, sta, n0, n1, n2, n3, gv, ow⟩, _, _, hlife, by simp [e10], by simp [e11], ?_⟩, by simp [intOf, e12]; omega⟩
              · show Heap.le H _
                repeat' (first | exact hle3 | exact hb14' | exact hb9' | apply le_updN)
              · simp [upd_ne, q8, m8]
              · simp [upd_ne, q9, m9, txnL]
          have eR : lifeR K A G = ⟨K, 1, 7, [53, 49], A, 0, 0, 0, 0⟩ := by simp [lifeR, hK6]
          rw [eR] at cs hstep
          have m9 := l9
          have m8 := l8
          have m13 := l13
          have hle3 := hle
          simp (disch := first | omega | assumption | decide | (simp <;> omega) | fail) [facts, e0, e2, e7, e8, e9, e10, e11, e12, e13, l13, hK5, hK6, m9]
          simp only [txnV, txnL, recV] at cs
          refine (cs _).mono ?_
          rintro v H5 ⟨rfl, hle5⟩
          replace m8 := hle5 _ _ m8
          replace m9 := hle5 _ _ m9
          replace m13 := hle5 _ _ m13
          replace hle3 := Heap.le_trans hle3 hle5
          generalize stepF ⟨te, st, pan, amt, sta, n0, n1, n2, n3, gv, ow⟩ ⟨K, 1, 7, [53, 49], A, 0, 0, 0, 0⟩ = ue at hstep ⊢
          obtain ⟨⟨ute, ust, upan, uam, usta, u0, u1, u2, u3, ugv, uow⟩, er⟩ := ue
          simp only [pairV, txnV, txnL] at hstep ⊢
          simp (disch := first | omega | assumption | decide | (simp <;> omega) | fail) [facts, e0, e2, e7, e8, e9, e10, e11, e12, e13]
          refine fresh_intro fun b14 hb14 => ?_
          have q8 : b8 ≠ b14 := ne_of_fresh hb14 m8
          have q9 : b9 ≠ b14 := ne_of_fresh hb14 m9
          have q13 : b13 ≠ b14 := ne_of_fresh hb14 m13
          have q9' := q9.symm
          have hb14' : H b14 = none := le_of_none hle3 hb14
          by_cases her : er = 0
          · subst her
            obtain ⟨hl2, hs1, hc1, hst, hgi0, ham0, hf1, hf2, hf3⟩ := hstep rfl
            replace hl2 : LifeT A ⟨ute, ust, upan, uam, usta, u0, u1, u2, u3, ugv, uow⟩ (sn) (cn) := by simpa [if_true, hK5, hK6] using hl2
            replace hs1 : sn ≤ 1 := by first | exact hs1 | (simp[hK5] at hs1; omega)
            replace hc1 : cn ≤ sn := by first | exact hc1 | (simp[hK5, hK6] at hc1; omega)
            simp only at hst hgi0 ham0 hf1 hf2 hf3
            simp (disch := first | omega | assumption | decide | (simp <;> omega) | fail) [facts, e0, e2, e7, e8, e9, e10, e11, e12, e13, m8, m9, m13, upd_ne, upd_upd, hK5, hK6, show ¬ 1 < sn by omega, show ¬ sn < cn by omega, show ¬ usta < sta by omega, show ¬ ugv < 0 by omega, show ¬ A < ugv + uow by omega]
            refine ⟨_, Heap.le_refl _, ⟨k + 1, by omega, by simp [e0], by simp [e2], by simp [e7], by simp [e8], by simp [e9], by simp, ?_, ?_, ⟨ute, ust, upan, uam, usta, u0, u1, u2, u3, ugv, uow⟩, _, _, hl2, by simp [e10], by simp [e11], ?_⟩, by simp [intOf, e12]; omega⟩
            · show Heap.le H _
              repeat' (first | exact hle3 | exact hb14' | exact hb9' | apply le_updN)
            · simp [upd_ne, q8, n89, m8]
            · simp [txnL]
          · simp (disch := first | omega | assumption | decide | (simp <;> omega) | fail) [facts, e0, e2, e7, e8, e9, e10, e11, e12, e13, her, upd_upd]
            refine ⟨_, Heap.le_refl _, ⟨k + 1, by omega, by simp [e0], by simp [e2], by simp [e7], by simp [e8], by simp [e9], by simp, ?_, ?_, ⟨te, st, pan, amt, sta, n0, n1, n2, n3, gv, ow⟩, _, _, hlife, by simp [e10], by simp [e11], ?_⟩, by simp [intOf, e12]; omega⟩
            · show Heap.le H _
              repeat' (first | exact hle3 | exact hb14' | exact hb9' | apply le_updN)
            · simp [upd_ne, q8, m8]
            · simp [upd_ne, q9, m9, txnL]
      · simp (disch := first | omega | assumption | decide | (simp <;> omega) | fail) [facts, e0, e2, e7, e8, e9, e10, e11, e12, hlt]
        exact ⟨t, ⟨sn, cn, hlife⟩, l9⟩
  · rintro ⟨e, H2⟩ ⟨e9, t, sn, cn, hlife, l9⟩
    simp only at e9 l9
    have hsh := hlife.shut
    obtain ⟨te, st, pan, amt, sta, n0, n1, n2, n3, gv, ow⟩ := t
    have co := fun H => open_c ⟨te, st, pan, amt, sta, n0, n1, n2, n3, gv, ow⟩ H
    simp only [txnV, txnL] at co l9 hsh
    simp (disch := first | omega | assumption | decide | (simp <;> omega) | fail) [facts, e9, l9]
    refine (co _).mono ?_
    rintro v H3 ⟨rfl, hle3⟩
    replace l9 := hle3 _ _ l9
    by_cases ho : 1 ≤ sta ∧ sta ≤ 4
    · simp (disch := first | omega | assumption | decide | (simp <;> omega) | fail) [facts, e9, l9, ho, show ¬ sta = 5 by omega]
      exact ⟨_, Heap.le_refl _⟩
    · simp (disch := first | omega | assumption | decide | (simp <;> omega) | fail) [facts, e9, l9, ho]
      exact ⟨_, Heap.le_refl _⟩
end Go.Proofs.Ytahmnhdmnhijcaa.GL
