/- Layer 17: the search goes through all numbers of notes. -/
import Derived.Test.YtiaigpkaajnpoaaMxC
namespace Go.Proofs.Ytiaigpkaajnpoaa.GL
open Go Go.RowKit
set_option maxRecDepth 10000
set_option pp.deepTerms.threshold 8
set_option pp.maxSteps 3000
set_option linter.unusedSimpArgs false
set_option linter.unusedVariables false

theorem Own.aside {H R G R0 : Heap} (a : Own H R G R0) {b : Nat} (hb : H b = none) (h0 : R0 b = none) (o : GObj) : Own H R (upd G b o) R0 := by
  refine ⟨fun i x h1 h2 => ?_, fun i x e => ?_⟩
  · obtain ⟨y, z⟩ := a.mv i x h1 h2
    have : i ≠ b := fun e => by subst e; rw [hb] at h2; cases h2
    exact ⟨y, by rw [upd_ne _ _ this]; exact z⟩
  · have : i ≠ b := fun e' => by subst e'; rw [h0] at e; cases e
    rw [upd_ne _ _ this]; exact a.le i x e
def Q (ms ws x0 : List Nat) (i amount k : Nat) (x : List Nat) : Prop := k ≤ ms.getD i 0 ∧ k * ws.getD i 0 ≤ amount ∧ (x0.take i).sum + k ≤ 40 ∧ Comp ms ws (x0.set i k) (i + 1) (amount - k * ws.getD i 0) x
theorem comp_congr {ms ws x0 y0 x : List Nat} {i amount : Nat} (h : x0.take i = y0.take i) : Comp ms ws x0 i amount x ↔ Comp ms ws y0 i amount x :=
  ⟨fun ⟨a, b, c, d, e⟩ => ⟨a, b.trans h, c, d, e⟩, fun ⟨a, b, c, d, e⟩ => ⟨a, b.trans h.symm, c, d, e⟩⟩
theorem set_take {x y : List Nat} {i k : Nat} (h : y.take i = x.take i) (hi : i < x.length) (hl : y.length = x.length) : (y.set i k).take (i + 1) = (x.set i k).take (i + 1) ∧ ((y.set i k).take (i + 1)).sum = (x.take i).sum + k := by
  have e : ∀ z : List Nat, i < z.length → (z.set i k).take (i + 1) = z.take i ++ [k] := fun z hz => by
    rw [take_succ_getD (by rw [List.length_set]; exact hz), List.take_set_of_le (Nat.le_refl _)]
    simp [List.getD_eq_getElem?_getD, hz]
  rw [e y (by omega), e x hi, h]
  exact ⟨rfl, by rw [List.sum_append, List.sum_singleton]⟩
def fromPost (p q : Nat) (ms ws ds : List Nat) (D : List Nat → Prop) (H R H' : Heap) : Prop := ∃ R' c' f', Own H R H' R' ∧ Sr R' p q ms ws ds c' f' ∧ SS D c' f'
def frmInv (p q : Nat) (ms ws ds x0 : List Nat) (D : List Nat → Prop) (H R : Heap) (i amount b7 : Nat) (st : St) : Prop :=
  ∃ (k : Nat) (R' : Heap) (c' : Nat) (f' : List (List Nat)) (y : List Nat), k ≤ 41 ∧ st.env 0 = .pointer (some ⟨p, 0, none⟩) ∧ st.env 1 = .int .i64 i ∧ st.env 3 = .int .i64 ((x0.take i).sum : Nat) ∧ st.env 4 = .int .i64 amount ∧ st.env 7 = .pointer (some ⟨b7, 0, none⟩) ∧ st.env 10 = .int .i64 k ∧
    Own H R st.heap R' ∧ R' b7 = none ∧ st.heap b7 = some (.row true 0 (y.map nI) 0) ∧ y.length = 4 ∧ y.take i = x0.take i ∧ Sr R' p q ms ws ds c' f' ∧ SS (fun x => D x ∨ ∃ k' < k, Q ms ws x0 i amount k' x) c' f'
set_option maxHeartbeats 4000000 in
theorem from_c {p q : Nat} {ms ws ds : List Nat} (hD : SrD ms ws ds) : ∀ (r i : Nat), i + r = 4 → ∀ (x0 : List Nat) (amount c : Nat) (f : List (List Nat)) (D : List Nat → Prop) (R H : Heap), x0.length = 4 → amount ≤ 1000000 → (x0.take i).sum ≤ 40 → Heap.le R H → Sr R p q ms ws ds c f → SS D c f →
    ECalls Try.prog 18 #[.pointer (some ⟨p, 0, none⟩), .int .i64 i, notesL x0, .int .i64 ((x0.take i).sum : Nat), .int .i64 amount] H fun _ H' => fromPost p q ms ws ds (fun x => D x ∨ Comp ms ws x0 i amount x) H R H' := by
  intro r
  induction r with
  | zero =>
    intro i hi x0 amount c f D R H h0 ha hcnt hR hS hSS
    obtain rfl : i = 4 := by omega
    refine ecalls_of_ewp (args := [_, _, _, _, _]) Try.func18 rfl rfl rfl (by simp [Try.ntmps18]) (by kernel_rfl) ?_
    have htk : List.take 4 (x0.map nI) = x0.map nI := List.take_of_length_le (by simp [h0])
    have ht0 : x0.take 4 = x0 := List.take_of_length_le (by omega)
    have hxl : (x0.map nI).length = 4 := by simp [h0]
    rw [ht0] at hcnt ⊢
    unfold notesL
    simp (disch := first | omega | assumption | decide | (simp <;> omega) | fail) [facts, ]
    refine fresh_intro fun b7 hb7 => ?_
    have own1 : Own H R (upd H b7 (.row true 0 (x0.map nI) 0)) R := (Own.refl hR).grow (le_upd _ hb7)
    have rb := upd_same H b7 (.row true 0 (x0.map nI) 0)
    generalize upd H b7 (.row true 0 (x0.map nI) 0) = H1 at *
    by_cases h00 : amount = 0
    · subst h00
      simp (disch := first | omega | assumption | decide | (simp <;> omega) | fail) [facts, rb, htk]
      refine (note_c hD own1.le hS hSS.four x0 h0 hSS.le (by omega)).mono ?_
      rintro v H2 ⟨R', own2, hS'⟩
      simp (disch := first | omega | assumption | decide | (simp <;> omega) | fail) [facts, ]
      exact ⟨_, Heap.le_refl _, R', _, _, own1.trans own2, hS', (hSS.note x0 h0).congr fun x => by rw [comp_end h0 hcnt]; simp⟩
    · have h00I : ¬ (amount : Int) = 0 := by omega
      simp (disch := first | omega | assumption | decide | (simp <;> omega) | fail) [facts, h00]
      exact ⟨_, Heap.le_refl _, R, c, f, own1, hS, hSS.congr fun x => by rw [comp_end h0 hcnt]; simp [h00]⟩
  | succ r ih =>
    intro i hi x0 amount c f D R H h0 ha hcnt hR hS hSS
    have hi4 : i < 4 := by omega
    have hi4I : ¬ (i : Int) = 4 := by omega
    refine ecalls_of_ewp (args := [_, _, _, _, _]) Try.func18 rfl rfl rfl (by simp [Try.ntmps18]) (by kernel_rfl) ?_
    have hxl : (x0.map nI).length = 4 := by simp [h0]
    obtain ⟨cnt, hcn⟩ : ∃ cnt, cnt = (x0.take i).sum := ⟨_, rfl⟩
    have hcn' := hcn
    rw [← hcn] at hcnt ⊢
    obtain ⟨hl15, sm, sw, sd, s13, s14⟩ := srC_at (c := c) (q := q) hD
    obtain ⟨_, s13e⟩ := List.getElem?_eq_some_iff.1 s13
    have sdi := sd i (by omega)
    obtain ⟨_, sdie⟩ := List.getElem?_eq_some_iff.1 sdi
    have hdi := hD.bd i
    have hdear := hD.dear i
    generalize hd0 : ds.getD i 0 = d at *
    have hc41 := hSS.le
    unfold notesL
    simp (disch := first | omega | assumption | decide | (simp <;> omega) | fail) [facts, ]
    refine fresh_intro fun b7 hb7 => ?_
    have own1 : Own H R (upd H b7 (.row true 0 (x0.map nI) 0)) R := (Own.refl hR).grow (le_upd _ hb7)
    have rb := upd_same H b7 (.row true 0 (x0.map nI) 0)
    have hRb : R b7 = none := le_of_none hR hb7
    generalize upd H b7 (.row true 0 (x0.map nI) 0) = H1 at *
    have hrow := own1.le _ _ hS.row
    obtain ⟨T, hT⟩ : ∃ T : Int, (min (c : Int) 40 - (cnt : Int)) * (d : Int) = T := ⟨_, rfl⟩
    have hTb : -5000000 ≤ T ∧ T ≤ 5000000 := by
      have a1 : (-40 : Int) * (d : Int) ≤ (min (c : Int) 40 - (cnt : Int)) * (d : Int) := Int.mul_le_mul_of_nonneg_right (by omega) (by omega)
      have a2 : (min (c : Int) 40 - (cnt : Int)) * (d : Int) ≤ 41 * (d : Int) := Int.mul_le_mul_of_nonneg_right (by omega) (by omega)
      omega
    simp (disch := first | omega | assumption | decide | (simp <;> omega) | fail) [facts, hi4I]
    refine w_plan (by simp [facts]) (opsP [0,1,2,3,4,5,6,7,8,9,10,11,12,13,14,15] .done) (by decide +kernel) ?_
    by_cases hpr : T < (amount : Int)
    · simp (disch := first | omega | assumption | decide | (simp <;> omega) | fail) [facts, hrow, s13, s13e, sdi, sdie, hT, hpr]
      refine ⟨_, Heap.le_refl _, R, c, f, own1, hS, hSS.worse fun x hx => ?_⟩
      refine prune (d := d) (fun j h1 h2 => hdear j h1 h2) hD.lw hx ?_
      rw [← hcn, show ((min c 40 : Nat) : Int) = min (c : Int) 40 by omega, hT]; exact hpr
    simp (disch := first | omega | assumption | decide | (simp <;> omega) | fail) [facts, hrow, s13, s13e, sdi, sdie, hT, hpr]
    refine w_loop (frmInv p q ms ws ds x0 D H R i amount b7) (fun st => 41 - (intOf (st.env 10)).toNat) ?_ ?_
    · refine ⟨0, R, c, f, x0, by decide, by simp, by simp, by simp [hcn], by simp, by simp, by simp, own1, hRb, rb, h0, rfl, hS, hSS.congr fun x => ?_⟩
      constructor
      · rintro (h | ⟨k', h, _⟩)
        · exact h
        · omega
      · exact .inl
    clear hS hSS own1 rb hrow hT hTb hpr hR hRb hcn' s13 s13e sm sw sd s14 sdi sdie hdi hdear hd0 hl15
    rintro ⟨env, G⟩ ⟨k, R1, c1, f1, y, hk, e0, e1, e3, e4, e7, e10, own, hRb, rb, hy, hyt, hS, hSS⟩
    simp only at e0 e1 e3 e4 e7 e10 own rb
    rw [← hcn] at e3
    obtain ⟨hl15, sm, sw, sd, s13, s14⟩ := srC_at (c := c1) (q := q) hD
    have smi := sm i hi4
    obtain ⟨_, smie⟩ := List.getElem?_eq_some_iff.1 smi
    have swi := sw i hi4
    obtain ⟨_, swie⟩ := List.getElem?_eq_some_iff.1 swi
    have hm := hD.bm i
    have hw := hD.bw i
    have hrow := own.le _ _ hS.row
    have hQ : ∀ x, Comp ms ws x0 i amount x ↔ ∃ k, Q ms ws x0 i amount k x := fun x => by
      rw [comp_step hi4 h0 hD.lw]; rfl
    have hQ' : ∀ k x, Q ms ws x0 i amount k x ↔ k ≤ ms.getD i 0 ∧ k * ws.getD i 0 ≤ amount ∧ cnt + k ≤ 40 ∧ Comp ms ws (x0.set i k) (i + 1) (amount - k * ws.getD i 0) x := fun k x => by
      unfold Q; rw [← hcn]
    generalize hmd : ms.getD i 0 = m at *
    generalize hwd : ws.getD i 0 = w at *
    have stop : (∀ k' x, k ≤ k' → ¬ Q ms ws x0 i amount k' x) → SS (fun x => D x ∨ Comp ms ws x0 i amount x) c1 f1 := fun hno => hSS.congr fun x => by
      rw [hQ]
      constructor
      · rintro (h | ⟨k', h⟩)
        · exact .inl h
        · refine .inr ⟨k', ?_, h⟩
          rcases Nat.lt_or_ge k' k with h2 | h2
          · exact h2
          · exact absurd h (hno k' x h2)
      · rintro (h | ⟨k', _, h⟩)
        · exact .inl h
        · exact .inr ⟨k', h⟩
    by_cases c1' : k ≤ m
    case neg =>
      have c1I : ¬ (k : Int) ≤ (m : Int) := by omega
      simp (disch := first | omega | assumption | decide | (simp <;> omega) | fail) [facts, e0, e1, e3, e4, e7, e10, hrow, smi, smie, c1I]
      refine ⟨_, Heap.le_refl _, R1, c1, f1, own, hS, stop fun k' x hk' h => ?_⟩
      rw [hQ'] at h; omega
    have c1I : (k : Int) ≤ (m : Int) := by omega
    by_cases c2' : cnt + k ≤ 40
    case neg =>
      have c2I : ¬ (cnt : Int) + (k : Int) ≤ 40 := by omega
      simp (disch := first | omega | assumption | decide | (simp <;> omega) | fail) [facts, e0, e1, e3, e4, e7, e10, hrow, smi, smie, c1I, c2I]
      refine ⟨_, Heap.le_refl _, R1, c1, f1, own, hS, stop fun k' x hk' h => ?_⟩
      rw [hQ'] at h; omega
    have c2I : (cnt : Int) + (k : Int) ≤ 40 := by omega
    obtain ⟨P, hP⟩ : ∃ P : Nat, P = k * w := ⟨_, rfl⟩
    have hPI : (k : Int) * (w : Int) = (P : Int) := by rw [hP]; push_cast; rfl
    have hPb : P ≤ 4000000 := by
      rw [hP]
      exact Nat.le_trans (Nat.mul_le_mul (show k ≤ 40 by omega) hw) (by decide)
    by_cases c3' : P ≤ amount
    case neg =>
      have c3I : ¬ (P : Int) ≤ (amount : Int) := by omega
      simp (disch := first | omega | assumption | decide | (simp <;> omega) | fail) [facts, e0, e1, e3, e4, e7, e10, hrow, smi, smie, swi, swie, c1I, c2I, hPI, c3I]
      refine ⟨_, Heap.le_refl _, R1, c1, f1, own, hS, stop fun k' x hk' h => ?_⟩
      rw [hQ'] at h
      have := Nat.mul_le_mul_right w hk'
      omega
    have c3I : (P : Int) ≤ (amount : Int) := by omega
    have hyl : (y.map nI).length = 4 := by simp [hy]
    have hset : (y.map nI).set i (.int .i64 (k : Int)) = (y.set i k).map nI := by rw [List.map_set]; rfl
    simp (disch := first | omega | assumption | decide | (simp <;> omega) | fail) [facts, e0, e1, e3, e4, e7, e10, hrow, smi, smie, swi, swie, c1I, c2I, hPI, c3I, rb, hset]
    rw [show (y.map nI).set i (nI k) = (y.set i k).map nI by rw [List.map_set]]
    have own1 := own.aside hb7 hRb (.row true 0 ((y.set i k).map nI) 0)
    have rb1 := upd_same G b7 (.row true 0 ((y.set i k).map nI) 0)
    generalize upd G b7 (.row true 0 ((y.set i k).map nI) 0) = G1 at *
    have hrow1 := own1.le _ _ hS.row
    obtain ⟨st1, st2⟩ := set_take (k := k) hyt (by omega) (by omega)
    have hy2 : (y.set i k).length = 4 := by rw [List.length_set]; exact hy
    have hy2l : ((y.set i k).map nI).length = 4 := by simp [hy]
    have htk2 : List.take 4 ((y.set i k).map nI) = (y.set i k).map nI := List.take_of_length_le (by simp [hy])
    have call := ih (i + 1) (by omega) (y.set i k) (amount - P) c1 f1 _ R1 G1 hy2 (by omega) (by rw [st2]; omega) own1.le hS hSS
    rw [st2, ← hcn] at call
    generalize hz : y.set i k = z at *
    have a1 : ((cnt + k : Nat) : Int) = (cnt : Int) + (k : Int) := by omega
    have a2 : ((i + 1 : Nat) : Int) = (i : Int) + 1 := by omega
    have a3 : ((amount - P : Nat) : Int) = (amount : Int) - (P : Int) := by omega
    rw [a1, a2, a3] at call
    unfold notesL at call
    refine w_plan (by simp [facts]) (opsP [0,1,2,3,4,5,6,7,8,9,10,11,12,13,14,15,16,17] .done) (by decide +kernel) ?_
    simp (disch := first | omega | assumption | decide | (simp <;> omega) | fail) [facts, e0, e1, e3, e4, e7, e10, hrow1, swi, swie, rb1, htk2, hPI]
    refine call.mono ?_
    rintro v G2 ⟨R2, c2, f2, own2, hS2, hSS2⟩
    obtain ⟨q1, q2⟩ := own2.mv b7 _ hRb rb1
    simp (disch := first | omega | assumption | decide | (simp <;> omega) | fail) [facts, e10]
    refine ⟨_, Heap.le_refl _, ⟨k + 1, R2, c2, f2, z, by omega, by simp [e0], by simp [e1], by simp [e3, hcn], by simp [e4], by simp [e7], by simp, own1.trans own2, q1, q2, hy2, ?_, hS2, hSS2.congr fun x => ?_⟩, by simp [intOf, e10]; omega⟩
    · rw [← hz, List.take_set_of_le (Nat.le_refl _)]; exact hyt
    · have hQk : Q ms ws x0 i amount k x ↔ Comp ms ws z (i + 1) (amount - P) x := by
        rw [hQ', ← hP, comp_congr st1]
        exact ⟨fun h => h.2.2.2, fun h => ⟨c1', c3', c2', h⟩⟩
      rw [← hQk]
      constructor
      · rintro (h | ⟨k', hk', h⟩)
        · exact .inl (.inl h)
        · rcases Nat.lt_or_ge k' k with h2 | h2
          · exact .inl (.inr ⟨k', h2, h⟩)
          · obtain rfl : k' = k := by omega
            exact .inr h
      · rintro ((h | ⟨k', hk', h⟩) | h)
        · exact .inl h
        · exact .inr ⟨k', by omega, h⟩
        · exact .inr ⟨k, by omega, h⟩
end Go.Proofs.Ytiaigpkaajnpoaa.GL
