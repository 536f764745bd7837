/- Layer 17: the law that what can be made is made, walked. -/
import Derived.Test.YtiaigpkaajnpoaaMxP
namespace Go.Proofs.Ytiaigpkaajnpoaa.GL
open Go Go.RowKit
set_option maxRecDepth 10000
set_option pp.deepTerms.threshold 8
set_option pp.maxSteps 3000
set_option linter.unusedSimpArgs false
set_option linter.unusedVariables false

def mk1 (H : Heap) (s : S4) (z0 z1 z2 z3 : Int) (b3 b5 b6 : Nat) (st : St) : Prop :=
  ∃ (i : Nat) (x : List Nat), i ≤ 4 ∧ x.length = 4 ∧ (∀ j, x.getD j 0 ≤ if j < i then min ((msL s).getD j 0) 10 else 0) ∧ st.env 3 = .pointer (some ⟨b3, 0, none⟩) ∧ st.env 4 = .bool false ∧ st.env 5 = .pointer (some ⟨b5, 0, none⟩) ∧ st.env 6 = .pointer (some ⟨b6, 0, none⟩) ∧ st.env 7 = .int .i64 (x.sum : Nat) ∧ st.env 8 = .int .i64 i ∧ Heap.le H st.heap ∧
    st.heap b3 = some (.row true 0 [.int .i64 z0, .int .i64 z1, .int .i64 z2, .int .i64 z3] 0) ∧ st.heap b5 = some (.row true 0 (flat s) 0) ∧ st.heap b6 = some (.row true 0 (x.map nI) 0)
def mk2 (H : Heap) (s : S4) (y : List Nat) (b5 b11 : Nat) (st : St) : Prop :=
  ∃ i : Nat, i ≤ 4 ∧ st.env 5 = .pointer (some ⟨b5, 0, none⟩) ∧ st.env 11 = .pointer (some ⟨b11, 0, none⟩) ∧ st.env 17 = .int .i64 i ∧ Heap.le H st.heap ∧ st.heap b5 = some (.row true 0 (flat s) 0) ∧ st.heap b11 = some (.row true 0 (y.map nI) 0)
theorem sum_set4 {x : List Nat} {i p : Nat} (hl : x.length = 4) (hi : i < 4) (h0 : x.getD i 0 = 0) : (x.set i p).sum = x.sum + p := by
  obtain ⟨a, b, c, d, rfl⟩ := lit4 hl
  have : i = 0 ∨ i = 1 ∨ i = 2 ∨ i = 3 := by omega
  rcases this with rfl | rfl | rfl | rfl
  all_goals
    simp at h0
    subst h0
    simp
    omega
set_option maxHeartbeats 4000000 in
theorem mixMakes_c (k : Nat) (hk : k < 256) (z0 z1 z2 z3 : Int) (H : Heap) :
    ECalls Try.prog 4 #[.int .u8 k, notesV z0 z1 z2 z3] H fun v H' => v = .bool true ∧ Heap.le H H' := by
  refine ecalls_of_ewp (args := [_, _]) Try.func4 rfl rfl rfl (by simp [Try.ntmps4]) (by kernel_rfl) ?_
  unfold notesV
  simp (disch := first | omega | assumption | decide | (simp <;> omega) | fail) [facts, ]
  refine fresh_intro fun b3 hb3 => ?_
  have hle := le_upd (.row true 0 [.int .i64 z0, .int .i64 z1, .int .i64 z2, .int .i64 z3] 0) hb3
  have r3 := upd_same H b3 (.row true 0 [.int .i64 z0, .int .i64 z1, .int .i64 z2, .int .i64 z3] 0)
  generalize upd H b3 (.row true 0 [.int .i64 z0, .int .i64 z1, .int .i64 z2, .int .i64 z3] 0) = H1 at *
  clear hb3
  simp (disch := first | omega | assumption | decide | (simp <;> omega) | fail) [facts, ]
  refine (known_c _).mono ?_
  rintro v H2 ⟨rfl, hle2⟩
  replace hle := Heap.le_trans hle hle2
  replace r3 := hle2 _ _ r3
  clear hle2
  simp (disch := first | omega | assumption | decide | (simp <;> omega) | fail) [facts, ]
  refine (cass_c k _ hk).mono ?_
  rintro v H3 ⟨⟨s, rfl, hs⟩, hle2⟩
  replace hle := Heap.le_trans hle hle2
  replace r3 := hle2 _ _ r3
  clear hle2
  have hf1 : (flat s).length = 16 := rfl
  have ht1 : List.take 16 (flat s) = flat s := rfl
  have ho1 : (flat s).all (·.oneCell') = true := rfl
  have hsp1 : splice (rep 16 (Value.int .i64 0)) 0 (flat s) = flat s := rfl
  unfold setV
  simp (disch := first | omega | assumption | decide | (simp <;> omega) | fail) [facts, ]
  refine fresh_intro fun b5 hb5 => ?_
  simp (disch := first | omega | assumption | decide | (simp <;> omega) | fail) [facts, hf1, ho1, hsp1, upd_upd]
  replace r3 := upd_other (o := .row true 0 (flat s) 0) hb5 r3
  have r5 := upd_same H3 b5 (.row true 0 (flat s) 0)
  replace hle := Heap.le_trans hle (le_upd (.row true 0 (flat s) 0) hb5)
  generalize upd H3 b5 (.row true 0 (flat s) 0) = H4 at *
  clear hb5
  refine fresh_intro fun b6 hb6 => ?_
  simp (disch := first | omega | assumption | decide | (simp <;> omega) | fail) [facts, upd_upd]
  have n3 : b3 ≠ b6 := ne_of_fresh hb6 r3
  have n5 : b5 ≠ b6 := ne_of_fresh hb6 r5
  have h6 : H b6 = none := le_of_none hle hb6
  replace r3 := upd_other (o := .row true 0 [.int .i64 0, .int .i64 0, .int .i64 0, .int .i64 0] 0) hb6 r3
  replace r5 := upd_other (o := .row true 0 [.int .i64 0, .int .i64 0, .int .i64 0, .int .i64 0] 0) hb6 r5
  have r6 : upd H4 b6 (.row true 0 [.int .i64 0, .int .i64 0, .int .i64 0, .int .i64 0] 0) b6 = some (.row true 0 (([0, 0, 0, 0] : List Nat).map nI) 0) := upd_same H4 b6 _
  replace hle := Heap.le_trans hle (le_upd (.row true 0 [.int .i64 0, .int .i64 0, .int .i64 0, .int .i64 0] 0) hb6)
  generalize upd H4 b6 (.row true 0 [.int .i64 0, .int .i64 0, .int .i64 0, .int .i64 0] 0) = H5 at *
  clear hb6
  refine w_loop (mk1 H s z0 z1 z2 z3 b3 b5 b6) (fun st => 4 - (intOf (st.env 8)).toNat) ?_ ?_
  · refine ⟨0, [0, 0, 0, 0], by decide, rfl, fun j => ?_, by simp, by simp, by simp, by simp, by simp, by simp, hle, r3, r5, r6⟩
    rcases j with _ | _ | _ | _ | j <;> simp
  clear hle r3 r5 r6
  rintro ⟨env, G⟩ ⟨i, x, hi, hxl, hx, e3, e4, e5, e6, e7, e8, hle, r3, r5, r6⟩
  simp only at e3 e4 e5 e6 e7 e8 hle r3 r5 r6
  by_cases hlt : i < 4
  · have hltI : (i : Int) < 4 := by omega
    obtain ⟨c, hc⟩ : ∃ c, (cl s)[i]? = some c := ⟨_, List.getElem?_eq_getElem (by simpa [cl] using hlt)⟩
    have hcell := flat_at s hc
    have hmk : (msL s).getD i 0 = c.m := by simp [msL, List.getD_eq_getElem?_getD, hc]
    obtain ⟨z, hzi⟩ : ∃ z : Int, ([.int .i64 z0, .int .i64 z1, .int .i64 z2, .int .i64 z3] : List Value)[i]? = some (.int .i64 z) := by
      have : i = 0 ∨ i = 1 ∨ i = 2 ∨ i = 3 := by omega
      rcases this with rfl | rfl | rfl | rfl <;> exact ⟨_, rfl⟩
    have hcok : COk c := by
      obtain ⟨k0, k1, k2, k3⟩ := hs
      have : i = 0 ∨ i = 1 ∨ i = 2 ∨ i = 3 := by omega
      rcases this with rfl | rfl | rfl | rfl <;> simp [cl] at hc <;> subst hc <;> assumption
    obtain ⟨hcm, hcl⟩ := hcok.m
    have hml := c.m_le
    obtain ⟨Z, hZ⟩ : ∃ Z : List Value, Z = [.int .i64 z0, .int .i64 z1, .int .i64 z2, .int .i64 z3] := ⟨_, rfl⟩
    have hZl : Z.length = 4 := by rw [hZ]; rfl
    rw [← hZ] at hzi r3
    obtain ⟨_, hzi'⟩ := List.getElem?_eq_some_iff.1 hzi
    obtain ⟨q, hq⟩ : ∃ q : Nat, (q : Int) = min c.l 10 + 1 := ⟨(min c.l 10 + 1).toNat, by omega⟩
    have cle := left_c c.d c.l c.g c.r G
    unfold cassV at cle
    rw [hcl] at cle
    have hpl := placeM_in z q (by omega)
    obtain ⟨p, hp⟩ := Int.eq_ofNat_of_zero_le hpl.1
    have h0x : x.getD i 0 = 0 := by have := hx i; simp at this; simpa using this
    have hss := sum_set4 (p := p) hxl hlt h0x
    have hsl : x.sum ≤ 40 := by
      obtain ⟨a, b, c', d, rfl⟩ := lit4 hxl
      have i0 := hx 0; have i1 := hx 1; have i2 := hx 2; have i3 := hx 3
      simp at i0 i1 i2 i3 ⊢
      split at i0 <;> split at i1 <;> split at i2 <;> split at i3 <;> omega
    have hxm : (x.map nI).length = 4 := by simp [hxl]
    have hset : (x.map nI).set i (.int .i64 (p : Int)) = (x.set i p).map nI := setN
    simp (disch := first | omega | assumption | decide | (simp <;> omega) | fail) [facts, e3, e4, e5, e6, e7, e8, hltI]
    obtain ⟨I, hI⟩ : ∃ I : St → Prop, I = (fun st => st.env 3 = .pointer (some ⟨b3, 0, none⟩) ∧ st.env 4 = .bool false ∧ st.env 5 = .pointer (some ⟨b5, 0, none⟩) ∧ st.env 6 = .pointer (some ⟨b6, 0, none⟩) ∧ st.env 7 = .int .i64 (x.sum : Nat) ∧ st.env 8 = .int .i64 i ∧ Heap.le H st.heap ∧
      st.heap b3 = some (.row true 0 Z 0) ∧ st.heap b5 = some (.row true 0 (flat s) 0) ∧ st.heap b6 = some (.row true 0 ((x.set i p).map nI) 0)) := ⟨_, rfl⟩
    refine w_cut I ?_ ?_
    · refine w_plan (by simp [facts]) (opsP [0,1,2,4,5] (.both (opsP [3,6,7,8,9,10,11,12] .done) (opsP [6] (.both (opsP [3,7,8,9,10,11,12] .done) (opsP [7,8,9,3,10,11,12] .done))))) (by decide +kernel) ?_
      simp (disch := first | omega | assumption | decide | (simp <;> omega) | fail) [facts, e3, e4, e5, e6, e7, e8, r3, hZl, hzi, hzi', r5, hf1, hcell]
      repeat' apply And.intro
      all_goals
        refine cle.mono ?_
        rintro v G1 ⟨rfl, hle2⟩
        have k3 := hle2 _ _ r3
        have k5 := hle2 _ _ r5
        have k6 := hle2 _ _ r6
        have kle := Heap.le_trans hle hle2
        simp (disch := first | omega | assumption | decide | (simp <;> omega) | fail) [facts, e3, e4, e5, e6, e7, e8, k3, hZl, hzi, hzi', ← hq]
        refine (placeM_c z q (by omega) (by omega) _).mono ?_
        rintro v G2 ⟨rfl, rfl⟩
        rw [hp]
        simp (disch := first | omega | assumption | decide | (simp <;> omega) | fail) [facts, e3, e4, e5, e6, e7, e8, k6, hxm, hxl, hltI]
        rw [hI]
        refine ⟨by simp [e3], by simp [e4], by simp [e5], by simp [e6], by simp [e7], by simp [e8], le_updN _ kle h6, (upd_ne _ _ n3).trans k3, (upd_ne _ _ n5).trans k5, ?_⟩
        rw [← hset]
        simp
    rintro ⟨en, G3⟩ hI2
    rw [hI] at hI2
    clear e3 e4 e5 e6 e7 e8
    obtain ⟨e3, e4, e5, e6, e7, e8, kle, k3, k5, k6⟩ := hI2
    simp only at e3 e4 e5 e6 e7 e8 kle k3 k5 k6
    have hgi : ((x.set i p).map nI)[i]? = some (.int .i64 (p : Int)) := by simp [hxl, hlt]; rfl
    have hgl : ((x.set i p).map nI).length = 4 := by simp [hxl]
    obtain ⟨_, hgi'⟩ := List.getElem?_eq_some_iff.1 hgi
    obtain ⟨X, hX⟩ : ∃ X : List Value, X = (x.set i p).map nI := ⟨_, rfl⟩
    rw [← hX] at hgl k6
    have hgi2 : X[i]? = some (.int .i64 (p : Int)) := by rw [hX]; exact hgi
    obtain ⟨_, hgi3⟩ := List.getElem?_eq_some_iff.1 hgi2
    simp (disch := first | omega | assumption | decide | (simp <;> omega) | fail) [facts, e3, e4, e5, e6, e7, e8, k6, hgl, hgi2, hgi3]
    refine ⟨_, Heap.le_refl _, ⟨i + 1, x.set i p, by omega, by simp [hxl], fun j => ?_, by simp [e3], by simp [e4], by simp [e5], by simp [e6], by simp [hss], by simp, kle, by rw [← hZ]; exact k3, k5, by rw [← hX]; exact k6⟩, by simp [intOf]; omega⟩
    by_cases hji : j = i
    · subst hji
      rw [if_pos (by omega), hmk]
      simp [List.getD_eq_getElem?_getD, hxl, hlt]
      omega
    · have := hx j
      rw [List.getD_eq_getElem?_getD, List.getElem?_set_ne (Ne.symm hji), ← List.getD_eq_getElem?_getD]
      by_cases h2 : j < i
      · rw [if_pos h2] at this; rw [if_pos (by omega)]; exact this
      · rw [if_neg h2] at this; omega
  obtain rfl : i = 4 := by omega
  have hs2 := hs
  obtain ⟨ca, cb, cc, ce⟩ := hs2
  obtain ⟨a, b, c, e, rfl⟩ := lit4 hxl
  have i0 := hx 0; have i1 := hx 1; have i2 := hx 2; have i3 := hx 3
  simp [msL, cl] at i0 i1 i2 i3
  have h40 : a + b + c + e ≤ 40 := by omega
  have hsum : [a, b, c, e].sum = a + b + c + e := by simp; omega
  rw [hsum] at e7
  obtain ⟨N, hN⟩ : ∃ N : Int, N = (a : Int) * s.a.d + (b : Int) * s.b.d + (c : Int) * s.c.d + (e : Int) * s.e.d := ⟨_, rfl⟩
  have hw := worth_four h40 ⟨ca.1, ca.2.1⟩ ⟨cb.1, cb.2.1⟩ ⟨cc.1, cc.2.1⟩ ⟨ce.1, ce.2.1⟩
  rw [← hN] at hw
  have p0 := mul_le4 (x := a) (by omega) ca.1 ca.2.1
  have p1 := mul_le4 (x := b) (by omega) cb.1 cb.2.1
  have p2 := mul_le4 (x := c) (by omega) cc.1 cc.2.1
  have p3 := mul_le4 (x := e) (by omega) ce.1 ce.2.1
  have hNi : i64In N := by unfold i64In; omega
  have hN0 : (a + b + c + e : Nat) ≤ N := by omega
  have hDen : allIn [s.a.d, s.b.d, s.c.d, s.e.d] := in4 (by have := ca.1; have := ca.2.1; unfold i64In; omega) (by have := cb.1; have := cb.2.1; unfold i64In; omega) (by have := cc.1; have := cc.2.1; unfold i64In; omega) (by have := ce.1; have := ce.2.1; unfold i64In; omega)
  have cV := fun H => worth17_c s a b c e H (in4 (by unfold i64In; omega) (by unfold i64In; omega) (by unfold i64In; omega) (by unfold i64In; omega)) hDen
  rw [hw] at cV
  unfold setV notesV at cV
  have hrow : ([a, b, c, e] : List Nat).map nI = [.int .i64 (a : Int), .int .i64 (b : Int), .int .i64 (c : Int), .int .i64 (e : Int)] := rfl
  rw [hrow] at r6
  simp (disch := first | omega | assumption | decide | (simp <;> omega) | fail) [facts, e3, e4, e5, e6, e7, e8, r5, r6, hf1, ht1]
  refine (cV _).mono ?_
  rintro v G1 ⟨rfl, hle2⟩
  replace hle := Heap.le_trans hle hle2
  replace r5 := hle2 _ _ r5
  clear hle2
  simp (disch := first | omega | assumption | decide | (simp <;> omega) | fail) [facts, e3, e4, e5, e6, e7, e8, r5, hf1, ht1]
  have cF := fun H => find_c s N hNi H
  unfold setV at cF
  refine (cF _).mono ?_
  rintro v G2 ⟨y, f, rfl, hf, hle2⟩
  replace hle := Heap.le_trans hle hle2
  replace r5 := hle2 _ _ r5
  clear hle2
  obtain ⟨hy4, _⟩ := hf.four
  by_cases hz : a + b + c + e = 0
  · have hf33 : y = [0, 0, 0, 0] ∧ f = 33 := by
      obtain rfl : a = 0 := by omega
      obtain rfl : b = 0 := by omega
      obtain rfl : c = 0 := by omega
      obtain rfl : e = 0 := by omega
      refine hf.one (.out (.inl ?_))
      rw [hN]; simp
    obtain ⟨rfl, rfl⟩ := hf33
    have nv : notesL [0, 0, 0, 0] = .agg #[.int .i64 0, .int .i64 0, .int .i64 0, .int .i64 0] := rfl
    have hzI : (a : Int) + b + c + e = 0 := by omega
    rw [nv]
    simp (disch := first | omega | assumption | decide | (simp <;> omega) | fail) [facts, ]
    refine fresh_intro fun b11 hb11 => ?_
    simp (disch := first | omega | assumption | decide | (simp <;> omega) | fail) [facts, e3, e4, e5, e6, e7, e8, hz, hzI]
    have hb11H := le_of_none hle hb11
    exact ⟨_, Heap.le_refl _, le_updN _ (le_updN _ hle hb11H) hb11H⟩
  obtain ⟨rfl, ⟨a', b', c', e', rfl, y0, y1, y2, y3, hyn, hyN⟩⟩ := makes hs (a := a) (b := b) (c := c) (e := e) (by omega) (by omega) (by omega) (by omega) (by omega) h40 hN.symm hf
  have nv : notesL [a', b', c', e'] = .agg #[.int .i64 a', .int .i64 b', .int .i64 c', .int .i64 e'] := rfl
  have hw' := worth_four (x0 := a') (x1 := b') (x2 := c') (x3 := e') (by omega) ⟨ca.1, ca.2.1⟩ ⟨cb.1, cb.2.1⟩ ⟨cc.1, cc.2.1⟩ ⟨ce.1, ce.2.1⟩
  rw [hyN] at hw'
  have cW := fun H => worthM_c s a' b' c' e' H (in4 (by unfold i64In; omega) (by unfold i64In; omega) (by unfold i64In; omega) (by unfold i64In; omega)) hDen
  rw [hw'] at cW
  unfold setV notesV at cW
  have cC := fun H => countR_c [(a' : Int), b', c', e'] H rfl (in4 (by unfold i64In; omega) (by unfold i64In; omega) (by unfold i64In; omega) (by unfold i64In; omega))
  have hsy : [(a' : Int), b', c', e'].sum = ((a' + b' + c' + e' : Nat) : Int) := by simp; omega
  rw [hsy, totV_yes (by unfold i64In; omega)] at cC
  have hag : aggV [(a' : Int), b', c', e'] = .agg #[.int .i64 a', .int .i64 b', .int .i64 c', .int .i64 e'] := rfl
  rw [hag] at cC
  obtain ⟨m, hm⟩ : ∃ m, m = a' + b' + c' + e' := ⟨_, rfl⟩
  obtain ⟨n, hn⟩ : ∃ n, n = a + b + c + e := ⟨_, rfl⟩
  rw [← hm] at cC hyn
  rw [← hn] at e7 hyn hz
  have hzI : ¬ (n : Int) = 0 := by omega
  have hmn : ¬ (n : Int) < (m : Int) := by omega
  rw [nv]
  simp (disch := first | omega | assumption | decide | (simp <;> omega) | fail) [facts, ]
  refine fresh_intro fun b11 hb11 => ?_
  simp (disch := first | omega | assumption | decide | (simp <;> omega) | fail) [facts, upd_upd]
  replace r5 := upd_other (o := .row true 0 [.int .i64 a', .int .i64 b', .int .i64 c', .int .i64 e'] 0) hb11 r5
  have r11 := upd_same G2 b11 (.row true 0 [.int .i64 a', .int .i64 b', .int .i64 c', .int .i64 e'] 0)
  replace hle := Heap.le_trans hle (le_upd (.row true 0 [.int .i64 a', .int .i64 b', .int .i64 c', .int .i64 e'] 0) hb11)
  generalize upd G2 b11 (.row true 0 [.int .i64 a', .int .i64 b', .int .i64 c', .int .i64 e'] 0) = G3 at *
  clear hb11
  simp (disch := first | omega | assumption | decide | (simp <;> omega) | fail) [facts, e3, e4, e5, e6, e7, e8, hzI, hz, r11]
  refine (cC _).mono ?_
  rintro v G4 ⟨rfl, hle2⟩
  replace hle := Heap.le_trans hle hle2
  replace r5 := hle2 _ _ r5
  replace r11 := hle2 _ _ r11
  clear hle2
  simp (disch := first | omega | assumption | decide | (simp <;> omega) | fail) [facts, e3, e4, e5, e6, e7, e8, hzI, r11, r5, hf1, ht1]
  refine (cW _).mono ?_
  rintro v G5 ⟨rfl, hle2⟩
  replace hle := Heap.le_trans hle hle2
  replace r5 := hle2 _ _ r5
  replace r11 := hle2 _ _ r11
  clear hle2
  simp (disch := first | omega | assumption | decide | (simp <;> omega) | fail) [facts, e3, e4, e5, e6, e7, e8, hzI, r11, r5, hf1, ht1, hmn]
  refine w_loop (mk2 H s [a', b', c', e'] b5 b11) (fun st => 4 - (intOf (st.env 17)).toNat) ?_ ?_
  · exact ⟨0, by decide, by simp [e5], by simp, by simp, hle, r5, r11⟩
  clear e3 e4 e5 e6 e7 e8 r5 r11 hle
  rintro ⟨env, G6⟩ ⟨i, hi, e5, e11, e17, hle, r5, r11⟩
  simp only at e5 e11 e17 hle r5 r11
  by_cases hlt : i < 4
  case neg =>
    have hltI : ¬ (i : Int) < 4 := by omega
    simp (disch := first | omega | assumption | decide | (simp <;> omega) | fail) [facts, e5, e11, e17, hltI]
    exact ⟨_, Heap.le_refl _, hle⟩
  have hltI : (i : Int) < 4 := by omega
  obtain ⟨c0, hc0⟩ : ∃ c, (cl s)[i]? = some c := ⟨_, List.getElem?_eq_getElem (by simpa [cl] using hlt)⟩
  have hcell := flat_at s hc0
  have hy : ∃ v : Nat, ([.int .i64 (a' : Int), .int .i64 (b' : Int), .int .i64 (c' : Int), .int .i64 (e' : Int)] : List Value)[i]? = some (.int .i64 (v : Int)) ∧ v ≤ c0.m ∧ COk c0 := by
    have : i = 0 ∨ i = 1 ∨ i = 2 ∨ i = 3 := by omega
    rcases this with rfl | rfl | rfl | rfl <;> simp [cl] at hc0 <;> subst hc0
    · exact ⟨a', rfl, y0, ca⟩
    · exact ⟨b', rfl, y1, cb⟩
    · exact ⟨c', rfl, y2, cc⟩
    · exact ⟨e', rfl, y3, ce⟩
  obtain ⟨v, hv, hvm, hcok⟩ := hy
  obtain ⟨hcm, hcl⟩ := hcok.m
  have cle := left_c c0.d c0.l c0.g c0.r G6
  unfold cassV at cle
  rw [hcl] at cle
  have hvl : ¬ c0.l < (v : Int) := by omega
  have hv0 : ¬ (v : Int) < 0 := by omega
  obtain ⟨Y, hY⟩ : ∃ Y : List Value, Y = [.int .i64 (a' : Int), .int .i64 (b' : Int), .int .i64 (c' : Int), .int .i64 (e' : Int)] := ⟨_, rfl⟩
  have hrow' : ([a', b', c', e'] : List Nat).map nI = Y := by rw [hY]; rfl
  have hYl : Y.length = 4 := by rw [hY]; rfl
  rw [← hY] at hv
  obtain ⟨_, hv'⟩ := List.getElem?_eq_some_iff.1 hv
  have r11' := r11
  rw [hrow'] at r11'
  simp (disch := first | omega | assumption | decide | (simp <;> omega) | fail) [facts, e5, e11, e17, hltI]
  refine w_plan (by simp [facts]) (opsP [0,1,2,3,4,5,6,8,9,10] (.both (opsP [7,11,12,13] .done) (opsP [11,7,12,13] .done))) (by decide +kernel) ?_
  simp (disch := first | omega | assumption | decide | (simp <;> omega) | fail) [facts, e5, e11, e17, r11', r5, hYl, hv, hv', hv0, hf1, hcell]
  repeat' apply And.intro
  all_goals
    refine cle.mono ?_
    rintro v' G7 ⟨rfl, hle2⟩
    have k11 := hle2 _ _ r11'
    simp (disch := first | omega | assumption | decide | (simp <;> omega) | fail) [facts, e5, e11, e17, k11, hYl, hv, hv', hv0, hvl]
    exact ⟨_, Heap.le_refl _, ⟨i + 1, by omega, by simp [e5], by simp [e11], by simp, Heap.le_trans hle hle2, hle2 _ _ r5, hle2 _ _ r11⟩, by simp [intOf, e17]; omega⟩
end Go.Proofs.Ytiaigpkaajnpoaa.GL
