/- Layer 22: QueuePlays. -/
import Derived.Test.YthejhhllpjfojaaQuI
namespace Go.Proofs.Ythejhhllpjfojaa.GL
open Go Go.RowKit
set_option maxRecDepth 10000
set_option pp.deepTerms.threshold 8
set_option pp.maxSteps 3000
set_option linter.unusedSimpArgs false
set_option linter.unusedVariables false

structure A22 where
  w : Nat
  k : Nat
  g : Int
def A22.cells (x : A22) : List Value := [.int .u8 x.w, .int .u8 x.k, .int .i64 x.g]
theorem a223 (x : A22) : x.cells.length = 3 := rfl
structure St22 (H1 F A B H : Heap) (pq pr : Nat) (q r : QS) (i : Nat) : Prop where
  f : Heap.le H1 F
  t : TwoO F A B H
  qa : Que A pq q
  rb : Que B pr r
  l : r.l = q.l
  k : q.k = r.k % 4 ∧ 0 ≤ r.k ∧ r.k ≤ i
  few : q.l.length ≤ i
def pl22Inv (H1 : Heap) (a : Option Addr) (n c pq pr : Nat) (s : St) : Prop :=
  ∃ (i : Nat) (F A B : Heap) (q r : QS), i ≤ n ∧ s.env 0 = .slice a n c ∧ s.env 3 = .pointer (some ⟨pq, 0, none⟩) ∧ s.env 4 = .pointer (some ⟨pr, 0, none⟩) ∧ s.env 5 = .int .i64 i ∧ St22 H1 F A B s.heap pq pr q r i
theorem putE_l {q r : QS} (h : r.l = q.l) (t s : Int) : putE r t s = putE q t s := by unfold putE; rw [h]
theorem putD_l {q r : QS} (h : r.l = q.l) (t s g : Int) : (putD r t s g).l = (putD q t s g).l ∧ (putD q t s g).k = q.k ∧ (putD r t s g).k = r.k ∧ (putD q t s g).l.length ≤ q.l.length + 1 := by
  unfold putD
  rw [putE_l h]
  by_cases h0 : putE q t s = 0
  · simp only [h0, if_true, h]; simp
  · rw [if_neg h0, if_neg h0]; exact ⟨h, rfl, rfl, by omega⟩
theorem ackD_l {q r : QS} (h : r.l = q.l) (t s : Int) : (ackD r t s).l = (ackD q t s).l ∧ (ackD q t s).k = q.k ∧ (ackD r t s).k = r.k ∧ (ackD q t s).l.length ≤ q.l.length := by
  unfold ackD
  rw [h]
  cases idxQ t s q.l with
  | none => exact ⟨h, rfl, rfl, Nat.le_refl _⟩
  | some i => exact ⟨rfl, rfl, rfl, by simp only [List.length_eraseIdx]; split <;> omega⟩
theorem tick_l {q r : QS} (h : r.l = q.l) (hk : q.k = r.k % 4 ∧ 0 ≤ r.k) : (tickR r).l = (tickD q).l ∧ (tickD q).k = (tickR r).k % 4 ∧ (tickR r).k = r.k + 1 := by
  unfold tickR tickD
  by_cases h4 : (r.k + 1) % 4 = 0
  · rw [if_pos h4, if_pos (by omega)]
    simp only [h]; exact ⟨trivial, by omega, trivial⟩
  · rw [if_neg h4, if_neg (by omega)]
    simp only [h]; exact ⟨trivial, by omega, trivial⟩
set_option maxHeartbeats 8000000 in
theorem queuePlays_c (a : Option Addr) (n c : Nat) (L : List A22) (H : Heap) (h : SlA H a n 3 (rowsC A22.cells L)) (hL : ∀ x ∈ L, x.w < 256 ∧ x.k < 256) :
    ECalls Try.prog 3 #[.slice a n c] H fun r _ => r = .bool true := by
  refine ecalls_of_ewp (args := [_]) Try.func3 rfl rfl rfl (by simp [Try.ntmps3]) (by kernel_rfl) ?_
  have hlen : L.length = n := h.els a223 (by decide)
  simp (disch := first | omega | assumption | decide | (simp <;> omega) | fail) [facts, ]
  refine (known22_c H).mono ?_
  rintro v H1 ⟨rfl, hle⟩
  by_cases hn : (100 : Int) < (n : Int)
  · simp (disch := first | omega | assumption | decide | (simp <;> omega) | fail) [facts, hn]
    exact ⟨_, Heap.le_refl _⟩
  replace h := h.le hle
  simp (disch := first | omega | assumption | decide | (simp <;> omega) | fail) [facts, hn]
  refine (queNew_c H1).mono ?_
  rintro v H2 ⟨pq, A0, rfl, ow1, d1⟩
  simp (disch := first | omega | assumption | decide | (simp <;> omega) | fail) [facts, ]
  refine fresh_intro fun pr hpr => ?_
  have ow2 := (Own.nil (Heap.le_refl H2)).add hpr (.row true 0 [.slice none 0 0, .int .i64 0] 0)
  have r1 : Que (upd (fun _ => none) pr (.row true 0 [.slice none 0 0, .int .i64 0] 0)) pr ⟨[], 0⟩ := ⟨.slice none 0 0, upd_same _ _ _, LstR.nil _ _, by simp [blkV]⟩
  have hto := TwoO.new (Heap.le_refl H1) ow1 ow2
  simp (disch := first | omega | assumption | decide | (simp <;> omega) | fail) [facts, ]
  refine w_loop (pl22Inv H1 a n c pq pr) (fun s => n - (intOf (s.env 5)).toNat) ?_ ?_
  · exact ⟨0, H1, A0, _, ⟨[], 0⟩, ⟨[], 0⟩, Nat.zero_le _, by simp, by simp, by simp, by simp, Heap.le_refl _, hto, d1, r1, rfl, by decide, Nat.le_refl _⟩
  clear ow1 d1 ow2 r1 hto
  rintro ⟨env, G⟩ ⟨i, F, A, B, q, r, hi, e0, e3, e4, e5, S⟩
  simp only at e0 e3 e4 e5 S
  by_cases hlt : i < n
  · have hltI : (i : Int) < (n : Int) := by omega
    obtain ⟨x, hx⟩ : ∃ x, L[i]? = some x := ⟨_, List.getElem?_eq_getElem (by omega)⟩
    obtain ⟨hxw, hxk⟩ := hL x (List.mem_of_getElem? hx)
    obtain ⟨b, o, rfl⟩ := h.lit (by omega)
    have rx : rdNU (G b) (o + i * 3) 3 = some [.int .u8 x.w, .int .u8 x.k, .int .i64 x.g] := (h.le (Heap.le_trans S.f S.t.fle)).el a223 hx (j := 0) (r := 3) (by decide) (by decide)
    simp (disch := first | omega | assumption | decide | (simp <;> omega) | fail) [facts, e0, e3, e4, e5, hltI, rx]
    refine fresh_intro fun b6 hb6 => ?_
    simp (disch := first | omega | assumption | decide | (simp <;> omega) | fail) [facts, upd_upd]
    have t2 := S.t.keep hb6 (.row true 0 [.int .u8 x.w, .int .u8 x.k, .int .i64 x.g] 0)
    have f2 := Heap.le_trans S.f (le_upd (.row true 0 [.int .u8 x.w, .int .u8 x.k, .int .i64 x.g] 0) (le_of_none S.t.fle hb6))
    have l6 := upd_same F b6 (.row true 0 [.int .u8 x.w, .int .u8 x.k, .int .i64 x.g] 0)
    have hq := S.qa
    have hr := S.rb
    have hll := S.l
    have hkk := S.k
    have hfew := S.few
    clear S rx
    generalize upd F b6 (.row true 0 [.int .u8 x.w, .int .u8 x.k, .int .i64 x.g] 0) = F2 at *
    generalize upd G b6 (.row true 0 [.int .u8 x.w, .int .u8 x.k, .int .i64 x.g] 0) = G2 at *
    have m6 := t2.fle _ _ l6
    obtain ⟨kt, hkt⟩ : ∃ kt : Int, (x.k : Int) % 3 = kt := ⟨_, rfl⟩
    obtain ⟨ks, hks⟩ : ∃ ks : Int, (x.k : Int) / 3 % 4 = ks := ⟨_, rfl⟩
    have hk2 : 0 ≤ kt ∧ kt < 3 ∧ 0 ≤ ks ∧ ks < 4 := by omega
    simp (disch := first | omega | assumption | decide | (simp <;> omega) | fail) [facts, e0, e3, e4, e5, m6, hkt, hks]
    refine fresh_intro fun b7 hb7 => ?_
    have t3 := t2.keep hb7 (.row true 0 [.int .u16 kt, .int .u32 ks] 0)
    have f3 := Heap.le_trans f2 (le_upd (.row true 0 [.int .u16 kt, .int .u32 ks] 0) (le_of_none t2.fle hb7))
    have l7 := upd_same F2 b7 (.row true 0 [.int .u16 kt, .int .u32 ks] 0)
    have l6' := (le_upd (.row true 0 [.int .u16 kt, .int .u32 ks] 0) (le_of_none t2.fle hb7)) _ _ l6
    have m6' := (le_upd (.row true 0 [.int .u16 kt, .int .u32 ks] 0) hb7) _ _ m6
    simp (disch := first | omega | assumption | decide | (simp <;> omega) | fail) [facts, e0, e3, e4, e5, m6', hkt, hks, upd_upd]
    generalize upd F2 b7 (.row true 0 [.int .u16 kt, .int .u32 ks] 0) = F3 at *
    generalize upd G2 b7 (.row true 0 [.int .u16 kt, .int .u32 ks] 0) = G3 at *
    clear t2 f2 l6 m6 hb6
    have m7 := t3.fle _ _ l7
    have hle3 := t3.fle
    obtain ⟨I, hI⟩ : ∃ I : St → Prop, I = (fun s => ∃ F A B q r, s.env 0 = .slice (some ⟨b, o, none⟩) n c ∧ s.env 3 = .pointer (some ⟨pq, 0, none⟩) ∧ s.env 4 = .pointer (some ⟨pr, 0, none⟩) ∧ s.env 5 = .int .i64 i ∧ St22 H1 F A B s.heap pq pr q r (i + 1)) := ⟨_, rfl⟩
    refine cond_cutB I ?_ ?_
    · by_cases hw3 : (x.w : Int) % 7 = 3
      · obtain ⟨z1, z2, z3, z4⟩ := ackD_l hll kt ks
        simp (disch := first | omega | assumption | decide | (simp <;> omega) | fail) [facts, e0, e3, e4, e5, hw3]
        refine w_plan (P := Try.prog) (by simp [facts]) (opsP [0,3] (.both (opsP [1] (.both (opsP [2,4,5,6] .done) (opsP [4,2,5,6] .done))) (opsP [4,1,2,5,6] .done))) ?_ ?_
        · decide +kernel
        simp (disch := first | omega | assumption | decide | (simp <;> omega) | fail) [facts, e0, e3, e4, e5, m7]
        repeat' apply And.intro
        all_goals
          refine (queAck_c t3.ale hq kt ks (by omega)).mono ?_
          rintro v G4 ⟨rfl, A4, ow4, hq4⟩
          have t4 := t3.left ow4
          have m7' := t4.fle _ _ l7
          simp (disch := first | omega | assumption | decide | (simp <;> omega) | fail) [facts, e0, e3, e4, e5, m7']
          refine (refAckQ_c t4.ble hr kt ks (by rw [hll]; omega)).mono ?_
          rintro v G5 ⟨rfl, B5, ow5, hr5⟩
          have t5 := t4.right ow5
          rw [hll]
          simp (disch := first | omega | assumption | decide | (simp <;> omega) | fail) [facts, e0, e3, e4, e5]
          subst hI
          exact ⟨F3, A4, B5, _, _, by simp [e0], by simp [e3], by simp [e4], by simp [e5], f3, t5, hq4, hr5, z1, by rw [z2, z3]; omega, by omega⟩
      by_cases hw45 : (x.w : Int) % 7 = 4 ∨ (x.w : Int) % 7 = 5
      · rcases hw45 with hw | hw
        all_goals
          simp (disch := first | omega | assumption | decide | (simp <;> omega) | fail) [facts, e0, e3, e4, e5, hw]
          refine (queOut_c t3.ale hq (by omega)).mono ?_
          rintro v G4 ⟨A4, ow4, hq4, l4⟩
          have t4 := t3.left ow4
          obtain ⟨a4, c4, rfl, _, _⟩ := l4.sl t4.ale
          simp (disch := first | omega | assumption | decide | (simp <;> omega) | fail) [facts, e0, e3, e4, e5, hw]
          refine (refOutQ_c t4.ble hr (by rw [hll]; omega)).mono ?_
          rintro v G5 ⟨B5, ow5, hr5, l5⟩
          have t5 := t4.right ow5
          obtain ⟨a4', c4', e, sl4, _⟩ := l4.sl t5.ale
          simp only [Value.slice.injEq] at e
          obtain ⟨rfl, _, rfl⟩ := e
          obtain ⟨a5, c5, rfl, sl5, _⟩ := l5.sl t5.ble
          rw [hll] at sl5 ⊢
          have hflen := List.length_filter_le (fun x : QZ => x.w) q.l
          simp (disch := first | omega | assumption | decide | (simp <;> omega) | fail) [facts, e0, e3, e4, e5, hw]
          refine (same_c _ _ _ _ _ (q.l.filter (·.w)) (q.l.filter (·.w)) G5 sl4 sl5 rfl (by omega)).mono ?_
          rintro v G6 ⟨rfl, rfl⟩
          simp (disch := first | omega | assumption | decide | (simp <;> omega) | fail) [facts, e0, e3, e4, e5, hw]
          subst hI
          exact ⟨F3, A4, B5, _, _, by simp [e0], by simp [e3], by simp [e4], by simp [e5], f3, t5, hq4, hr5, by simp only [hll], by simp only; omega, by simp only [List.length_map]; omega⟩
      have hw4 : ¬ (x.w : Int) % 7 = 4 := fun h => hw45 (.inl h)
      have hw5 : ¬ (x.w : Int) % 7 = 5 := fun h => hw45 (.inr h)
      by_cases hw6 : (x.w : Int) % 7 = 6
      · obtain ⟨z1, z2, z3⟩ := tick_l hll ⟨hkk.1, hkk.2.1⟩
        simp (disch := first | omega | assumption | decide | (simp <;> omega) | fail) [facts, e0, e3, e4, e5, hw3, hw4, hw5, hw6]
        refine (queTick_c t3.ale hq (by omega) (by omega)).mono ?_
        rintro v G4 ⟨A4, ow4, hq4⟩
        have t4 := t3.left ow4
        simp (disch := first | omega | assumption | decide | (simp <;> omega) | fail) [facts, e0, e3, e4, e5]
        refine (refTickQ_c t4.ble hr (by rw [hll]; omega) (by omega)).mono ?_
        rintro v G5 ⟨B5, ow5, hr5⟩
        have t5 := t4.right ow5
        simp (disch := first | omega | assumption | decide | (simp <;> omega) | fail) [facts, e0, e3, e4, e5]
        subst hI
        exact ⟨F3, A4, B5, _, _, by simp [e0], by simp [e3], by simp [e4], by simp [e5], f3, t5, hq4, hr5, z1, by rw [z2, z3]; omega, by rw [tickD_len]; omega⟩
      · obtain ⟨z1, z2, z3, z4⟩ := putD_l hll kt ks x.g
        have z5 := putE_l hll kt ks
        simp (disch := first | omega | assumption | decide | (simp <;> omega) | fail) [facts, e0, e3, e4, e5, hw3, hw4, hw5, hw6]
        refine w_plan (P := Try.prog) (by simp [facts]) (opsP [0,2,5,7] (.both (opsP [1] (.both (opsP [3] (.both (opsP [4] (.both (opsP [6,8,9,10] .done) (opsP [8,6,9,10] .done))) (.both (opsP [6] (.both (opsP [4,8,9,10] .done) (opsP [8,4,9,10] .done))) (opsP [8] (.both (opsP [4,6,9,10] .done) (opsP [6,4,9,10] .done)))))) (.both (opsP [6] (.both (opsP [3] (.both (opsP [4,8,9,10] .done) (opsP [8,4,9,10] .done))) (opsP [8,3,4,9,10] .done))) (opsP [8] (.both (opsP [3] (.both (opsP [4,6,9,10] .done) (opsP [6,4,9,10] .done))) (opsP [6,3,4,9,10] .done)))))) (.both (opsP [3] (.both (opsP [1] (.both (opsP [4] (.both (opsP [6,8,9,10] .done) (opsP [8,6,9,10] .done))) (.both (opsP [6] (.both (opsP [4,8,9,10] .done) (opsP [8,4,9,10] .done))) (opsP [8] (.both (opsP [4,6,9,10] .done) (opsP [6,4,9,10] .done)))))) (.both (opsP [6] (.both (opsP [1] (.both (opsP [4,8,9,10] .done) (opsP [8,4,9,10] .done))) (opsP [8,1,4,9,10] .done))) (opsP [8] (.both (opsP [1] (.both (opsP [4,6,9,10] .done) (opsP [6,4,9,10] .done))) (opsP [6,1,4,9,10] .done)))))) (.both (opsP [6] (.both (opsP [1] (.both (opsP [3] (.both (opsP [4,8,9,10] .done) (opsP [8,4,9,10] .done))) (opsP [8,3,4,9,10] .done))) (.both (opsP [3] (.both (opsP [1] (.both (opsP [4,8,9,10] .done) (opsP [8,4,9,10] .done))) (opsP [8,1,4,9,10] .done))) (opsP [8] (.both (opsP [1,3,4,9,10] .done) (opsP [3,1,4,9,10] .done)))))) (opsP [8] (.both (opsP [1] (.both (opsP [3] (.both (opsP [4,6,9,10] .done) (opsP [6,4,9,10] .done))) (opsP [6,3,4,9,10] .done))) (.both (opsP [3] (.both (opsP [1] (.both (opsP [4,6,9,10] .done) (opsP [6,4,9,10] .done))) (opsP [6,1,4,9,10] .done))) (opsP [6] (.both (opsP [1,3,4,9,10] .done) (opsP [3,1,4,9,10] .done)))))))))) ?_ ?_
        · decide +kernel
        simp (disch := first | omega | assumption | decide | (simp <;> omega) | fail) [facts, e0, e3, e4, e5, m7, m6']
        repeat' apply And.intro
        all_goals
          refine (quePut_c t3.ale hq kt ks x.g (by omega)).mono ?_
          rintro v G4 ⟨rfl, A4, ow4, hq4⟩
          have t4 := t3.left ow4
          have m7' := t4.fle _ _ l7
          have m6'' := t4.fle _ _ l6'
          simp (disch := first | omega | assumption | decide | (simp <;> omega) | fail) [facts, e0, e3, e4, e5, m7', m6'']
          repeat' apply And.intro
          all_goals
            refine (refPutQ_c t4.ble hr kt ks x.g (by rw [hll]; omega)).mono ?_
            rintro v G5 ⟨rfl, B5, ow5, hr5⟩
            have t5 := t4.right ow5
            rw [z5]
            simp (disch := first | omega | assumption | decide | (simp <;> omega) | fail) [facts, e0, e3, e4, e5]
            subst hI
            exact ⟨F3, A4, B5, _, _, by simp [e0], by simp [e3], by simp [e4], by simp [e5], f3, t5, hq4, hr5, z1, by rw [z2, z3]; omega, by omega⟩
    subst hI
    clear e0 e3 e4 e5 t3 m7 m6' l7 l6' f3 hq hr hll hkk hfew hle3 hb7
    rintro ⟨env, G⟩ ⟨F, A, B, q, r, e0, e3, e4, e5, S⟩
    simp only at e0 e3 e4 e5 S
    have hfew := S.few
    obtain ⟨rv, rq⟩ := S.rb
    have hll := S.l
    obtain ⟨ra, rc, rfl, rsl, _⟩ := rq.list.sl S.t.ble
    have hpr := S.t.ble _ _ rq.row
    have finish : ∀ (env2 : Nat → Value) (G2 : Heap) A2, TwoO F A2 B G2 → Que A2 pq q → env2 0 = .slice (some ⟨b, o, none⟩) n c → env2 3 = .pointer (some ⟨pq, 0, none⟩) → env2 4 = .pointer (some ⟨pr, 0, none⟩) → env2 5 = .int .i64 ((i : Int) + 1) → pl22Inv H1 (some ⟨b, o, none⟩) n c pq pr ⟨env2, G2⟩ := fun env2 G2 A2 t hq h0 h3 h4 h5 =>
      ⟨i + 1, F, A2, B, q, r, by omega, h0, h3, h4, by simpa using h5, S.f, t, hq, S.rb, S.l, S.k, S.few⟩
    simp (disch := first | omega | assumption | decide | (simp <;> omega) | fail) [facts, e0, e3, e4, e5]
    refine w_plan (P := Try.prog) (by simp [facts]) (opsP [0,2,3,4] (.both (opsP [1,5,6,7] .done) (opsP [5,1,6,7] .done))) ?_ ?_
    · decide +kernel
    simp (disch := first | omega | assumption | decide | (simp <;> omega) | fail) [facts, e0, e3, e4, e5, hpr]
    constructor
    all_goals
      refine (queAll_c S.t.ale S.qa (by omega)).mono ?_
      rintro v G2 ⟨A2, ow2, hq2, l2⟩
      have t2 := S.t.left ow2
      obtain ⟨a2, c2, rfl, sl2, _⟩ := l2.sl t2.ale
      have hpr2 := t2.ble _ _ rq.row
      obtain ⟨ra', rc', e, rsl2, _⟩ := rq.list.sl t2.ble
      simp only [Value.slice.injEq] at e
      obtain ⟨rfl, _, rfl⟩ := e
      rw [hll] at rsl2
      simp (disch := first | omega | assumption | decide | (simp <;> omega) | fail) [facts, e0, e3, e4, e5, hpr2, hll]
      refine (same_c _ _ _ _ _ q.l q.l G2 sl2 rsl2 rfl (by omega)).mono ?_
      rintro v G3 ⟨rfl, rfl⟩
      simp (disch := first | omega | assumption | decide | (simp <;> omega) | fail) [facts, e0, e3, e4, e5]
      exact ⟨_, Heap.le_refl _, finish _ _ A2 t2 hq2 (by simp [e0]) (by simp [e3]) (by simp [e4]) (by simp), by simp [intOf]; omega⟩
  · have hltI : ¬ (i : Int) < (n : Int) := by omega
    simp (disch := first | omega | assumption | decide | (simp <;> omega) | fail) [facts, e0, e3, e4, e5, hltI]
    exact ⟨_, Heap.le_refl _⟩
theorem a22_is {M : Heap} {cs : List Value} (h : Fits M [.int .u8, .int .u8, .int .i64] cs) : ∃ x : A22, (x.w < 256 ∧ x.k < 256) ∧ cs = x.cells := by
  obtain ⟨v0, r0, rfl, ⟨w, rfl, hw⟩, h1⟩ := h.cons
  obtain ⟨v1, r1, rfl, ⟨k, rfl, hk⟩, h2⟩ := h1.cons
  obtain ⟨v2, r2, rfl, ⟨g, rfl, _⟩, h3⟩ := h2.cons
  have := h3.nil
  subst this
  have hw' := (u8_wf w).1 hw
  have hk' := (u8_wf k).1 hk
  refine ⟨⟨w.toNat, k.toNat, g⟩, ⟨by show w.toNat < 256; omega, by show k.toNat < 256; omega⟩, ?_⟩
  simp only [A22.cells]
  rw [Int.toNat_of_nonneg hw'.1, Int.toNat_of_nonneg hk'.1]
theorem a22s_of {M : Heap} {xs : List Value} {n : Nat} (hl : xs.length = n * 3) (h : ∀ i, i < n → Fits M [.int .u8, .int .u8, .int .i64] ((xs.drop (i * 3)).take 3)) : ∃ L : List A22, xs = rowsC A22.cells L ∧ ∀ x ∈ L, x.w < 256 ∧ x.k < 256 := by
  obtain ⟨L, e, _, hL⟩ := rows_list a223 hl fun i hi => a22_is (h i hi)
  exact ⟨L, e, hL⟩
end Go.Proofs.Ythejhhllpjfojaa.GL
