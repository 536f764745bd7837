/- Layer 17: Find, walked. -/
import Derived.Test.YtiaigpkaajnpoaaMxF
namespace Go.Proofs.Ytiaigpkaajnpoaa.GL
open Go Go.RowKit
set_option maxRecDepth 10000
set_option pp.deepTerms.threshold 8
set_option pp.maxSteps 3000
set_option linter.unusedSimpArgs false
set_option linter.unusedVariables false

theorem flat_len (s : S4) : (flat s).length = 16 := rfl
theorem flat_take (s : S4) : List.take 16 (flat s) = flat s := rfl
def Cs.cells (c : Cs) : List Value := [.int .i64 c.d, .int .i64 c.l, .int .i64 c.g, .int .i64 c.r]
theorem flat_at (s : S4) {k : Nat} {c : Cs} (h : (cl s)[k]? = some c) : List.take 4 (List.drop (k * 4) (flat s)) = [.int .i64 c.d, .int .i64 c.l, .int .i64 c.g, .int .i64 c.r] := by
  rcases k with _ | _ | _ | _ | k
  all_goals first
    | (simp [cl] at h; subst h; rfl)
    | (simp [cl] at h)
/-- The first k cassettes told. -/
def upTo (l : List Nat) (k : Nat) : List Nat := (List.range 4).map fun j => if j < k then l.getD j 0 else 0
theorem upTo_len (l : List Nat) (k : Nat) : (upTo l k).length = 4 := by simp [upTo]
theorem upTo_set (l : List Nat) {k : Nat} (hk : k < 4) : (upTo l k).set k (l.getD k 0) = upTo l (k + 1) := by
  have : k = 0 ∨ k = 1 ∨ k = 2 ∨ k = 3 := by omega
  rcases this with rfl | rfl | rfl | rfl <;> rfl
theorem upTo_same (l : List Nat) {k : Nat} (hk : k < 4) (h : l.getD k 0 = 0) : upTo l k = upTo l (k + 1) := by
  rw [← upTo_set l hk, h]
  have : k = 0 ∨ k = 1 ∨ k = 2 ∨ k = 3 := by omega
  rcases this with rfl | rfl | rfl | rfl <;> rfl
theorem upTo_all {l : List Nat} (h : l.length = 4) : upTo l 4 = l := by
  match l, h with
  | [a, b, c, d], _ => rfl
theorem srC_len {ms ws ds : List Nat} {c q : Nat} (h1 : ms.length = 4) (h2 : ws.length = 4) (h3 : ds.length = 5) : (srC ms ws ds c q).length = 15 := by simp [srC, h1, h2, h3]
theorem srC_set2 {ms ws ds : List Nat} {c q k m w : Nat} (h1 : ms.length = 4) (h2 : ws.length = 4) (hk : k < 4) : ((srC ms ws ds c q).set k (.int .i64 (m : Int))).set (4 + k) (.int .i64 (w : Int)) = srC (ms.set k m) (ws.set k w) ds c q := by
  obtain ⟨a0, a1, a2, a3, rfl⟩ := lit4 h1
  obtain ⟨b0, b1, b2, b3, rfl⟩ := lit4 h2
  have : k = 0 ∨ k = 1 ∨ k = 2 ∨ k = 3 := by omega
  rcases this with rfl | rfl | rfl | rfl <;> rfl
def dTo (s : S4) (j : Nat) : List Nat := (List.range 5).map fun i => if j ≤ i then (dsL s).getD i 0 else 0
def fd2Inv (H : Heap) (s : S4) (amount : Int) (p q b4 : Nat) (st : St) : Prop :=
  ∃ j : Nat, j ≤ 4 ∧ st.env 1 = .int .i64 amount ∧ st.env 4 = .pointer (some ⟨b4, 0, none⟩) ∧ st.env 5 = .int .i64 0 ∧ st.env 6 = .pointer (some ⟨p, 0, none⟩) ∧ st.env 9 = .int .i64 ((j : Int) - 1) ∧ Heap.le H st.heap ∧ st.heap b4 = some (.row true 0 [.int .i64 0, .int .i64 0, .int .i64 0, .int .i64 0] 0) ∧
    st.heap q = some (.mapG 0 []) ∧ st.heap p = some (.row true 0 (srC (msL s) (wsL s) (dTo s j) 41 q) 0)
def fd1Inv (H : Heap) (s : S4) (amount : Int) (p q b4 : Nat) (st : St) : Prop :=
  ∃ k : Nat, k ≤ 4 ∧ st.env 1 = .int .i64 amount ∧ st.env 4 = .pointer (some ⟨b4, 0, none⟩) ∧ st.env 5 = .int .i64 0 ∧ st.env 6 = .pointer (some ⟨p, 0, none⟩) ∧ st.env 20 = .agg (flat s).toArray ∧ st.env 21 = .int .i64 k ∧ Heap.le H st.heap ∧ st.heap b4 = some (.row true 0 [.int .i64 0, .int .i64 0, .int .i64 0, .int .i64 0] 0) ∧
    st.heap q = some (.mapG 0 []) ∧ st.heap p = some (.row true 0 (srC (upTo (msL s) k) (upTo (wsL s) k) [0, 0, 0, 0, 0] 41 q) 0)
set_option maxHeartbeats 4000000 in
theorem find_c (s : S4) (amount : Int) (ha : i64In amount) (H : Heap) : ECalls Try.prog 11 #[setV s, .int .i64 amount] H fun v H' => ∃ x e, v = .tuple #[notesL x, .int .i64 e] ∧ FindR s amount x e ∧ Heap.le H H' := by
  refine ecalls_of_ewp (args := [_, _]) Try.func11 rfl rfl rfl (by simp [Try.ntmps11]) (by kernel_rfl) ?_
  have hfl := flat_len s
  have hft := flat_take s
  unfold i64In at ha
  unfold setV
  simp (disch := first | omega | assumption | decide | (simp <;> omega) | fail) [facts, ]
  refine fresh_intro fun b2 hb2 => ?_
  have hl2 := le_upd (.row true 0 (flat s) 0) hb2
  have r2 := upd_same H b2 (.row true 0 (flat s) 0)
  generalize upd H b2 (.row true 0 (flat s) 0) = H2 at *
  simp (disch := first | omega | assumption | decide | (simp <;> omega) | fail) [facts, ]
  refine fresh_intro fun b4 hb4 => ?_
  have hl4 := le_upd (.row true 0 [.int .i64 0, .int .i64 0, .int .i64 0, .int .i64 0] 0) hb4
  have r4 := upd_same H2 b4 (.row true 0 [.int .i64 0, .int .i64 0, .int .i64 0, .int .i64 0] 0)
  have r2' := hl4 _ _ r2
  have hb4H : H b4 = none := le_of_none hl2 hb4
  generalize upd H2 b4 (.row true 0 [.int .i64 0, .int .i64 0, .int .i64 0, .int .i64 0] 0) = H4 at *
  have hl04 := Heap.le_trans hl2 hl4
  have fin : ∀ (x : List Nat) (e : Int), Value.agg #[.int .i64 0, .int .i64 0, .int .i64 0, .int .i64 0] = notesL [0, 0, 0, 0] := fun _ _ => rfl
  by_cases h1 : amount < 1
  · simp (disch := first | omega | assumption | decide | (simp <;> omega) | fail) [facts, h1, r4]
    refine ⟨_, Heap.le_refl _, [0, 0, 0, 0], 33, ⟨rfl, rfl⟩, .out (.inl h1), le_updN _ hl04 hb4H⟩
  by_cases h2 : 1000000 < amount
  · simp (disch := first | omega | assumption | decide | (simp <;> omega) | fail) [facts, h1, h2, r4]
    refine ⟨_, Heap.le_refl _, [0, 0, 0, 0], 33, ⟨rfl, rfl⟩, .out (.inr h2), le_updN _ hl04 hb4H⟩
  simp (disch := first | omega | assumption | decide | (simp <;> omega) | fail) [facts, h1, h2]
  refine .inr fun q hq => ?_
  simp (disch := first | omega | assumption | decide | (simp <;> omega) | fail) [facts, ]
  refine fresh_intro fun p hp => ?_
  have hsp : splice (splice (rep 14 (.int .i64 0) ++ [Value.map none]) 13 [Value.int .i64 41]) 14 [Value.map (some q)] = [.int .i64 0, .int .i64 0, .int .i64 0, .int .i64 0, .int .i64 0, .int .i64 0, .int .i64 0, .int .i64 0, .int .i64 0, .int .i64 0, .int .i64 0, .int .i64 0, .int .i64 0, .int .i64 41, .map (some q)] := rfl
  simp (disch := first | omega | assumption | decide | (simp <;> omega) | fail) [facts, hsp]
  have hqp : q ≠ p := fun e => by subst e; rw [upd_same] at hp; cases hp
  have hqH : H q = none := le_of_none hl04 hq
  have hpH : H p = none := le_of_none hl04 (le_of_none (le_upd _ hq) hp)
  have h4q : b4 ≠ q := ne_of_fresh hq r4
  have h4p : b4 ≠ p := ne_of_fresh (le_of_none (le_upd _ hq) hp) r4
  have h2q : b2 ≠ q := ne_of_fresh hq r2'
  have h2p : b2 ≠ p := ne_of_fresh (le_of_none (le_upd _ hq) hp) r2'
  have hb2p : upd (upd H4 q (.mapG 0 [])) p (.row true 0 [.int .i64 0, .int .i64 0, .int .i64 0, .int .i64 0, .int .i64 0, .int .i64 0, .int .i64 0, .int .i64 0, .int .i64 0, .int .i64 0, .int .i64 0, .int .i64 0, .int .i64 0, .int .i64 41, .map (some q)] 0) b2 = some (.row true 0 (flat s) 0) := by rw [upd_ne _ _ h2p, upd_ne _ _ h2q]; exact r2'
  have hb4p : upd (upd H4 q (.mapG 0 [])) p (.row true 0 [.int .i64 0, .int .i64 0, .int .i64 0, .int .i64 0, .int .i64 0, .int .i64 0, .int .i64 0, .int .i64 0, .int .i64 0, .int .i64 0, .int .i64 0, .int .i64 0, .int .i64 0, .int .i64 41, .map (some q)] 0) b4 = some (.row true 0 [.int .i64 0, .int .i64 0, .int .i64 0, .int .i64 0] 0) := by rw [upd_ne _ _ h4p, upd_ne _ _ h4q]; exact r4
  have hqq : upd (upd H4 q (.mapG 0 [])) p (.row true 0 [.int .i64 0, .int .i64 0, .int .i64 0, .int .i64 0, .int .i64 0, .int .i64 0, .int .i64 0, .int .i64 0, .int .i64 0, .int .i64 0, .int .i64 0, .int .i64 0, .int .i64 0, .int .i64 41, .map (some q)] 0) q = some (.mapG 0 []) := by rw [upd_ne _ _ hqp, upd_same]
  have hpp : upd (upd H4 q (.mapG 0 [])) p (.row true 0 [.int .i64 0, .int .i64 0, .int .i64 0, .int .i64 0, .int .i64 0, .int .i64 0, .int .i64 0, .int .i64 0, .int .i64 0, .int .i64 0, .int .i64 0, .int .i64 0, .int .i64 0, .int .i64 41, .map (some q)] 0) p = some (.row true 0 (srC (upTo (msL s) 0) (upTo (wsL s) 0) [0, 0, 0, 0, 0] 41 q) 0) := upd_same _ _ _
  have hlp : Heap.le H (upd (upd H4 q (.mapG 0 [])) p (.row true 0 [.int .i64 0, .int .i64 0, .int .i64 0, .int .i64 0, .int .i64 0, .int .i64 0, .int .i64 0, .int .i64 0, .int .i64 0, .int .i64 0, .int .i64 0, .int .i64 0, .int .i64 0, .int .i64 41, .map (some q)] 0)) := le_updN _ (le_updN _ hl04 hqH) hpH
  generalize upd (upd H4 q (.mapG 0 [])) p (.row true 0 [.int .i64 0, .int .i64 0, .int .i64 0, .int .i64 0, .int .i64 0, .int .i64 0, .int .i64 0, .int .i64 0, .int .i64 0, .int .i64 0, .int .i64 0, .int .i64 0, .int .i64 0, .int .i64 41, .map (some q)] 0) = H5 at *
  simp (disch := first | omega | assumption | decide | (simp <;> omega) | fail) [facts, hb2p]
  refine w_loop (fd1Inv H s amount p q b4) (fun st => 4 - (intOf (st.env 21)).toNat) ?_ ?_
  · exact ⟨0, by decide, by simp, by simp, by simp, by simp, by simp [hft], by simp, hlp, hb4p, hqq, hpp⟩
  rintro ⟨env, G⟩ ⟨k, hk, e1, e4, e5, e6, e20, e21, hle, g4, gq, gp⟩
  simp only at e1 e4 e5 e6 e20 e21 hle g4 gq gp
  by_cases hlt : k < 4
  · have hltI : (k : Int) < 4 := by omega
    obtain ⟨c, hc⟩ : ∃ c, (cl s)[k]? = some c := ⟨_, List.getElem?_eq_getElem (by simpa [cl] using hlt)⟩
    have hfa := flat_at s hc
    have hmk : (msL s).getD k 0 = c.m := by simp [msL, List.getD_eq_getElem?_getD, hc]
    have hwk : (wsL s).getD k 0 = c.w := by simp [wsL, List.getD_eq_getElem?_getD, hc]
    have hl3 : (srC (upTo (msL s) k) (upTo (wsL s) k) [0, 0, 0, 0, 0] 41 q).length = 15 := srC_len (upTo_len _ _) (upTo_len _ _) rfl
    simp (disch := first | omega | assumption | decide | (simp <;> omega) | fail) [facts, e20, e21, hltI, hfl, hfa]
    refine fresh_intro fun b8 hb8 => ?_
    simp (disch := first | omega | assumption | decide | (simp <;> omega) | fail) [facts, upd_upd]
    have n4 : b4 ≠ b8 := ne_of_fresh hb8 g4
    have nq : q ≠ b8 := ne_of_fresh hb8 gq
    have np : p ≠ b8 := ne_of_fresh hb8 gp
    have hb8H : H b8 = none := le_of_none hle hb8
    have k4 := upd_other (o := .row true 0 [.int .i64 c.d, .int .i64 c.l, .int .i64 c.g, .int .i64 c.r] 0) hb8 g4
    have kq := upd_other (o := .row true 0 [.int .i64 c.d, .int .i64 c.l, .int .i64 c.g, .int .i64 c.r] 0) hb8 gq
    have kp := upd_other (o := .row true 0 [.int .i64 c.d, .int .i64 c.l, .int .i64 c.g, .int .i64 c.r] 0) hb8 gp
    have k8 := upd_same G b8 (.row true 0 [.int .i64 c.d, .int .i64 c.l, .int .i64 c.g, .int .i64 c.r] 0)
    have kle := Heap.le_trans hle (le_upd (.row true 0 [.int .i64 c.d, .int .i64 c.l, .int .i64 c.g, .int .i64 c.r] 0) hb8)
    generalize upd G b8 (.row true 0 [.int .i64 c.d, .int .i64 c.l, .int .i64 c.g, .int .i64 c.r] 0) = G1 at *
    by_cases d1 : 1 ≤ c.d
    case neg =>
      have hno : ¬ c.ok := fun h => d1 h.1
      have hm0 : c.m = 0 := by unfold Cs.m; rw [if_neg hno]
      have hw0 : c.w = 0 := by unfold Cs.w; rw [if_neg hno]
      simp (disch := first | omega | assumption | decide | (simp <;> omega) | fail) [facts, k8, d1, e21]
      exact ⟨_, Heap.le_refl _, ⟨k + 1, by omega, by simp [e1], by simp [e4], by simp [e5], by simp [e6], by simp [e20], by simp, kle, k4, kq, by rw [← upTo_same _ hlt (by rw [hmk, hm0]), ← upTo_same _ hlt (by rw [hwk, hw0])]; exact kp⟩, by simp [intOf, e21]; omega⟩
    by_cases d2 : c.d ≤ 100000
    case neg =>
      have hno : ¬ c.ok := fun h => d2 h.2
      have hm0 : c.m = 0 := by unfold Cs.m; rw [if_neg hno]
      have hw0 : c.w = 0 := by unfold Cs.w; rw [if_neg hno]
      simp (disch := first | omega | assumption | decide | (simp <;> omega) | fail) [facts, k8, d1, d2, e21]
      exact ⟨_, Heap.le_refl _, ⟨k + 1, by omega, by simp [e1], by simp [e4], by simp [e5], by simp [e6], by simp [e20], by simp, kle, k4, kq, by rw [← upTo_same _ hlt (by rw [hmk, hm0]), ← upTo_same _ hlt (by rw [hwk, hw0])]; exact kp⟩, by simp [intOf, e21]; omega⟩
    have hok : c.ok := ⟨d1, d2⟩
    have hli := leftZ_in c.l c.g c.r
    have hm1 : ((c.m : Nat) : Int) = leftZ c.l c.g c.r := by unfold Cs.m; rw [if_pos hok]; omega
    have hw1 : ((c.w : Nat) : Int) = c.d := by unfold Cs.w; rw [if_pos hok]; omega
    have hset := srC_set2 (ms := upTo (msL s) k) (ws := upTo (wsL s) k) (ds := [0, 0, 0, 0, 0]) (c := 41) (q := q) (k := k) (m := c.m) (w := c.w) (upTo_len _ _) (upTo_len _ _) hlt
    rw [← hmk, ← hwk, upTo_set _ hlt, upTo_set _ hlt, hmk, hwk, hm1, hw1] at hset
    have cle := left_c c.d c.l c.g c.r G1
    unfold cassV at cle
    simp (disch := first | omega | assumption | decide | (simp <;> omega) | fail) [facts, k8, d1, d2]
    obtain ⟨I, hI⟩ : ∃ I : St → Prop, I = (fun st => st.env 1 = .int .i64 amount ∧ st.env 4 = .pointer (some ⟨b4, 0, none⟩) ∧ st.env 5 = .int .i64 0 ∧ st.env 6 = .pointer (some ⟨p, 0, none⟩) ∧ st.env 20 = .agg (flat s).toArray ∧ st.env 21 = .int .i64 k ∧ Heap.le H st.heap ∧ st.heap b4 = some (.row true 0 [.int .i64 0, .int .i64 0, .int .i64 0, .int .i64 0] 0) ∧ st.heap q = some (.mapG 0 []) ∧ st.heap p = some (.row true 0 (srC (upTo (msL s) (k + 1)) (upTo (wsL s) (k + 1)) [0, 0, 0, 0, 0] 41 q) 0)) := ⟨_, rfl⟩
    refine w_cutB I ?_ ?_
    · refine w_plan (by simp [facts]) (opsP [0,1,2,3,4,6,8,9,12,13] (.both (opsP [5,10] (.both (opsP [7,11,14,15] .done) (opsP [11,7,14,15] .done))) (opsP [7,5,10,11,14,15] .done))) (by decide +kernel) ?_
      simp (disch := first | omega | assumption | decide | (simp <;> omega) | fail) [facts, k8, e6]
      refine ⟨cle.mono ?_, cle.mono ?_⟩
      all_goals
        rintro v H' ⟨rfl, hle'⟩
        have j8 := hle' _ _ k8
        have j4 := hle' _ _ k4
        have jq := hle' _ _ kq
        have jp := hle' _ _ kp
        have jle := Heap.le_trans kle hle'
        have jo : ∀ o, upd H' p o b8 = H' b8 := fun o => upd_ne _ _ (Ne.symm np)
        simp (disch := first | omega | assumption | decide | (simp <;> omega) | fail) [facts, e6, j8, jp, hlt, hltI, jo, upd_upd, hset]
        repeat' apply And.intro
        all_goals
          rw [hI]
          refine ⟨by simp [e1], by simp [e4], by simp [e5], by simp [e6], by simp [e20], by simp [e21], ?_, ?_, ?_, ?_⟩
          · exact le_updN _ jle hpH
          · exact (upd_ne _ _ h4p).trans j4
          · exact (upd_ne _ _ hqp).trans jq
          · exact upd_same _ _ _
    · rintro ⟨en1, G3⟩ hst1
      rw [hI] at hst1
      obtain ⟨i1, i4, i5, i6, i20, i21, ile, ih4, ihq, ihp⟩ := hst1
      simp only at i1 i4 i5 i6 i20 i21 ile ih4 ihq ihp
      simp (disch := first | omega | assumption | decide | (simp <;> omega) | fail) [facts, i21]
      exact ⟨_, Heap.le_refl _, ⟨k + 1, by omega, by simp [i1], by simp [i4], by simp [i5], by simp [i6], by simp [i20], by simp, ile, ih4, ihq, ihp⟩, by simp [intOf, e21, i21]; omega⟩
  · have hltI : ¬ (k : Int) < 4 := by omega
    obtain rfl : k = 4 := by omega
    rw [upTo_all rfl, upTo_all rfl] at gp
    simp (disch := first | omega | assumption | decide | (simp <;> omega) | fail) [facts, e20, e21]
    refine w_loop (fd2Inv H s amount p q b4) (fun st => (intOf (st.env 9) + 1).toNat) ?_ ?_
    · exact ⟨4, by decide, by simp [e1], by simp [e4], by simp [e5], by simp [e6], by simp, hle, g4, gq, gp⟩
    clear hle g4 gq gp e1 e4 e5 e6 e20 e21 hltI hk hlt
    rintro ⟨env, G⟩ ⟨j, hj, e1, e4, e5, e6, e9, hle, g4, gq, gp⟩
    simp only at e1 e4 e5 e6 e9 hle g4 gq gp
    rcases Nat.eq_zero_or_pos j with rfl | hj0
    · simp (disch := first | omega | assumption | decide | (simp <;> omega) | fail) [facts, e9]
      have hx : env 1 = .int .i64 (amount.toNat : Int) := by rw [e1]; congr 1; omega
      rw [e6, hx]
      have hR : ∀ x, (upd (upd (fun _ => none) q (.mapG 0 [])) p (.row true 0 (srC (msL s) (wsL s) (dsL s) 41 q) 0) : Heap) x ≠ none → x = p ∨ x = q := by
        intro x hx
        by_cases h1 : x = p
        · exact .inl h1
        · rw [upd_ne _ _ h1] at hx
          by_cases h2 : x = q
          · exact .inr h2
          · rw [upd_ne _ _ h2] at hx; exact absurd rfl hx
      have hfc := from_c (p := p) (q := q) (srD s) 4 0 rfl [0, 0, 0, 0] amount.toNat 41 [] (fun _ => False) (upd (upd (fun _ => none) q (.mapG 0 [])) p (.row true 0 (srC (msL s) (wsL s) (dsL s) 41 q) 0)) G rfl (by omega) (by decide) ?_ ?_ ?_
      · refine hfc.mono ?_
        rintro v H2 ⟨R', c', f', own, hS, hSS⟩
        have own4 := (own.mv b4 _ (by rw [upd_ne _ _ h4p, upd_ne _ _ h4q]) g4).2
        have hle2 : Heap.le H H2 := fun x o hx => (own.mv x o (by
          have e1 : x ≠ p := fun e => by subst e; rw [hpH] at hx; cases hx
          have e2 : x ≠ q := fun e => by subst e; rw [hqH] at hx; cases hx
          rw [upd_ne _ _ e1, upd_ne _ _ e2]) (hle x o hx)).2
        obtain ⟨hl15, _, _, _, s13, s14⟩ := srC_at (c := c') (q := q) (srD s)
        have rowp := own.le _ _ hS.row
        obtain ⟨h13, s13'⟩ := List.getElem?_eq_some_iff.1 s13
        have hSS' : SS (Feas s amount.toNat) c' f' := hSS.congr fun x => by unfold Feas; simp
        by_cases hc : c' ≤ 40
        · have hcI : ¬ (40 : Int) < (c' : Int) := by omega
          simp (disch := first | omega | assumption | decide | (simp <;> omega) | fail) [facts, e1, e4, e5, e6, rowp, hl15, s13, s13', hcI]
          refine (best_c (srD s) own.le hS hSS.four).mono ?_
          rintro v H3 ⟨x, rfl, hmx, hle3⟩
          have r4' := hle3 _ _ own4
          have hx4 : x.length = 4 := by
            rcases hmx.is with e | e
            · rw [e]; rfl
            · exact hSS.four x e
          obtain ⟨x0, x1, x2, x3, rfl⟩ := lit4 hx4
          have hnl : notesL [x0, x1, x2, x3] = .agg #[.int .i64 (x0 : Int), .int .i64 (x1 : Int), .int .i64 (x2 : Int), .int .i64 (x3 : Int)] := rfl
          rw [hnl]
          simp (disch := first | omega | assumption | decide | (simp <;> omega) | fail) [facts, e1, e4, e5, e6, r4']
          refine ⟨_, Heap.le_refl _, [x0, x1, x2, x3], 0, ⟨rfl, rfl⟩, find_of (by omega) (by omega) hSS' (by omega) hmx, le_updN _ (Heap.le_trans hle2 hle3) hb4H⟩
        · have hcI : (40 : Int) < (c' : Int) := by omega
          simp (disch := first | omega | assumption | decide | (simp <;> omega) | fail) [facts, e1, e4, e5, e6, rowp, hl15, s13, s13', hcI, own4]
          refine ⟨_, Heap.le_refl _, [0, 0, 0, 0], 33, ⟨rfl, rfl⟩, find_no (by omega) (by omega) hSS' (by omega), le_updN _ hle2 hb4H⟩
      · intro x o hx
        by_cases e1 : x = p
        · subst e1; rw [upd_same] at hx; cases hx; exact gp
        · rw [upd_ne _ _ e1] at hx
          by_cases e2 : x = q
          · subst e2; rw [upd_same] at hx; cases hx; exact gq
          · rw [upd_ne _ _ e2] at hx; cases hx
      · exact ⟨upd_same _ _ _, ⟨0, [], by rw [upd_ne _ _ hqp, upd_same], rfl⟩, hqp.symm⟩
      · exact ⟨fun x => by simp, fun x hx => hx.elim, Nat.le_refl _, fun h => by omega, fun x hx => by simp at hx⟩
    have hj' : j = 1 ∨ j = 2 ∨ j = 3 ∨ j = 4 := by omega
    obtain ⟨jj, hjj⟩ : ∃ jj, jj + 1 = j := ⟨j - 1, by omega⟩
    rcases hj' with rfl | rfl | rfl | rfl
    all_goals
      have gp' := gp
      simp [srC, msL, wsL, cl, dTo, dsL, nI, List.range, List.range.loop] at gp'
      simp (disch := first | omega | assumption | decide | (simp <;> omega) | fail) [facts, e9, e6]
      refine w_plan (by simp [facts]) (opsP [0,1,2,3,4,5,6,7,8,9,10,11,12,13,14,15,16,17,18,19] .done) (by decide +kernel) ?_
      simp (disch := first | omega | assumption | decide | (simp <;> omega) | fail) [facts, e9, e6, gp']
      refine ⟨_, Heap.le_refl _, ⟨jj, by omega, by simp [e1], by simp [e4], by simp [e5], by simp [e6], by simp; omega, le_updN _ hle hpH, (upd_ne _ _ h4p).trans g4, (upd_ne _ _ hqp).trans gq, (upd_same _ _ _).trans ?_⟩, ?_⟩
      · have hd : jj = 0 ∨ jj = 1 ∨ jj = 2 ∨ jj = 3 := by omega
        rcases hd with rfl | rfl | rfl | rfl <;> first | omega | (simp [srC, msL, wsL, cl, dTo, dsL, nI, List.range, List.range.loop]; done) | (simp [srC, msL, wsL, cl, dTo, dsL, nI, List.range, List.range.loop]; omega)
      · simp [intOf, e9]
end Go.Proofs.Ytiaigpkaajnpoaa.GL
