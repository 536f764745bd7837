/- Layer 17: the search the plain way, walked. -/
import Derived.Test.YtiaigpkaajnpoaaMxH
namespace Go.Proofs.Ytiaigpkaajnpoaa.GL
open Go Go.RowKit
set_option maxRecDepth 10000
set_option pp.deepTerms.threshold 8
set_option pp.maxSteps 3000
set_option linter.unusedSimpArgs false
set_option linter.unusedVariables false

def z4 : List Value := [.int .i64 0, .int .i64 0, .int .i64 0, .int .i64 0]
def rf1Inv (H : Heap) (s : S4) (amount : Int) (b2 b4 b6 : Nat) (st : St) : Prop :=
  ∃ k : Nat, k ≤ 4 ∧ st.env 1 = .int .i64 amount ∧ st.env 2 = .pointer (some ⟨b2, 0, none⟩) ∧ st.env 4 = .pointer (some ⟨b4, 0, none⟩) ∧ st.env 5 = .int .i64 0 ∧ st.env 6 = .pointer (some ⟨b6, 0, none⟩) ∧ st.env 7 = .int .i64 k ∧ Heap.le H st.heap ∧ st.heap b2 = some (.row true 0 (flat s) 0) ∧
    st.heap b4 = some (.row true 0 [.int .i64 0, .int .i64 0, .int .i64 0, .int .i64 0] 0) ∧ st.heap b6 = some (.row true 0 ((upTo (msL s) k).map nI) 0)
def rf2Inv (H : Heap) (s : S4) (amount : Int) (b2 b4 b6 b8 : Nat) (st : St) : Prop :=
  ∃ k : Nat, k ≤ 4 ∧ st.env 1 = .int .i64 amount ∧ st.env 2 = .pointer (some ⟨b2, 0, none⟩) ∧ st.env 4 = .pointer (some ⟨b4, 0, none⟩) ∧ st.env 5 = .int .i64 0 ∧ st.env 6 = .pointer (some ⟨b6, 0, none⟩) ∧ st.env 8 = .pointer (some ⟨b8, 0, none⟩) ∧ st.env 9 = .int .i64 k ∧ Heap.le H st.heap ∧ st.heap b2 = some (.row true 0 (flat s) 0) ∧
    st.heap b4 = some (.row true 0 [.int .i64 0, .int .i64 0, .int .i64 0, .int .i64 0] 0) ∧ st.heap b6 = some (.row true 0 ((msL s).map nI) 0) ∧ st.heap b8 = some (.row true 0 ((upTo (vL s) k).map nI) 0)
def rfB (G : Heap) (amount : Int) (b4 b6 b8 : Nat) (st : St) : Prop :=
  st.env 1 = .int .i64 amount ∧ st.env 4 = .pointer (some ⟨b4, 0, none⟩) ∧ st.env 5 = .int .i64 0 ∧ st.env 6 = .pointer (some ⟨b6, 0, none⟩) ∧ st.env 8 = .pointer (some ⟨b8, 0, none⟩) ∧ st.heap = G
def rf3Inv (s : S4) (G : Heap) (amount : Int) (b4 b6 b8 : Nat) (st : St) : Prop :=
  rfB G amount b4 b6 b8 st ∧ ∃ n : Int, 1 ≤ n ∧ n ≤ 41 ∧ st.env 10 = .int .i64 n ∧ NF1 s amount.toNat n
def rf4Inv (s : S4) (G : Heap) (amount : Int) (b4 b6 b8 : Nat) (n : Int) (st : St) : Prop :=
  rfB G amount b4 b6 b8 st ∧ st.env 10 = .int .i64 n ∧ ∃ A : Int, -1 ≤ A ∧ A ≤ n ∧ A ≤ s.a.m ∧ st.env 11 = .int .i64 A ∧ NF2 s amount.toNat n A
def rf5Inv (s : S4) (G : Heap) (amount : Int) (b4 b6 b8 : Nat) (n A : Int) (st : St) : Prop :=
  rfB G amount b4 b6 b8 st ∧ st.env 10 = .int .i64 n ∧ st.env 11 = .int .i64 A ∧ ∃ B : Int, -1 ≤ B ∧ B ≤ n - A ∧ B ≤ s.b.m ∧ st.env 12 = .int .i64 B ∧ NF3 s amount.toNat n A B
def rf6Inv (s : S4) (G : Heap) (amount : Int) (b4 b6 b8 : Nat) (n A B : Int) (st : St) : Prop :=
  rfB G amount b4 b6 b8 st ∧ st.env 10 = .int .i64 n ∧ st.env 11 = .int .i64 A ∧ st.env 12 = .int .i64 B ∧ ∃ C : Int, -1 ≤ C ∧ C ≤ n - A - B ∧ C ≤ s.c.m ∧ st.env 13 = .int .i64 C ∧ NF s amount.toNat n A B C
theorem setN {l : List Nat} {k w : Nat} : (l.map nI).set k (.int .i64 (w : Int)) = (l.set k w).map nI := by
  rw [List.map_set]; rfl
set_option maxHeartbeats 4000000 in
theorem findR_c (s : S4) (amount : Int) (ha : i64In amount) (H : Heap) : ECalls Try.prog 12 #[setV s, .int .i64 amount] H fun v H' => ∃ x e, v = .tuple #[notesL x, .int .i64 e] ∧ FindR s amount x e ∧ Heap.le H H' := by
  refine ecalls_of_ewp (args := [_, _]) Try.func12 rfl rfl rfl (by simp [Try.ntmps12]) (by kernel_rfl) ?_
  have hfl := flat_len s
  have hft := flat_take s
  unfold i64In at ha
  unfold setV
  simp (disch := first | omega | assumption | decide | (simp <;> omega) | fail) [facts, ]
  refine fresh_intro fun b2 hb2 => ?_
  have hl2 := le_upd (.row true 0 (flat s) 0) hb2
  have r2 := upd_same H b2 (.row true 0 (flat s) 0)
  generalize upd H b2 (.row true 0 (flat s) 0) = H2 at *
  simp (disch := first | omega | assumption | decide | (simp <;> omega) | fail) [facts, ]
  refine fresh_intro fun b4 hb4 => ?_
  have hl4 := le_upd (.row true 0 [.int .i64 0, .int .i64 0, .int .i64 0, .int .i64 0] 0) hb4
  have r4 := upd_same H2 b4 (.row true 0 [.int .i64 0, .int .i64 0, .int .i64 0, .int .i64 0] 0)
  have r2' := hl4 _ _ r2
  have hb4H : H b4 = none := le_of_none hl2 hb4
  generalize upd H2 b4 (.row true 0 [.int .i64 0, .int .i64 0, .int .i64 0, .int .i64 0] 0) = H4 at *
  have hl04 := Heap.le_trans hl2 hl4
  simp (disch := first | omega | assumption | decide | (simp <;> omega) | fail) [facts, ]
  refine fresh_intro fun b6 hb6 => ?_
  have hl6 := le_upd (.row true 0 [.int .i64 0, .int .i64 0, .int .i64 0, .int .i64 0] 0) hb6
  have r6 : upd H4 b6 (.row true 0 [.int .i64 0, .int .i64 0, .int .i64 0, .int .i64 0] 0) b6 = some (.row true 0 ((upTo (msL s) 0).map nI) 0) := upd_same H4 b6 _
  have r2'' := hl6 _ _ r2'
  have r4' := hl6 _ _ r4
  have n46 : b4 ≠ b6 := ne_of_fresh hb6 r4
  have n26 : b2 ≠ b6 := ne_of_fresh hb6 r2'
  have hb6H : H b6 = none := le_of_none hl04 hb6
  generalize upd H4 b6 (.row true 0 [.int .i64 0, .int .i64 0, .int .i64 0, .int .i64 0] 0) = H6 at *
  have hl06 := Heap.le_trans hl04 hl6
  simp (disch := first | omega | assumption | decide | (simp <;> omega) | fail) [facts, ]
  refine w_loop (rf1Inv H s amount b2 b4 b6) (fun st => 4 - (intOf (st.env 7)).toNat) ?_ ?_
  · exact ⟨0, by decide, by simp, by simp, by simp, by simp, by simp, by simp, hl06, r2'', r4', r6⟩
  rintro ⟨env, G⟩ ⟨k, hk, e1, e2, e4, e5, e6, e7, hle, g2, g4, g6⟩
  simp only at e1 e2 e4 e5 e6 e7 hle g2 g4 g6
  by_cases hlt : k < 4
  · have hltI : (k : Int) < 4 := by omega
    obtain ⟨c, hc⟩ : ∃ c, (cl s)[k]? = some c := ⟨_, List.getElem?_eq_getElem (by simpa [cl] using hlt)⟩
    have hmk : (msL s).getD k 0 = c.m := by simp [msL, List.getD_eq_getElem?_getD, hc]
    have hnxt := upTo_set (msL s) hlt
    have hsame := upTo_same (msL s) hlt
    rw [hmk] at hnxt hsame
    have hk4 : k = 0 ∨ k = 1 ∨ k = 2 ∨ k = 3 := by omega
    obtain ⟨jj, hjj⟩ : ∃ jj, jj = k + 1 := ⟨_, rfl⟩
    rw [← hjj] at hnxt hsame
    have hul := upTo_len (msL s) k
    by_cases d1 : 1 ≤ c.d
    case neg =>
      have hno : ¬ c.ok := fun h => d1 h.1
      have hm0 : c.m = 0 := by unfold Cs.m; rw [if_neg hno]
      have hs := hsame hm0
      rcases hk4 with rfl | rfl | rfl | rfl
      all_goals
        simp [cl] at hc
        subst hc
        have g2' := g2
        unfold flat at g2'
        simp (disch := first | omega | assumption | decide | (simp <;> omega) | fail) [facts, e2, e7, g2', d1]
        exact ⟨_, Heap.le_refl _, ⟨jj, by omega, by simp [e1], by simp [e2], by simp [e4], by simp [e5], by simp [e6], by simp; omega, hle, g2, g4, by rw [← hs]; exact g6⟩, by simp [intOf, e7]⟩
    by_cases d2 : c.d ≤ 100000
    case neg =>
      have hno : ¬ c.ok := fun h => d2 h.2
      have hm0 : c.m = 0 := by unfold Cs.m; rw [if_neg hno]
      have hs := hsame hm0
      rcases hk4 with rfl | rfl | rfl | rfl
      all_goals
        simp [cl] at hc
        subst hc
        have g2' := g2
        unfold flat at g2'
        simp (disch := first | omega | assumption | decide | (simp <;> omega) | fail) [facts, e2, e7, g2', d1, d2]
        exact ⟨_, Heap.le_refl _, ⟨jj, by omega, by simp [e1], by simp [e2], by simp [e4], by simp [e5], by simp [e6], by simp; omega, hle, g2, g4, by rw [← hs]; exact g6⟩, by simp [intOf, e7]⟩
    have hok : c.ok := ⟨d1, d2⟩
    have hli := leftZ_in c.l c.g c.r
    have hm1 : ((c.m : Nat) : Int) = leftZ c.l c.g c.r := by unfold Cs.m; rw [if_pos hok]; omega
    have hset : ((upTo (msL s) k).map nI).set k (.int .i64 (leftZ c.l c.g c.r)) = (upTo (msL s) jj).map nI := by rw [← hm1, setN, hnxt]
    rcases hk4 with rfl | rfl | rfl | rfl
    all_goals
      simp [cl] at hc
      subst hc
      have g2' := g2
      unfold flat at g2'
      simp (disch := first | omega | assumption | decide | (simp <;> omega) | fail) [facts, e1, e2, e4, e5, e6, e7, g2', d1, d2]
      refine (leftR_c _ _ _ _ G).mono ?_
      rintro v G3 ⟨rfl, hle3⟩
      have k2 := hle3 _ _ g2
      have k4 := hle3 _ _ g4
      have k6 := hle3 _ _ g6
      have kle := Heap.le_trans hle hle3
      simp (disch := first | omega | assumption | decide | (simp <;> omega) | fail) [facts, e6, e7, k6, hul]
      refine ⟨_, Heap.le_refl _, ⟨jj, by omega, by simp [e1], by simp [e2], by simp [e4], by simp [e5], by simp [e6], by simp; omega, le_updN _ kle hb6H, (upd_ne _ _ n26).trans k2, (upd_ne _ _ n46).trans k4, (upd_same _ _ _).trans ?_⟩, by simp [intOf, e7]⟩
      first
        | rw [hset]
        | (rw [← hset]; simp)
  · have hltI : ¬ (k : Int) < 4 := by omega
    obtain rfl : k = 4 := by omega
    rw [upTo_all rfl] at g6
    have fin : ∀ (x : List Nat) (e : Int), Value.agg #[.int .i64 0, .int .i64 0, .int .i64 0, .int .i64 0] = notesL [0, 0, 0, 0] := fun _ _ => rfl
    by_cases h1 : amount < 1
    · simp (disch := first | omega | assumption | decide | (simp <;> omega) | fail) [facts, e1, e4, e5, e7, h1, g4]
      refine ⟨_, Heap.le_refl _, [0, 0, 0, 0], 33, ⟨rfl, rfl⟩, .out (.inl h1), le_updN _ hle hb4H⟩
    by_cases h2 : 1000000 < amount
    · simp (disch := first | omega | assumption | decide | (simp <;> omega) | fail) [facts, e1, e4, e5, e7, h1, h2, g4]
      refine ⟨_, Heap.le_refl _, [0, 0, 0, 0], 33, ⟨rfl, rfl⟩, .out (.inr h2), le_updN _ hle hb4H⟩
    simp (disch := first | omega | assumption | decide | (simp <;> omega) | fail) [facts, e1, e4, e5, e7, h1, h2]
    refine fresh_intro fun b8 hb8 => ?_
    have hl8 := le_upd (.row true 0 [.int .i64 0, .int .i64 0, .int .i64 0, .int .i64 0] 0) hb8
    have k8 : upd G b8 (.row true 0 [.int .i64 0, .int .i64 0, .int .i64 0, .int .i64 0] 0) b8 = some (.row true 0 ((upTo (vL s) 0).map nI) 0) := upd_same G b8 _
    have k2 := hl8 _ _ g2
    have k4 := hl8 _ _ g4
    have k6 := hl8 _ _ g6
    have n48 : b4 ≠ b8 := ne_of_fresh hb8 g4
    have n28 : b2 ≠ b8 := ne_of_fresh hb8 g2
    have n68 : b6 ≠ b8 := ne_of_fresh hb8 g6
    have hb8H : H b8 = none := le_of_none hle hb8
    have kle := Heap.le_trans hle hl8
    generalize upd G b8 (.row true 0 [.int .i64 0, .int .i64 0, .int .i64 0, .int .i64 0] 0) = G8 at *
    simp (disch := first | omega | assumption | decide | (simp <;> omega) | fail) [facts, ]
    refine w_loop (rf2Inv H s amount b2 b4 b6 b8) (fun st => 4 - (intOf (st.env 9)).toNat) ?_ ?_
    · exact ⟨0, by decide, by simp [e1], by simp [e2], by simp [e4], by simp [e5], by simp [e6], by simp, by simp, kle, k2, k4, k6, k8⟩
    clear hle g2 g4 g6 e1 e2 e4 e5 e6 e7 hltI hk hlt k2 k4 k6 k8 hl8 kle
    rintro ⟨env, G⟩ ⟨k, hk, e1, e2, e4, e5, e6, e8, e9, hle, g2, g4, g6, g8⟩
    simp only at e1 e2 e4 e5 e6 e8 e9 hle g2 g4 g6 g8
    by_cases hlt : k < 4
    · have hltI : (k : Int) < 4 := by omega
      obtain ⟨c, hc⟩ : ∃ c, (cl s)[k]? = some c := ⟨_, List.getElem?_eq_getElem (by simpa [cl] using hlt)⟩
      have hmk : (vL s).getD k 0 = c.v := by simp [vL, List.getD_eq_getElem?_getD, hc]
      have hnxt := upTo_set (vL s) hlt
      have hsame := upTo_same (vL s) hlt
      rw [hmk] at hnxt hsame
      have hk4 : k = 0 ∨ k = 1 ∨ k = 2 ∨ k = 3 := by omega
      obtain ⟨jj, hjj⟩ : ∃ jj, jj = k + 1 := ⟨_, rfl⟩
      rw [← hjj] at hnxt hsame
      have hul := upTo_len (vL s) k
      have g6' := g6
      simp only [msL, cl, List.map_cons, List.map_nil, nI] at g6'
      by_cases d1 : 0 < c.m
      case neg =>
        have hm0 : c.v = 0 := by unfold Cs.v; rw [if_neg d1]
        have hs := hsame hm0
        have d1' : ¬ (0 : Int) < (c.m : Int) := by omega
        rcases hk4 with rfl | rfl | rfl | rfl
        all_goals
          simp [cl] at hc
          subst hc
          simp (disch := first | omega | assumption | decide | (simp <;> omega) | fail) [facts, e6, e9, g6', d1, d1']
          exact ⟨_, Heap.le_refl _, ⟨jj, by omega, by simp [e1], by simp [e2], by simp [e4], by simp [e5], by simp [e6], by simp [e8], by simp; omega, hle, g2, g4, g6, by rw [← hs]; exact g8⟩, by simp [intOf, e9]⟩
      have hok : c.ok := by
        by_cases h : c.ok
        · exact h
        · exfalso; unfold Cs.m at d1; rw [if_neg h] at d1; omega
      have hm1 : ((c.v : Nat) : Int) = c.d := by unfold Cs.v Cs.w; rw [if_pos d1, if_pos hok]; have := hok.1; omega
      have hset : ((upTo (vL s) k).map nI).set k (.int .i64 c.d) = (upTo (vL s) jj).map nI := by rw [← hm1, setN, hnxt]
      have d1' : (0 : Int) < (c.m : Int) := by omega
      rcases hk4 with rfl | rfl | rfl | rfl
      all_goals
        simp [cl] at hc
        subst hc
        have g2' := g2
        unfold flat at g2'
        simp (disch := first | omega | assumption | decide | (simp <;> omega) | fail) [facts, e1, e2, e4, e5, e6, e8, e9, g2', g6', g8, d1, d1', hul]
        refine ⟨_, Heap.le_refl _, ⟨jj, by omega, by simp [e1], by simp [e2], by simp [e4], by simp [e5], by simp [e6], by simp [e8], by simp; omega, le_updN _ hle hb8H, (upd_ne _ _ n28).trans g2, (upd_ne _ _ n48).trans g4, (upd_ne _ _ n68).trans g6, (upd_same _ _ _).trans ?_⟩, by simp [intOf, e9]⟩
        first
          | rw [hset]
          | (rw [← hset]; simp)
    · have hltI : ¬ (k : Int) < 4 := by omega
      obtain rfl : k = 4 := by omega
      rw [upTo_all rfl] at g8
      have hN : 0 < amount.toNat := by omega
      have g6' := g6
      simp only [msL, cl, List.map_cons, List.map_nil, nI] at g6'
      have g8' := g8
      simp only [vL, cl, List.map_cons, List.map_nil, nI] at g8'
      simp (disch := first | omega | assumption | decide | (simp <;> omega) | fail) [facts, e9]
      refine w_loop (rf3Inv s G amount b4 b6 b8) (fun st => (41 - intOf (st.env 10)).toNat) ?_ ?_
      · exact ⟨⟨by simp [e1], by simp [e4], by simp [e5], by simp [e6], by simp [e8], rfl⟩, 1, by omega, by omega, by simp, NF1.begin hN⟩
      clear e1 e2 e4 e5 e6 e8 e9
      rintro ⟨env, G'⟩ ⟨⟨e1, e4, e5, e6, e8, rfl⟩, n, hn1, hn2, e10, nf⟩
      simp only at e1 e4 e5 e6 e8 e10 g2 g4 g6' g8' hle
      by_cases hn : n ≤ 40
      case neg =>
        obtain rfl : n = 41 := by omega
        simp (disch := first | omega | assumption | decide | (simp <;> omega) | fail) [facts, e1, e4, e5, e10, g4, hn]
        refine ⟨_, Heap.le_refl _, [0, 0, 0, 0], 33, ⟨rfl, rfl⟩, .none (by omega) (by omega) nf.none, le_updN _ hle hb4H⟩
      simp (disch := first | omega | assumption | decide | (simp <;> omega) | fail) [facts, e6, e10, hn, g6']
      refine w_loop (rf4Inv s G' amount b4 b6 b8 n) (fun st => (intOf (st.env 11) + 1).toNat) ?_ ?_
      · exact ⟨⟨by simp [e1], by simp [e4], by simp [e5], by simp [e6], by simp [e8], rfl⟩, by simp [e10], min n s.a.m, by omega, by omega, by omega, by simp, nf.start⟩
      have hma := s.a.m_le
      have hmb := s.b.m_le
      have hmc := s.c.m_le
      have hva := s.a.v_le
      have hvb := s.b.v_le
      have hvc := s.c.v_le
      have hve := s.e.v_le
      clear e1 e4 e5 e6 e8 e10
      rintro ⟨env, G''⟩ ⟨⟨e1, e4, e5, e6, e8, rfl⟩, e10, A, hA1, hA2, hA3, e11, nf2⟩
      simp only at e1 e4 e5 e6 e8 e10 e11 g2 g4 g6' g8' hle
      by_cases hA : 0 ≤ A
      case neg =>
        simp (disch := first | omega | assumption | decide | (simp <;> omega) | fail) [facts, e1, e4, e5, e6, e8, e10, e11, hA]
        exact ⟨_, Heap.le_refl _, ⟨⟨by simp [e1], by simp [e4], by simp [e5], by simp [e6], by simp [e8], rfl⟩, n + 1, by omega, by omega, by simp, nf2.exit (by omega)⟩, by simp [intOf]; omega⟩
      simp (disch := first | omega | assumption | decide | (simp <;> omega) | fail) [facts, e1, e4, e5, e6, e8, e10, e11, hA, g6']
      refine w_loop (rf5Inv s G'' amount b4 b6 b8 n A) (fun st => (intOf (st.env 12) + 1).toNat) ?_ ?_
      · exact ⟨⟨by simp [e1], by simp [e4], by simp [e5], by simp [e6], by simp [e8], rfl⟩, by simp [e10], by simp [e11], min (n - A) s.b.m, by omega, by omega, by omega, by simp, nf2.start⟩
      clear e1 e4 e5 e6 e8 e10 e11
      rintro ⟨env, G3⟩ ⟨⟨e1, e4, e5, e6, e8, rfl⟩, e10, e11, B, hB1, hB2, hB3, e12, nf3⟩
      simp only at e1 e4 e5 e6 e8 e10 e11 e12 g2 g4 g6' g8' hle
      by_cases hB : 0 ≤ B
      case neg =>
        simp (disch := first | omega | assumption | decide | (simp <;> omega) | fail) [facts, e1, e4, e5, e6, e8, e10, e11, e12, hB]
        exact ⟨_, Heap.le_refl _, ⟨⟨by simp [e1], by simp [e4], by simp [e5], by simp [e6], by simp [e8], rfl⟩, by simp [e10], A - 1, by omega, by omega, by omega, by simp, nf3.exit (by omega)⟩, by simp [intOf]; omega⟩
      simp (disch := first | omega | assumption | decide | (simp <;> omega) | fail) [facts, e1, e4, e5, e6, e8, e10, e11, e12, hB, g6']
      refine w_loop (rf6Inv s G3 amount b4 b6 b8 n A B) (fun st => (intOf (st.env 13) + 1).toNat) ?_ ?_
      · exact ⟨⟨by simp [e1], by simp [e4], by simp [e5], by simp [e6], by simp [e8], rfl⟩, by simp [e10], by simp [e11], by simp [e12], min (n - A - B) s.c.m, by omega, by omega, by omega, by simp, nf3.start⟩
      clear e1 e4 e5 e6 e8 e10 e11 e12
      rintro ⟨env, G4⟩ ⟨⟨e1, e4, e5, e6, e8, rfl⟩, e10, e11, e12, C, hC1, hC2, hC3, e13, nf4⟩
      simp only at e1 e4 e5 e6 e8 e10 e11 e12 e13 g2 g4 g6' g8' hle
      by_cases hC : 0 ≤ C
      case neg =>
        simp (disch := first | omega | assumption | decide | (simp <;> omega) | fail) [facts, e1, e4, e5, e6, e8, e10, e11, e12, e13, hC]
        exact ⟨_, Heap.le_refl _, ⟨⟨by simp [e1], by simp [e4], by simp [e5], by simp [e6], by simp [e8], rfl⟩, by simp [e10], by simp [e11], B - 1, by omega, by omega, by omega, by simp, nf4.exit (by omega)⟩, by simp [intOf]; omega⟩
      by_cases hE : n - A - B - C ≤ s.e.m
      case neg =>
        have hno : ¬ F4 s amount.toNat A.toNat B.toNat C.toNat (n - A - B - C).toNat := fun f => by have := f.le; omega
        simp (disch := first | omega | assumption | decide | (simp <;> omega) | fail) [facts, e1, e4, e5, e6, e8, e10, e11, e12, e13, hC, g6', hE]
        exact ⟨_, Heap.le_refl _, ⟨⟨by simp [e1], by simp [e4], by simp [e5], by simp [e6], by simp [e8], rfl⟩, by simp [e10], by simp [e11], by simp [e12], C - 1, by omega, by omega, by omega, by simp, nf4.c hA hB hC hno⟩, by simp [intOf]; omega⟩
      obtain ⟨a, rfl⟩ := Int.eq_ofNat_of_zero_le hA
      obtain ⟨b, rfl⟩ := Int.eq_ofNat_of_zero_le hB
      obtain ⟨c, rfl⟩ := Int.eq_ofNat_of_zero_le hC
      obtain ⟨e, he⟩ := Int.eq_ofNat_of_zero_le (a := n - a - b - c) (by omega)
      obtain ⟨Pa, hPa⟩ : ∃ P, P = a * s.a.v := ⟨_, rfl⟩
      obtain ⟨Pb, hPb⟩ : ∃ P, P = b * s.b.v := ⟨_, rfl⟩
      obtain ⟨Pc, hPc⟩ : ∃ P, P = c * s.c.v := ⟨_, rfl⟩
      obtain ⟨Pe, hPe⟩ : ∃ P, P = e * s.e.v := ⟨_, rfl⟩
      have lPa : Pa ≤ 40 * 100000 := by rw [hPa]; exact Nat.mul_le_mul (by omega) hva
      have lPb : Pb ≤ 40 * 100000 := by rw [hPb]; exact Nat.mul_le_mul (by omega) hvb
      have lPc : Pc ≤ 40 * 100000 := by rw [hPc]; exact Nat.mul_le_mul (by omega) hvc
      have lPe : Pe ≤ 40 * 100000 := by rw [hPe]; exact Nat.mul_le_mul (by omega) hve
      have iPa : (a : Int) * (s.a.v : Int) = (Pa : Int) := by rw [hPa]; simp
      have iPb : (b : Int) * (s.b.v : Int) = (Pb : Int) := by rw [hPb]; simp
      have iPc : (c : Int) * (s.c.v : Int) = (Pc : Int) := by rw [hPc]; simp
      have iPe : (e : Int) * (s.e.v : Int) = (Pe : Int) := by rw [hPe]; simp
      have hEe : (e : Int) ≤ (s.e.m : Int) := by omega
      by_cases hs : (Pa : Int) + Pb + Pc + Pe = amount
      case neg =>
        have hno : ¬ F4 s amount.toNat (a : Int).toNat (b : Int).toNat (c : Int).toNat (n - (a : Int) - (b : Int) - (c : Int)).toNat := fun f => by
          have h1 := f.eq
          rw [he, Int.toNat_natCast, Int.toNat_natCast, Int.toNat_natCast, Int.toNat_natCast, ← hPa, ← hPb, ← hPc, ← hPe] at h1
          omega
        simp (disch := first | omega | assumption | decide | (simp <;> omega) | fail) [facts, e1, e4, e5, e6, e8, e10, e11, e12, e13, hC, g6', g8', he, hEe, iPa, iPb, iPc, iPe, hs]
        exact ⟨_, Heap.le_refl _, ⟨⟨by simp [e1], by simp [e4], by simp [e5], by simp [e6], by simp [e8], rfl⟩, by simp [e10], by simp [e11], by simp [e12], c - 1, by omega, by omega, by omega, by simp, nf4.c hA hB hC hno⟩, by simp [intOf]⟩
      simp (disch := first | omega | assumption | decide | (simp <;> omega) | fail) [facts, e1, e4, e5, e6, e8, e10, e11, e12, e13, hC, g4, g6', g8', he, hEe, iPa, iPb, iPc, iPe, hs]
      refine ⟨_, Heap.le_refl _, [a, b, c, e], 0, ⟨rfl, rfl⟩, .some _ (by omega) (by omega) (best4 ⟨by omega, by omega, by omega, by omega, by omega, by omega⟩ ?_), le_updN _ hle hb4H⟩
      rw [show (a : Int) + b + c + e = n by omega]
      exact nf4
end Go.Proofs.Ytiaigpkaajnpoaa.GL
