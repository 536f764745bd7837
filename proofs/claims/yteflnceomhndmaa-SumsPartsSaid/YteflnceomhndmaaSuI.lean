/- Layer 2: the walk of SumsParts. -/
import Derived.Test.YteflnceomhndmaaSuF
namespace Go.Proofs.Yteflnceomhndmaa.GL
open Go Go.RowKit
set_option maxRecDepth 10000
set_option pp.deepTerms.threshold 8
set_option pp.maxSteps 3000
set_option linter.unusedSimpArgs false
set_option linter.unusedVariables false

def modL (m : Int) (l : List Int) (k : Nat) : List Int := (l.take k).map (fun z => z.tmod m) ++ l.drop k
theorem modL_len (m : Int) (l : List Int) (k : Nat) : (modL m l k).length = l.length := by simp [modL]; omega
theorem modL_at (m : Int) (l : List Int) (k : Nat) (h : k ≤ l.length) : (modL m l k)[k]? = l[k]? := by
  unfold modL
  rw [List.getElem?_append_right (by simp; omega), List.length_map, List.length_take, Nat.min_eq_left h, Nat.sub_self, List.getElem?_drop, Nat.add_zero]
theorem modL_set (m : Int) (l : List Int) (k : Nat) (x : Int) (hx : l[k]? = some x) : ((modL m l k).map i64V).set k (.int .i64 (x.tmod m)) = (modL m l (k + 1)).map i64V := by
  have hk : k < l.length := (List.getElem?_eq_some_iff.1 hx).1
  have e : (modL m l k).set k (x.tmod m) = modL m l (k + 1) := by
    unfold modL
    rw [List.set_append_right _ _ (by simp; omega), List.length_map, List.length_take, Nat.min_eq_left (by omega), Nat.sub_self, take_snoc hx, List.map_append, List.append_assoc]
    congr 1
    rw [List.drop_eq_getElem_cons hk]
    rfl
  rw [← e, List.map_set]; rfl
theorem modL_zero (m : Int) (l : List Int) : modL m l 0 = l := by simp [modL]
theorem modL_all (m : Int) (l : List Int) (n : Nat) (h : l.length = n) : modL m l n = l.map fun z => z.tmod m := by
  unfold modL; rw [List.take_of_length_le (by omega), List.drop_of_length_le (by omega), List.append_nil]
theorem tmod_small (x m : Int) (h : 0 < m) : -(m - 1) ≤ x.tmod m ∧ x.tmod m ≤ m - 1 := by
  have h1 := Int.tmod_lt_of_pos x h
  have h3 : (-x).tmod m = -(x.tmod m) := Int.neg_tmod x m
  have h4 := Int.tmod_lt_of_pos (-x) h
  constructor <;> omega
theorem list4 (l : List Int) (h : l.length = 4) : ∃ a b c d, l = [a, b, c, d] := by
  match l, h with
  | [a, b, c, d], _ => exact ⟨a, b, c, d, rfl⟩
theorem mul_small (a d : Int) (A D : Nat) (ha : -(A : Int) ≤ a ∧ a ≤ A) (hd : -(D : Int) ≤ d ∧ d ≤ D) : -((A * D : Nat) : Int) ≤ a * d ∧ a * d ≤ ((A * D : Nat) : Int) := by
  have h : (a * d).natAbs ≤ A * D := by rw [Int.natAbs_mul]; exact Nat.mul_le_mul (by omega) (by omega)
  omega

structure PartsFacts (A B D : List Int) : Prop where
  p : plusV A B = .tuple #[aggV (plusL A B), .bool true]
  sums : ∃ sA sB cA cB : Int, (-8000000000 ≤ sA ∧ sA ≤ 8000000000) ∧ (-8000000000 ≤ sB ∧ sB ≤ 8000000000) ∧ (-8000000000 ≤ cA ∧ cA ≤ 8000000000) ∧ (-8000000000 ≤ cB ∧ cB ≤ 8000000000) ∧
    worthV A D = .tuple #[.int .i64 sA, .bool true] ∧ worthV B D = .tuple #[.int .i64 sB, .bool true] ∧ worthV (plusL A B) D = .tuple #[.int .i64 (sA + sB), .bool true] ∧
    totV A.sum = .tuple #[.int .i64 cA, .bool true] ∧ totV B.sum = .tuple #[.int .i64 cB, .bool true] ∧ totV (plusL A B).sum = .tuple #[.int .i64 (cA + cB), .bool true]

theorem parts_facts (A B D : List Int) (lA : A.length = 4) (lB : B.length = 4) (lD : D.length = 4) (hA : ∀ z ∈ A, -10000 ≤ z ∧ z ≤ 10000) (hB : ∀ z ∈ B, -10000 ≤ z ∧ z ≤ 10000) (hD : ∀ z ∈ D, -100000 ≤ z ∧ z ≤ 100000) : PartsFacts A B D := by
  obtain ⟨a0, a1, a2, a3, rfl⟩ := list4 A lA
  obtain ⟨b0, b1, b2, b3, rfl⟩ := list4 B lB
  obtain ⟨d0, d1, d2, d3, rfl⟩ := list4 D lD
  have ha0 := hA a0 (by simp)
  have ha1 := hA a1 (by simp)
  have ha2 := hA a2 (by simp)
  have ha3 := hA a3 (by simp)
  have hb0 := hB b0 (by simp)
  have hb1 := hB b1 (by simp)
  have hb2 := hB b2 (by simp)
  have hb3 := hB b3 (by simp)
  have hd0 := hD d0 (by simp)
  have hd1 := hD d1 (by simp)
  have hd2 := hD d2 (by simp)
  have hd3 := hD d3 (by simp)
  have pa0 := mul_small a0 d0 10000 100000 ha0 hd0
  have pa1 := mul_small a1 d1 10000 100000 ha1 hd1
  have pa2 := mul_small a2 d2 10000 100000 ha2 hd2
  have pa3 := mul_small a3 d3 10000 100000 ha3 hd3
  have pb0 := mul_small b0 d0 10000 100000 hb0 hd0
  have pb1 := mul_small b1 d1 10000 100000 hb1 hd1
  have pb2 := mul_small b2 d2 10000 100000 hb2 hd2
  have pb3 := mul_small b3 d3 10000 100000 hb3 hd3
  simp only [Int.natCast_mul, Int.cast_ofNat_Int] at pa0 pa1 pa2 pa3 pb0 pb1 pb2 pb3
  clear hA hB hD
  refine ⟨?_, a0 * d0 + a1 * d1 + a2 * d2 + a3 * d3, b0 * d0 + b1 * d1 + b2 * d2 + b3 * d3, a0 + a1 + a2 + a3, b0 + b1 + b2 + b3, by omega, by omega, by omega, by omega, ?_, ?_, ?_, ?_, ?_, ?_⟩
  · unfold plusV
    rw [if_pos]
    intro z hz
    simp only [plusL, List.zipWith_cons_cons, List.zipWith_nil_left, List.mem_cons, List.not_mem_nil, or_false] at hz
    unfold i64In; omega
  · unfold worthV
    have hs : (prods [a0, a1, a2, a3] [d0, d1, d2, d3]).sum = a0 * d0 + a1 * d1 + a2 * d2 + a3 * d3 := by simp [prods]; omega
    rw [if_pos, hs, totV_yes (by unfold i64In; omega)]
    intro z hz
    simp only [prods, List.zipWith_cons_cons, List.zipWith_nil_left, List.mem_cons, List.not_mem_nil, or_false] at hz
    unfold i64In; omega
  · unfold worthV
    have hs : (prods [b0, b1, b2, b3] [d0, d1, d2, d3]).sum = b0 * d0 + b1 * d1 + b2 * d2 + b3 * d3 := by simp [prods]; omega
    rw [if_pos, hs, totV_yes (by unfold i64In; omega)]
    intro z hz
    simp only [prods, List.zipWith_cons_cons, List.zipWith_nil_left, List.mem_cons, List.not_mem_nil, or_false] at hz
    unfold i64In; omega
  · unfold worthV
    have hs : (prods (plusL [a0, a1, a2, a3] [b0, b1, b2, b3]) [d0, d1, d2, d3]).sum = a0 * d0 + a1 * d1 + a2 * d2 + a3 * d3 + (b0 * d0 + b1 * d1 + b2 * d2 + b3 * d3) := by simp [prods, plusL, Int.add_mul]; omega
    rw [if_pos, hs, totV_yes (by unfold i64In; omega)]
    intro z hz
    simp only [prods, plusL, List.zipWith_cons_cons, List.zipWith_nil_left, List.mem_cons, List.not_mem_nil, or_false, Int.add_mul] at hz
    unfold i64In; omega
  · have hs : [a0, a1, a2, a3].sum = a0 + a1 + a2 + a3 := by simp; omega
    rw [hs, totV_yes (by unfold i64In; omega)]
  · have hs : [b0, b1, b2, b3].sum = b0 + b1 + b2 + b3 := by simp; omega
    rw [hs, totV_yes (by unfold i64In; omega)]
  · have hs : (plusL [a0, a1, a2, a3] [b0, b1, b2, b3]).sum = a0 + a1 + a2 + a3 + (b0 + b1 + b2 + b3) := by simp [plusL]; omega
    rw [hs, totV_yes (by unfold i64In; omega)]

set_option maxHeartbeats 4000000 in
theorem sumsParts_c (xs bs ds : List Int) (H : Heap) (la : xs.length = 4) (lb : bs.length = 4) (ld : ds.length = 4) (ha : allIn xs) (hb : allIn bs) (hd : allIn ds) :
    ECalls Try.prog 5 #[aggV xs, aggV bs, aggV ds] H fun r _ => r = .bool true := by
  refine ecalls_of_ewp (args := [_, _, _]) Try.func5 rfl rfl rfl (by simp [Try.ntmps5]) (by kernel_rfl) ?_
  unfold aggV
  simp (disch := first | omega | assumption | decide | (simp <;> omega) | fail) [facts, ]
  refine fresh_intro fun b3 hb3 => ?_
  simp (disch := first | omega | assumption | decide | (simp <;> omega) | fail) [facts, ]
  refine fresh_intro fun b4 hb4 => ?_
  simp (disch := first | omega | assumption | decide | (simp <;> omega) | fail) [facts, ]
  refine fresh_intro fun b5 hb5 => ?_
  have q34 : b3 ≠ b4 := ne_of_fresh hb4 (upd_same _ _ _)
  have q45 : b4 ≠ b5 := ne_of_fresh hb5 (upd_same _ _ _)
  have q35 : b3 ≠ b5 := ne_of_fresh hb5 (by rw [upd_ne _ _ q34]; exact upd_same _ _ _)
  have q43 := q34.symm
  have q54 := q45.symm
  have q53 := q35.symm
  have l3 : upd (upd (upd H b3 (.row true 0 (xs.map i64V) 0)) b4 (.row true 0 (bs.map i64V) 0)) b5 (.row true 0 (ds.map i64V) 0) b3 = some (.row true 0 (xs.map i64V) 0) := by rw [upd_ne _ _ q35, upd_ne _ _ q34, upd_same]
  have l4 : upd (upd (upd H b3 (.row true 0 (xs.map i64V) 0)) b4 (.row true 0 (bs.map i64V) 0)) b5 (.row true 0 (ds.map i64V) 0) b4 = some (.row true 0 (bs.map i64V) 0) := by rw [upd_ne _ _ q45, upd_same]
  have l5 : upd (upd (upd H b3 (.row true 0 (xs.map i64V) 0)) b4 (.row true 0 (bs.map i64V) 0)) b5 (.row true 0 (ds.map i64V) 0) b5 = some (.row true 0 (ds.map i64V) 0) := upd_same _ _ _
  generalize upd (upd (upd H b3 (.row true 0 (xs.map i64V) 0)) b4 (.row true 0 (bs.map i64V) 0)) b5 (.row true 0 (ds.map i64V) 0) = H0 at *
  simp (disch := first | omega | assumption | decide | (simp <;> omega) | fail) [facts, ]
  refine (known_c H0).mono ?_
  rintro r H1 ⟨rfl, hle1⟩
  replace l3 := hle1 _ _ l3
  replace l4 := hle1 _ _ l4
  replace l5 := hle1 _ _ l5
  simp (disch := first | omega | assumption | decide | (simp <;> omega) | fail) [facts, ]
  refine w_cutB (fun s => s.env 3 = .pointer (some ⟨b3, 0, none⟩) ∧ s.env 4 = .pointer (some ⟨b4, 0, none⟩) ∧ s.env 5 = .pointer (some ⟨b5, 0, none⟩) ∧ s.heap b3 = some (.row true 0 ((xs.map fun z => z.tmod 10001).map i64V) 0) ∧ s.heap b4 = some (.row true 0 ((bs.map fun z => z.tmod 10001).map i64V) 0) ∧ s.heap b5 = some (.row true 0 ((ds.map fun z => z.tmod 100001).map i64V) 0)) ?_ ?_
  · refine w_loop (fun s => ∃ k : Nat, k ≤ 4 ∧ s.env 3 = .pointer (some ⟨b3, 0, none⟩) ∧ s.env 4 = .pointer (some ⟨b4, 0, none⟩) ∧ s.env 5 = .pointer (some ⟨b5, 0, none⟩) ∧ s.env 7 = .int .i64 k ∧ s.heap b3 = some (.row true 0 ((modL 10001 xs k).map i64V) 0) ∧ s.heap b4 = some (.row true 0 ((modL 10001 bs k).map i64V) 0) ∧ s.heap b5 = some (.row true 0 ((modL 100001 ds k).map i64V) 0)) (fun s => 4 - (intOf (s.env 7)).toNat) ?_ ?_
    · exact ⟨0, by decide, by simp, by simp, by simp, by simp, by simpa [modL_zero] using l3, by simpa [modL_zero] using l4, by simpa [modL_zero] using l5⟩
    · rintro ⟨e, H2⟩ ⟨k, hk, e3, e4, e5, e7, l3, l4, l5⟩
      simp only at e3 e4 e5 e7 l3 l4 l5
      by_cases hlt : (k : Int) < 4
      · obtain ⟨x, hx⟩ : ∃ x, xs[k]? = some x := ⟨_, List.getElem?_eq_getElem (by omega)⟩
        obtain ⟨y, hy⟩ : ∃ x, bs[k]? = some x := ⟨_, List.getElem?_eq_getElem (by omega)⟩
        obtain ⟨z, hz⟩ : ∃ x, ds[k]? = some x := ⟨_, List.getElem?_eq_getElem (by omega)⟩
        have sx := modL_set 10001 xs k x hx
        have sy := modL_set 10001 bs k y hy
        have sz := modL_set 100001 ds k z hz
        have gx : ((modL 10001 xs k).map i64V)[k]? = some (.int .i64 x) := by rw [List.getElem?_map, modL_at _ _ _ (by omega), hx]; rfl
        have gy : ((modL 10001 bs k).map i64V)[k]? = some (.int .i64 y) := by rw [List.getElem?_map, modL_at _ _ _ (by omega), hy]; rfl
        have gz : ((modL 100001 ds k).map i64V)[k]? = some (.int .i64 z) := by rw [List.getElem?_map, modL_at _ _ _ (by omega), hz]; rfl
        have rx : ((modL 10001 xs k).map i64V).length = 4 := by rw [List.length_map, modL_len, la]
        have ry : ((modL 10001 bs k).map i64V).length = 4 := by rw [List.length_map, modL_len, lb]
        have rz : ((modL 100001 ds k).map i64V).length = 4 := by rw [List.length_map, modL_len, ld]
        generalize (modL 10001 xs k).map i64V = r3 at *
        generalize (modL 10001 bs k).map i64V = r4 at *
        generalize (modL 100001 ds k).map i64V = r5 at *
        obtain ⟨hk3, gx'⟩ := List.getElem?_eq_some_iff.1 gx
        obtain ⟨hk4, gy'⟩ := List.getElem?_eq_some_iff.1 gy
        obtain ⟨hk5, gz'⟩ := List.getElem?_eq_some_iff.1 gz
        simp (disch := first | omega | assumption | decide | (simp <;> omega) | fail) [facts, e3, e4, e5, e7, hlt]
        refine w_plan (P := Try.prog) (by simp [facts]) (opsP [0,1,2,3,4,5,6,7,8,11,12,15] (.both (opsP [9,10] (.both (opsP [13,14,16,17,18,19,20] .done) (opsP [16,17] (.both (opsP [13,14,18,19,20] .done) (opsP [18,13,14,19,20] .done))))) (.both (opsP [13,14] (.both (opsP [9,10,16,17,18,19,20] .done) (opsP [16,9,10,17,18,19,20] .done))) (opsP [16] (.both (opsP [9,10,17] (.both (opsP [13,14,18,19,20] .done) (opsP [18,13,14,19,20] .done))) (opsP [13,14,9,10,17,18,19,20] .done)))))) ?_ ?_
        · decide +kernel
        simp (disch := first | omega | assumption | decide | (simp <;> omega) | fail) [facts, e3, e4, e5, e7, l3, l4, l5, gx, gy, gz, gx', gy', gz', rx, ry, rz, upd_ne]
        repeat' apply And.intro
        all_goals
          exact ⟨_, Heap.le_refl _, ⟨k + 1, by omega, by simp [e3], by simp [e4], by simp [e5], by simp, by simp [upd_ne, q34, q35, q43, q45, q53, q54, sx], by simp [upd_ne, q34, q35, q43, q45, q53, q54, sy], by simp [upd_ne, q34, q35, q43, q45, q53, q54, sz]⟩, by simp [intOf, e7]; omega⟩
      · have hk4 : k = 4 := by omega
        subst hk4
        rw [modL_all _ _ 4 la] at l3
        rw [modL_all _ _ 4 lb] at l4
        rw [modL_all _ _ 4 ld] at l5
        simp (disch := first | omega | assumption | decide | (simp <;> omega) | fail) [facts, e3, e4, e5, e7, hlt, l3, l4, l5]
  · rintro ⟨e, H2⟩ ⟨e3, e4, e5, l3, l4, l5⟩
    simp only at e3 e4 e5 l3 l4 l5
    have nA : ∀ z ∈ xs.map (fun z => z.tmod 10001), -10000 ≤ z ∧ z ≤ 10000 := by
      intro z hz
      obtain ⟨x, _, rfl⟩ := List.mem_map.1 hz
      have := tmod_small x 10001 (by decide)
      omega
    have nB : ∀ z ∈ bs.map (fun z => z.tmod 10001), -10000 ≤ z ∧ z ≤ 10000 := by
      intro z hz
      obtain ⟨x, _, rfl⟩ := List.mem_map.1 hz
      have := tmod_small x 10001 (by decide)
      omega
    have nD : ∀ z ∈ ds.map (fun z => z.tmod 100001), -100000 ≤ z ∧ z ≤ 100000 := by
      intro z hz
      obtain ⟨x, _, rfl⟩ := List.mem_map.1 hz
      have := tmod_small x 100001 (by decide)
      omega
    have mA : (xs.map (fun z => z.tmod 10001)).length = 4 := by simp [la]
    have mB : (bs.map (fun z => z.tmod 10001)).length = 4 := by simp [lb]
    have mD : (ds.map (fun z => z.tmod 100001)).length = 4 := by simp [ld]
    generalize xs.map (fun z => z.tmod 10001) = A at *
    generalize bs.map (fun z => z.tmod 10001) = B at *
    generalize ds.map (fun z => z.tmod 100001) = D at *
    have iA : allIn A := fun z hz => by have := nA z hz; unfold i64In; omega
    have iB : allIn B := fun z hz => by have := nB z hz; unfold i64In; omega
    have iD : allIn D := fun z hz => by have := nD z hz; unfold i64In; omega
    obtain ⟨fP, sA, sB, cA, cB, hsA, hsB, hcA, hcB, fA, fB, fC, gA, gB, gC⟩ := parts_facts A B D mA mB mD nA nB nD
    have mP : (plusL A B).length = 4 := by simp [plusL, mA, mB]
    have iP : allIn (plusL A B) := by
      intro z hz
      have : (plusL A B) = List.zipWith (· + ·) A B := rfl
      obtain ⟨i, hi⟩ := List.getElem?_of_mem hz
      rw [this, List.getElem?_zipWith] at hi
      split at hi
      · rename_i x y hx hy
        cases hi
        have h1 := nA x (List.mem_of_getElem? hx)
        have h2 := nB y (List.mem_of_getElem? hy)
        unfold i64In; omega
      · cases hi
    generalize plusL A B = P at *
    have tA : List.take 4 (A.map i64V) = A.map i64V := List.take_of_length_le (by simp [mA])
    have tB : List.take 4 (B.map i64V) = B.map i64V := List.take_of_length_le (by simp [mB])
    have tD : List.take 4 (D.map i64V) = D.map i64V := List.take_of_length_le (by simp [mD])
    have tP : List.take 4 (P.map i64V) = P.map i64V := List.take_of_length_le (by simp [mP])
    have aP : (P.map i64V).all (·.oneCell') = true := all_i64 _
    have rA : (A.map i64V).length = 4 := by simp [mA]
    have rB : (B.map i64V).length = 4 := by simp [mB]
    have rD : (D.map i64V).length = 4 := by simp [mD]
    have rP : (P.map i64V).length = 4 := by simp [mP]
    unfold aggV at fP
    have cplus := fun H => plus_c A B H mA mB iA iB
    have cwA := fun H => worth_c A D H mA mD iA iD
    have cwB := fun H => worth_c B D H mB mD iB iD
    have cwP := fun H => worth_c P D H mP mD iP iD
    have ccA := fun H => count_c A H mA iA
    have ccB := fun H => count_c B H mB iB
    have ccP := fun H => count_c P H mP iP
    unfold aggV at cplus cwA cwB cwP ccA ccB ccP
    generalize A.map i64V = VA at *
    generalize B.map i64V = VB at *
    generalize D.map i64V = VD at *
    generalize P.map i64V = VP at *
    simp (disch := first | omega | assumption | decide | (simp <;> omega) | fail) [facts, e3, e4, e5, l3, l4, l5, tA, tB, tD, rA, rB, rD]
    refine (cplus _).mono ?_
    rintro r H3 ⟨rfl, hle3⟩
    rw [fP]
    simp (disch := first | omega | assumption | decide | (simp <;> omega) | fail) [facts, e3, e4, e5]
    refine fresh_intro fun b8 hb8 => ?_
    simp (disch := first | omega | assumption | decide | (simp <;> omega) | fail) [facts, e3, e4, e5, rP, aP, upd_upd]
    have k3 := upd_other (o := .row true 0 VP 0) hb8 (hle3 _ _ l3)
    have k4 := upd_other (o := .row true 0 VP 0) hb8 (hle3 _ _ l4)
    have k5 := upd_other (o := .row true 0 VP 0) hb8 (hle3 _ _ l5)
    have k8 := upd_same H3 b8 (.row true 0 VP 0)
    generalize upd H3 b8 (.row true 0 VP 0) = H4 at *
    simp (disch := first | omega | assumption | decide | (simp <;> omega) | fail) [facts, e3, e4, e5, k3, k5, tA, tD, rA, rD]
    refine (cwA _).mono ?_
    rintro r H5 ⟨rfl, hle5⟩
    replace k3 := hle5 _ _ k3
    replace k4 := hle5 _ _ k4
    replace k5 := hle5 _ _ k5
    replace k8 := hle5 _ _ k8
    rw [fA]
    simp (disch := first | omega | assumption | decide | (simp <;> omega) | fail) [facts, e3, e4, e5, k4, k5, tB, tD, rB, rD]
    refine (cwB _).mono ?_
    rintro r H6 ⟨rfl, hle6⟩
    replace k3 := hle6 _ _ k3
    replace k4 := hle6 _ _ k4
    replace k5 := hle6 _ _ k5
    replace k8 := hle6 _ _ k8
    rw [fB]
    simp (disch := first | omega | assumption | decide | (simp <;> omega) | fail) [facts, e3, e4, e5, k8, k5, tP, tD, rP, rD]
    refine (cwP _).mono ?_
    rintro r H7 ⟨rfl, hle7⟩
    replace k3 := hle7 _ _ k3
    replace k4 := hle7 _ _ k4
    replace k8 := hle7 _ _ k8
    rw [fC]
    simp (disch := first | omega | assumption | decide | (simp <;> omega) | fail) [facts, e3, e4, e5, k3, tA, rA]
    refine (ccA _).mono ?_
    rintro r H8 ⟨rfl, hle8⟩
    replace k4 := hle8 _ _ k4
    replace k8 := hle8 _ _ k8
    rw [gA]
    simp (disch := first | omega | assumption | decide | (simp <;> omega) | fail) [facts, e3, e4, e5, k4, tB, rB]
    refine (ccB _).mono ?_
    rintro r H9 ⟨rfl, hle9⟩
    replace k8 := hle9 _ _ k8
    rw [gB]
    simp (disch := first | omega | assumption | decide | (simp <;> omega) | fail) [facts, e3, e4, e5, k8, tP, rP]
    refine (ccP _).mono ?_
    rintro r H10 ⟨rfl, hle10⟩
    rw [gC]
    simp (disch := first | omega | assumption | decide | (simp <;> omega) | fail) [facts, e3, e4, e5]
    exact ⟨_, Heap.le_refl _⟩
end Go.Proofs.Yteflnceomhndmaa.GL
