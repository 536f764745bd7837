/- Layer 4: which records may be. -/
import Derived.Test.YtaphlamkpkldgaaFrD
namespace Go.Proofs.Ytaphlamkpkldgaa.GL
open Go Go.RowKit
set_option maxRecDepth 10000
set_option pp.deepTerms.threshold 8
set_option pp.maxSteps 3000
set_option linter.unusedSimpArgs false
set_option linter.unusedVariables false

def cnInv (H : Heap) (a : Option Addr) (n c : Nat) (xs : List NZ) (st : St) : Prop :=
  ∃ k : Nat, k ≤ n ∧ st.env 7 = .slice a n c ∧ st.env 8 = .int .i64 n ∧ st.env 9 = .int .i64 k ∧ Heap.le H st.heap ∧ (xs.take k).all NZ.ok = true
def cn4Inv (H : Heap) (a : Option Addr) (n c k : Nat) (x : NZ) (st : St) : Prop :=
  ∃ m : Nat, m ≤ 4 ∧ st.env 7 = .slice a n c ∧ st.env 8 = .int .i64 n ∧ st.env 9 = .int .i64 k ∧ st.env 13 = .agg #[.int .i64 x.a, .int .i64 x.b, .int .i64 x.c, .int .i64 x.d] ∧ st.env 14 = .int .i64 m ∧ Heap.le H st.heap ∧ (x.l.take m).all inC = true
theorem counts_c (a : Option Addr) (n c : Nat) (xs : List NZ) (H : Heap) (h : SlA H a n 4 (rowsC NZ.cells xs)) (hn : n ≤ 100000) : ECalls Try.prog 25 #[.slice a n c] H fun r H' => r = .bool (xs.all NZ.ok) ∧ Heap.le H H' := by
  refine ecalls_of_ewp (args := [_]) Try.func25 rfl rfl rfl (by simp [Try.ntmps25]) (by kernel_rfl) ?_
  have hl : xs.length = n := h.els n4 (by decide)
  simp (disch := first | omega | assumption | decide | (simp <;> omega) | fail) [facts, ]
  refine w_loop (cnInv H a n c xs) (fun st => n - (intOf (st.env 9)).toNat) ?_ ?_
  · exact ⟨0, Nat.zero_le _, by simp, by simp, by simp, Heap.le_refl _, by simp⟩
  rintro ⟨env, G⟩ ⟨k, hk, e7, e8, e9, hle, hall⟩
  simp only at e7 e8 e9 hle
  by_cases hlt : k < n
  · have hltI : (k : Int) < (n : Int) := by omega
    obtain ⟨x, hx⟩ : ∃ x, xs[k]? = some x := ⟨_, List.getElem?_eq_getElem (by omega)⟩
    obtain ⟨ab, ao, rfl⟩ := h.lit (by omega)
    have rx : rdNU (G ab) (ao + k * 4) 4 = some [.int .i64 x.a, .int .i64 x.b, .int .i64 x.c, .int .i64 x.d] := (h.le hle).el n4 hx (j := 0) (r := 4) (by decide) (by decide)
    simp (disch := first | omega | assumption | decide | (simp <;> omega) | fail) [facts, e7, e8, e9, hltI, rx]
    refine fresh_intro fun b hb => ?_
    have hle2 := Heap.le_trans hle (le_upd (.row true 0 [.int .i64 x.a, .int .i64 x.b, .int .i64 x.c, .int .i64 x.d] 0) hb)
    simp (disch := first | omega | assumption | decide | (simp <;> omega) | fail) [facts, upd_upd, upd_same]
    refine w_loop (cn4Inv H (some ⟨ab, ao, none⟩) n c k x) (fun st => 4 - (intOf (st.env 14)).toNat) ?_ ?_
    · exact ⟨0, by decide, by simp [e7], by simp [e8], by simp [e9], by simp, by simp, hle2, by simp⟩
    clear e7 e8 e9 hle2
    rintro ⟨env2, G2⟩ ⟨m, hm, e7, e8, e9, e13, e14, hle2, hall2⟩
    simp only at e7 e8 e9 e13 e14 hle2
    by_cases hm4 : m < 4
    · have hm4I : (m : Int) < 4 := by omega
      obtain ⟨z, hz⟩ : ∃ z, x.l[m]? = some z := ⟨_, List.getElem?_eq_getElem (by simpa [NZ.l] using hm4)⟩
      have rz := x.at hz
      obtain ⟨hmm, rz2⟩ := List.getElem?_eq_some_iff.1 rz
      by_cases h1 : z < 0
      · have hno : xs.all NZ.ok = false := all_false hx (all_false hz (by unfold inC; simp; omega))
        simp (disch := first | omega | assumption | decide | (simp <;> omega) | fail) [facts, e7, e8, e9, e13, e14, hm4I, rz, rz2, h1, hno]
        exact ⟨_, Heap.le_refl _, hle2⟩
      · by_cases h2 : 10000 < z
        · have hno : xs.all NZ.ok = false := all_false hx (all_false hz (by unfold inC; simp; omega))
          simp (disch := first | omega | assumption | decide | (simp <;> omega) | fail) [facts, e7, e8, e9, e13, e14, hm4I, rz, rz2, h1, h2, hno]
          exact ⟨_, Heap.le_refl _, hle2⟩
        · simp (disch := first | omega | assumption | decide | (simp <;> omega) | fail) [facts, e7, e8, e9, e13, e14, hm4I, rz, rz2, h1, h2]
          exact ⟨_, Heap.le_refl _, ⟨m + 1, by omega, by simp [e7], by simp [e8], by simp [e9], by simp [e13], by simp, hle2, all_step hz hall2 (by unfold inC; simp; omega)⟩, by simp [intOf, e14]; omega⟩
    · have hm44 : m = 4 := by omega
      subst hm44
      simp (disch := first | omega | assumption | decide | (simp <;> omega) | fail) [facts, e7, e8, e9, e13, e14]
      exact ⟨_, Heap.le_refl _, ⟨k + 1, by omega, by simp [e7], by simp [e8], by simp, hle2, all_step hx hall hall2⟩, by simp [intOf, e9]; omega⟩
  · have hkn : k = n := by omega
    subst hkn
    rw [List.take_of_length_le (by omega)] at hall
    simp (disch := first | omega | assumption | decide | (simp <;> omega) | fail) [facts, e7, e8, e9, hall]
    exact ⟨_, Heap.le_refl _, hle⟩
theorem notes3 (x y z : NZ) : splice (splice (splice (zeros [.int .i64 0, .int .i64 0, .int .i64 0, .int .i64 0] 3) 0 [.int .i64 x.a, .int .i64 x.b, .int .i64 x.c, .int .i64 x.d]) 4 [.int .i64 y.a, .int .i64 y.b, .int .i64 y.c, .int .i64 y.d]) 8 [.int .i64 z.a, .int .i64 z.b, .int .i64 z.c, .int .i64 z.d] = rowsC NZ.cells [x, y, z] := rfl
theorem right_c (r : RZ) (H : Heap) (hp : r.pan.size ≤ 140737488351232) : ECalls Try.prog 12 #[.agg #[.int .i64 r.kind, .int .u16 r.t, .int .u32 r.s, .string r.pan, .int .i64 r.am, .int .i64 r.ns.a, .int .i64 r.ns.b, .int .i64 r.ns.c, .int .i64 r.ns.d, .int .i64 r.rs.a, .int .i64 r.rs.b, .int .i64 r.rs.c, .int .i64 r.rs.d, .int .i64 r.ls.a, .int .i64 r.ls.b, .int .i64 r.ls.c, .int .i64 r.ls.d]] H fun v H' => v = .bool r.right ∧ Heap.le H H' := by
  refine ecalls_of_ewp (args := [_]) Try.func12 rfl rfl rfl (by simp [Try.ntmps12]) (by kernel_rfl) ?_
  simp (disch := first | omega | assumption | decide | (simp <;> omega) | fail) [facts, ]
  refine fresh_intro fun b hb => ?_
  have hle := le_upd (.row true 0 [.int .i64 r.kind, .int .u16 r.t, .int .u32 r.s, .string r.pan, .int .i64 r.am, .int .i64 r.ns.a, .int .i64 r.ns.b, .int .i64 r.ns.c, .int .i64 r.ns.d, .int .i64 r.rs.a, .int .i64 r.rs.b, .int .i64 r.rs.c, .int .i64 r.rs.d, .int .i64 r.ls.a, .int .i64 r.ls.b, .int .i64 r.ls.c, .int .i64 r.ls.d] 0) hb
  have hrow := upd_same H b (.row true 0 [.int .i64 r.kind, .int .u16 r.t, .int .u32 r.s, .string r.pan, .int .i64 r.am, .int .i64 r.ns.a, .int .i64 r.ns.b, .int .i64 r.ns.c, .int .i64 r.ns.d, .int .i64 r.rs.a, .int .i64 r.rs.b, .int .i64 r.rs.c, .int .i64 r.rs.d, .int .i64 r.ls.a, .int .i64 r.ls.b, .int .i64 r.ls.c, .int .i64 r.ls.d] 0)
  generalize upd H b (.row true 0 [.int .i64 r.kind, .int .u16 r.t, .int .u32 r.s, .string r.pan, .int .i64 r.am, .int .i64 r.ns.a, .int .i64 r.ns.b, .int .i64 r.ns.c, .int .i64 r.ns.d, .int .i64 r.rs.a, .int .i64 r.rs.b, .int .i64 r.rs.c, .int .i64 r.rs.d, .int .i64 r.ls.a, .int .i64 r.ls.b, .int .i64 r.ls.c, .int .i64 r.ls.d] 0) = H1 at *
  by_cases h1 : 1 ≤ r.kind
  case neg =>
    have hno : r.right = false := by simp [RZ.right, h1]
    rw [hno]
    simp (disch := first | omega | assumption | decide | (simp <;> omega) | fail) [facts, hrow, h1]
    exact ⟨_, Heap.le_refl _, hle⟩
  by_cases h2 : r.kind < 10
  case neg =>
    have hno : r.right = false := by simp [RZ.right, h2]
    rw [hno]
    simp (disch := first | omega | assumption | decide | (simp <;> omega) | fail) [facts, hrow, h1, h2]
    exact ⟨_, Heap.le_refl _, hle⟩
  by_cases h3 : r.pan.size ≤ 19
  case neg =>
    have h3I : ¬ (r.pan.size : Int) ≤ 19 := by omega
    have hno : r.right = false := by simp [RZ.right, h3]
    rw [hno]
    simp (disch := first | omega | assumption | decide | (simp <;> omega) | fail) [facts, hrow, h1, h2, h3I]
    exact ⟨_, Heap.le_refl _, hle⟩
  have h3I : (r.pan.size : Int) ≤ 19 := by omega
  simp (disch := first | omega | assumption | decide | (simp <;> omega) | fail) [facts, hrow, h1, h2, h3I]
  refine (digits_c r.pan H1 hp).mono ?_
  rintro v H2 ⟨rfl, rfl⟩
  by_cases h4 : allD r.pan = true
  case neg =>
    have h4' : allD r.pan = false := by simpa using h4
    have hno : r.right = false := by simp [RZ.right, h4']
    rw [hno]
    simp (disch := first | omega | assumption | decide | (simp <;> omega) | fail) [facts, hrow, h4']
    exact ⟨_, Heap.le_refl _, hle⟩
  by_cases h5 : 0 ≤ r.am
  case neg =>
    have hno : r.right = false := by simp [RZ.right, h5]
    rw [hno]
    simp (disch := first | omega | assumption | decide | (simp <;> omega) | fail) [facts, hrow, h4, h5]
    exact ⟨_, Heap.le_refl _, hle⟩
  by_cases h6 : r.am ≤ 1000000
  case neg =>
    have hno : r.right = false := by simp [RZ.right, h6]
    rw [hno]
    simp (disch := first | omega | assumption | decide | (simp <;> omega) | fail) [facts, hrow, h4, h5, h6]
    exact ⟨_, Heap.le_refl _, hle⟩
  have hyes : r.right = (r.ns.ok && r.rs.ok && r.ls.ok) := by simp [RZ.right, h1, h2, h3, h4, h5, h6]
  rw [hyes]
  simp (disch := first | omega | assumption | decide | (simp <;> omega) | fail) [facts, hrow, h4, h5, h6]
  refine fresh_intro fun b2 hb2 => ?_
  simp (disch := first | omega | assumption | decide | (simp <;> omega) | fail) [facts, notes3 r.ns r.rs r.ls]
  have hsl : SlA (upd H2 b2 (.row true 0 (rowsC NZ.cells [r.ns, r.rs, r.ls]) 0)) (some ⟨b2, 0, none⟩) 3 4 (rowsC NZ.cells [r.ns, r.rs, r.ls]) := SlA.row (upd_same _ _ _) (Nat.le_refl _) rfl (by simp [rowsC, NZ.cells]) (by simp [rowsC, NZ.cells])
  refine (counts_c _ 3 3 [r.ns, r.rs, r.ls] _ hsl (by decide)).mono ?_
  rintro v H3 ⟨rfl, hle3⟩
  have e3 : [r.ns, r.rs, r.ls].all NZ.ok = (r.ns.ok && r.rs.ok && r.ls.ok) := by simp [Bool.and_assoc]
  rw [e3]
  simp (disch := first | omega | assumption | decide | (simp <;> omega) | fail) [facts, ]
  exact ⟨_, Heap.le_refl _, Heap.le_trans hle (Heap.le_trans (le_upd _ hb2) hle3)⟩
theorem rightR_c (r : RZ) (H : Heap) (hp : r.pan.size ≤ 140737488351232) : ECalls Try.prog 13 #[.agg #[.int .i64 r.kind, .int .u16 r.t, .int .u32 r.s, .string r.pan, .int .i64 r.am, .int .i64 r.ns.a, .int .i64 r.ns.b, .int .i64 r.ns.c, .int .i64 r.ns.d, .int .i64 r.rs.a, .int .i64 r.rs.b, .int .i64 r.rs.c, .int .i64 r.rs.d, .int .i64 r.ls.a, .int .i64 r.ls.b, .int .i64 r.ls.c, .int .i64 r.ls.d]] H fun v H' => v = .bool r.right ∧ Heap.le H H' := by
  refine ecalls_of_ewp (args := [_]) Try.func13 rfl rfl rfl (by simp [Try.ntmps13]) (by kernel_rfl) ?_
  simp (disch := first | omega | assumption | decide | (simp <;> omega) | fail) [facts, ]
  refine fresh_intro fun b hb => ?_
  have hle := le_upd (.row true 0 [.int .i64 r.kind, .int .u16 r.t, .int .u32 r.s, .string r.pan, .int .i64 r.am, .int .i64 r.ns.a, .int .i64 r.ns.b, .int .i64 r.ns.c, .int .i64 r.ns.d, .int .i64 r.rs.a, .int .i64 r.rs.b, .int .i64 r.rs.c, .int .i64 r.rs.d, .int .i64 r.ls.a, .int .i64 r.ls.b, .int .i64 r.ls.c, .int .i64 r.ls.d] 0) hb
  have hrow := upd_same H b (.row true 0 [.int .i64 r.kind, .int .u16 r.t, .int .u32 r.s, .string r.pan, .int .i64 r.am, .int .i64 r.ns.a, .int .i64 r.ns.b, .int .i64 r.ns.c, .int .i64 r.ns.d, .int .i64 r.rs.a, .int .i64 r.rs.b, .int .i64 r.rs.c, .int .i64 r.rs.d, .int .i64 r.ls.a, .int .i64 r.ls.b, .int .i64 r.ls.c, .int .i64 r.ls.d] 0)
  generalize upd H b (.row true 0 [.int .i64 r.kind, .int .u16 r.t, .int .u32 r.s, .string r.pan, .int .i64 r.am, .int .i64 r.ns.a, .int .i64 r.ns.b, .int .i64 r.ns.c, .int .i64 r.ns.d, .int .i64 r.rs.a, .int .i64 r.rs.b, .int .i64 r.rs.c, .int .i64 r.rs.d, .int .i64 r.ls.a, .int .i64 r.ls.b, .int .i64 r.ls.c, .int .i64 r.ls.d] 0) = H1 at *
  by_cases h1 : 1 ≤ r.kind
  case neg =>
    have hno : r.right = false := by simp [RZ.right, h1]
    rw [hno]
    simp (disch := first | omega | assumption | decide | (simp <;> omega) | fail) [facts, hrow, h1]
    exact ⟨_, Heap.le_refl _, hle⟩
  by_cases h2 : r.kind < 10
  case neg =>
    have hno : r.right = false := by simp [RZ.right, h2]
    rw [hno]
    simp (disch := first | omega | assumption | decide | (simp <;> omega) | fail) [facts, hrow, h1, h2]
    exact ⟨_, Heap.le_refl _, hle⟩
  by_cases h3 : r.pan.size ≤ 19
  case neg =>
    have h3I : ¬ (r.pan.size : Int) ≤ 19 := by omega
    have hno : r.right = false := by simp [RZ.right, h3]
    rw [hno]
    simp (disch := first | omega | assumption | decide | (simp <;> omega) | fail) [facts, hrow, h1, h2, h3I]
    exact ⟨_, Heap.le_refl _, hle⟩
  have h3I : (r.pan.size : Int) ≤ 19 := by omega
  simp (disch := first | omega | assumption | decide | (simp <;> omega) | fail) [facts, hrow, h1, h2, h3I]
  refine (digitsR_c r.pan H1 hp).mono ?_
  rintro v H2 ⟨rfl, rfl⟩
  by_cases h4 : allD r.pan = true
  case neg =>
    have h4' : allD r.pan = false := by simpa using h4
    have hno : r.right = false := by simp [RZ.right, h4']
    rw [hno]
    simp (disch := first | omega | assumption | decide | (simp <;> omega) | fail) [facts, hrow, h4']
    exact ⟨_, Heap.le_refl _, hle⟩
  by_cases h5 : 0 ≤ r.am
  case neg =>
    have hno : r.right = false := by simp [RZ.right, h5]
    rw [hno]
    simp (disch := first | omega | assumption | decide | (simp <;> omega) | fail) [facts, hrow, h4, h5]
    exact ⟨_, Heap.le_refl _, hle⟩
  by_cases h6 : r.am ≤ 1000000
  case neg =>
    have hno : r.right = false := by simp [RZ.right, h6]
    rw [hno]
    simp (disch := first | omega | assumption | decide | (simp <;> omega) | fail) [facts, hrow, h4, h5, h6]
    exact ⟨_, Heap.le_refl _, hle⟩
  have hyes : r.right = (r.ns.ok && r.rs.ok && r.ls.ok) := by simp [RZ.right, h1, h2, h3, h4, h5, h6]
  rw [hyes]
  simp (disch := first | omega | assumption | decide | (simp <;> omega) | fail) [facts, hrow, h4, h5, h6]
  refine (few_c r.ns H2).mono ?_
  rintro v H3 ⟨rfl, hle3⟩
  have hrow3 := hle3 _ _ hrow
  cases hn : r.ns.ok with
  | false =>
    simp (disch := first | omega | assumption | decide | (simp <;> omega) | fail) [facts, hrow3]
    exact ⟨_, Heap.le_refl _, Heap.le_trans hle hle3⟩
  | true =>
    simp (disch := first | omega | assumption | decide | (simp <;> omega) | fail) [facts, hrow3]
    refine (few_c r.rs H3).mono ?_
    rintro v H4 ⟨rfl, hle4⟩
    have hrow4 := hle4 _ _ hrow3
    cases hr : r.rs.ok with
    | false =>
      simp (disch := first | omega | assumption | decide | (simp <;> omega) | fail) [facts, hrow4]
      exact ⟨_, Heap.le_refl _, Heap.le_trans hle (Heap.le_trans hle3 hle4)⟩
    | true =>
      simp (disch := first | omega | assumption | decide | (simp <;> omega) | fail) [facts, hrow4]
      refine (few_c r.ls H4).mono ?_
      rintro v H5 ⟨rfl, hle5⟩
      simp (disch := first | omega | assumption | decide | (simp <;> omega) | fail) [facts, ]
      exact ⟨_, Heap.le_refl _, Heap.le_trans hle (Heap.le_trans hle3 (Heap.le_trans hle4 hle5))⟩
end Go.Proofs.Ytaphlamkpkldgaa.GL
