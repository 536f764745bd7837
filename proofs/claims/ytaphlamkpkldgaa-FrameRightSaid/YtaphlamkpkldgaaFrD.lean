/- Layer 4: records; digits; counts. -/
import Derived.Test.YtaphlamkpkldgaaFrC
namespace Go.Proofs.Ytaphlamkpkldgaa.GL
open Go Go.RowKit
set_option maxRecDepth 10000
set_option pp.deepTerms.threshold 8
set_option pp.maxSteps 3000
set_option linter.unusedSimpArgs false
set_option linter.unusedVariables false

structure NZ where
  a : Int
  b : Int
  c : Int
  d : Int
  deriving DecidableEq
def NZ.l (x : NZ) : List Int := [x.a, x.b, x.c, x.d]
def NZ.cells (x : NZ) : List Value := [.int .i64 x.a, .int .i64 x.b, .int .i64 x.c, .int .i64 x.d]
theorem n4 (x : NZ) : x.cells.length = 4 := rfl
def inC (z : Int) : Bool := decide (0 ≤ z) && decide (z ≤ 10000)
def NZ.ok (x : NZ) : Bool := x.l.all inC
structure RZ where
  kind : Int
  t : Int
  s : Int
  pan : ByteArray
  am : Int
  ns : NZ
  rs : NZ
  ls : NZ
  deriving DecidableEq
def isD (c : UInt8) : Bool := decide (48 ≤ c.toNat) && decide (c.toNat ≤ 57)
def allD (s : ByteArray) : Bool := s.data.toList.all isD
def RZ.right (r : RZ) : Bool := decide (1 ≤ r.kind) && decide (r.kind < 10) && decide (r.pan.size ≤ 19) && allD r.pan && decide (0 ≤ r.am) && decide (r.am ≤ 1000000) && r.ns.ok && r.rs.ok && r.ls.ok
theorem all_step {α : Type} {p : α → Bool} {l : List α} {k : Nat} {x : α} (hx : l[k]? = some x) (h : (l.take k).all p = true) (hp : p x = true) : (l.take (k + 1)).all p = true := by
  rw [List.take_add_one, hx, List.all_append, h]; simp [hp]
theorem all_false {α : Type} {p : α → Bool} {l : List α} {k : Nat} {x : α} (hx : l[k]? = some x) (hp : p x = false) : l.all p = false := by
  cases h : l.all p with
  | false => rfl
  | true => rw [List.all_eq_true.1 h x (List.mem_of_getElem? hx)] at hp; cases hp
def digInv (H : Heap) (s : ByteArray) (st : St) : Prop :=
  ∃ k : Nat, k ≤ s.size ∧ st.env 0 = .string s ∧ st.env 5 = .int .i64 s.size ∧ st.env 6 = .int .i64 k ∧ st.heap = H ∧ (s.data.toList.take k).all isD = true
theorem digits_c (s : ByteArray) (H : Heap) (hn : s.size ≤ 140737488351232) : ECalls Try.prog 24 #[.string s] H fun r H' => r = .bool (allD s) ∧ H' = H := by
  refine ecalls_of_ewp (args := [_]) Try.func24 rfl rfl rfl (by simp [Try.ntmps24]) (by kernel_rfl) ?_
  have hsz : s.size = s.data.size := rfl
  simp (disch := first | omega | assumption | decide | (simp <;> omega) | fail) [facts, ]
  refine w_loop (digInv H s) (fun st => s.size - (intOf (st.env 6)).toNat) ?_ ?_
  · exact ⟨0, Nat.zero_le _, by simp, by simp, by simp, rfl, by simp⟩
  rintro ⟨env, G⟩ ⟨k, hk, e0, e5, e6, hG, hall⟩
  simp only at e0 e5 e6 hG
  subst hG
  by_cases hlt : k < s.size
  · have hltI : (k : Int) < (s.size : Int) := by omega
    obtain ⟨x, hx⟩ : ∃ x, s.data.toList[k]? = some x := ⟨_, List.getElem?_eq_getElem (by simpa using hlt)⟩
    have hx2 : s.data[k]? = some x := by rw [← Array.getElem?_toList]; exact hx
    have hx3 : s.data[k] = x := (Array.getElem?_eq_some_iff.1 hx2).2
    by_cases h1 : x.toNat < 48
    · have h1I : (x.toNat : Int) < 48 := by omega
      have hno : allD s = false := all_false hx (by unfold isD; simp; omega)
      simp (disch := first | omega | assumption | decide | (simp <;> omega) | fail) [facts, e0, e5, e6, hltI, hx2, hx3, h1I, hno]
    · have h1I : ¬ (x.toNat : Int) < 48 := by omega
      by_cases h2 : 57 < x.toNat
      · have h2I : (57 : Int) < (x.toNat : Int) := by omega
        have hno : allD s = false := all_false hx (by unfold isD; simp; omega)
        simp (disch := first | omega | assumption | decide | (simp <;> omega) | fail) [facts, e0, e5, e6, hltI, hx2, hx3, h1I, h2I, hno]
      · have h2I : ¬ (57 : Int) < (x.toNat : Int) := by omega
        simp (disch := first | omega | assumption | decide | (simp <;> omega) | fail) [facts, e0, e5, e6, hltI, hx2, hx3, h1I, h2I]
        exact ⟨_, Heap.le_refl _, ⟨k + 1, by omega, by simp [e0], by simp [e5], by simp, rfl, all_step hx hall (by unfold isD; simp; omega)⟩, by simp [intOf, e6]; omega⟩
  · have hkn : k = s.size := by omega
    have hall' : allD s = true := by
      unfold allD
      rw [List.take_of_length_le (by simp; omega)] at hall; exact hall
    simp (disch := first | omega | assumption | decide | (simp <;> omega) | fail) [facts, e0, e5, e6, hkn, hall']
def digRInv (H : Heap) (s : ByteArray) (st : St) : Prop :=
  ∃ k : Nat, k ≤ s.size ∧ st.env 0 = .string s ∧ st.env 3 = .int .i64 k ∧ st.heap = H ∧ (s.data.toList.take k).all isD = true
theorem digitsR_c (s : ByteArray) (H : Heap) (hn : s.size ≤ 140737488351232) : ECalls Try.prog 26 #[.string s] H fun r H' => r = .bool (allD s) ∧ H' = H := by
  refine ecalls_of_ewp (args := [_]) Try.func26 rfl rfl rfl (by simp [Try.ntmps26]) (by kernel_rfl) ?_
  have hsz : s.size = s.data.size := rfl
  simp (disch := first | omega | assumption | decide | (simp <;> omega) | fail) [facts, ]
  refine w_loop (digRInv H s) (fun st => s.size - (intOf (st.env 3)).toNat) ?_ ?_
  · exact ⟨0, Nat.zero_le _, by simp, by simp, rfl, by simp⟩
  rintro ⟨env, G⟩ ⟨k, hk, e0, e3, hG, hall⟩
  simp only at e0 e3 hG
  subst hG
  by_cases hlt : k < s.size
  · have hltI : (k : Int) < (s.size : Int) := by omega
    obtain ⟨x, hx⟩ : ∃ x, s.data.toList[k]? = some x := ⟨_, List.getElem?_eq_getElem (by simpa using hlt)⟩
    have hx2 : s.data[k]? = some x := by rw [← Array.getElem?_toList]; exact hx
    have hx3 : s.data[k] = x := (Array.getElem?_eq_some_iff.1 hx2).2
    by_cases h1 : x.toNat < 48
    · have h1I : (x.toNat : Int) < 48 := by omega
      have hno : allD s = false := all_false hx (by unfold isD; simp; omega)
      simp (disch := first | omega | assumption | decide | (simp <;> omega) | fail) [facts, e0, e3, hltI, hx2, hx3, h1I, hno]
    · have h1I : ¬ (x.toNat : Int) < 48 := by omega
      by_cases h2 : 57 < x.toNat
      · have h2I : (57 : Int) < (x.toNat : Int) := by omega
        have hno : allD s = false := all_false hx (by unfold isD; simp; omega)
        simp (disch := first | omega | assumption | decide | (simp <;> omega) | fail) [facts, e0, e3, hltI, hx2, hx3, h1I, h2I, hno]
      · have h2I : ¬ (57 : Int) < (x.toNat : Int) := by omega
        simp (disch := first | omega | assumption | decide | (simp <;> omega) | fail) [facts, e0, e3, hltI, hx2, hx3, h1I, h2I]
        exact ⟨_, Heap.le_refl _, ⟨k + 1, by omega, by simp [e0], by simp, rfl, all_step hx hall (by unfold isD; simp; omega)⟩, by simp [intOf, e3]; omega⟩
  · have hkn : k = s.size := by omega
    have hall' : allD s = true := by
      unfold allD
      rw [List.take_of_length_le (by simp; omega)] at hall; exact hall
    simp (disch := first | omega | assumption | decide | (simp <;> omega) | fail) [facts, e0, e3, hkn, hall']
theorem NZ.at (x : NZ) {m : Nat} {z : Int} (h : x.l[m]? = some z) : [Value.int .i64 x.a, .int .i64 x.b, .int .i64 x.c, .int .i64 x.d][m]? = some (.int .i64 z) := by
  have : [Value.int .i64 x.a, .int .i64 x.b, .int .i64 x.c, .int .i64 x.d] = x.l.map (.int .i64) := rfl
  rw [this, List.getElem?_map, h]; rfl
def fewInv (H : Heap) (b : Nat) (x : NZ) (st : St) : Prop :=
  ∃ m : Nat, m ≤ 4 ∧ st.env 1 = .pointer (some ⟨b, 0, none⟩) ∧ st.env 3 = .int .i64 m ∧ st.heap = H ∧ (x.l.take m).all inC = true
theorem few_c (x : NZ) (H : Heap) : ECalls Try.prog 27 #[.agg #[.int .i64 x.a, .int .i64 x.b, .int .i64 x.c, .int .i64 x.d]] H fun r H' => r = .bool x.ok ∧ Heap.le H H' := by
  refine ecalls_of_ewp (args := [_]) Try.func27 rfl rfl rfl (by simp [Try.ntmps27]) (by kernel_rfl) ?_
  simp (disch := first | omega | assumption | decide | (simp <;> omega) | fail) [facts, ]
  refine fresh_intro fun b hb => ?_
  have hle := le_upd (.row true 0 [.int .i64 x.a, .int .i64 x.b, .int .i64 x.c, .int .i64 x.d] 0) hb
  have hrow := upd_same H b (.row true 0 [.int .i64 x.a, .int .i64 x.b, .int .i64 x.c, .int .i64 x.d] 0)
  generalize upd H b (.row true 0 [.int .i64 x.a, .int .i64 x.b, .int .i64 x.c, .int .i64 x.d] 0) = H1 at *
  simp (disch := first | omega | assumption | decide | (simp <;> omega) | fail) [facts, ]
  refine w_loop (fewInv H1 b x) (fun st => 4 - (intOf (st.env 3)).toNat) ?_ ?_
  · exact ⟨0, by decide, by simp, by simp, rfl, by simp⟩
  rintro ⟨env, G⟩ ⟨m, hm, e1, e3, hG, hall⟩
  simp only at e1 e3 hG
  subst hG
  by_cases hlt : m < 4
  · have hltI : (m : Int) < 4 := by omega
    obtain ⟨z, hz⟩ : ∃ z, x.l[m]? = some z := ⟨_, List.getElem?_eq_getElem (by simpa [NZ.l] using hlt)⟩
    have rz : rd1U (G b) m = some (.int .i64 z) := by
      rw [hrow, rd1U_row (Nat.zero_le _), Nat.sub_zero]; exact x.at hz
    by_cases h1 : z < 0
    · have hno : x.ok = false := all_false hz (by unfold inC; simp; omega)
      simp (disch := first | omega | assumption | decide | (simp <;> omega) | fail) [facts, e1, e3, hltI, rz, h1, hno]
      exact ⟨_, Heap.le_refl _, hle⟩
    · by_cases h2 : 10000 < z
      · have hno : x.ok = false := all_false hz (by unfold inC; simp; omega)
        simp (disch := first | omega | assumption | decide | (simp <;> omega) | fail) [facts, e1, e3, hltI, rz, h1, h2, hno]
        exact ⟨_, Heap.le_refl _, hle⟩
      · simp (disch := first | omega | assumption | decide | (simp <;> omega) | fail) [facts, e1, e3, hltI, rz, h1, h2]
        exact ⟨_, Heap.le_refl _, ⟨m + 1, by omega, by simp [e1], by simp, rfl, all_step hz hall (by unfold inC; simp; omega)⟩, by simp [intOf, e3]; omega⟩
  · have hm4 : m = 4 := by omega
    subst hm4
    have hok : x.ok = true := by unfold NZ.ok; exact hall
    simp (disch := first | omega | assumption | decide | (simp <;> omega) | fail) [facts, e1, e3, hok]
    exact ⟨_, Heap.le_refl _, hle⟩
end Go.Proofs.Ytaphlamkpkldgaa.GL
