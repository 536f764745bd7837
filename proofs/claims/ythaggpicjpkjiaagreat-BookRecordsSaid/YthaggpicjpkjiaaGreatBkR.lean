/- Layer 4: records; digits; counts.; Layer 4: which records may be.; Layer 4: the statements' records. -/
import Derived.Test.YthaggpicjpkjiaaGreatGlU
import Derived.Test.YthaggpicjpkjiaaGreatGlT
import Derived.Test.YthaggpicjpkjiaaGreatGlS
import Derived.Test.YthaggpicjpkjiaaGreatGlX
import Derived.Test.YthaggpicjpkjiaaGreatGlY
import Derived.Test.YthaggpicjpkjiaaGreatGlO
namespace Go.Proofs.YthaggpicjpkjiaaGreat.GL
open Go Go.RowKit
set_option maxRecDepth 10000
set_option pp.deepTerms.threshold 8
set_option pp.maxSteps 3000
set_option linter.unusedSimpArgs false
set_option linter.unusedVariables false

structure NZ where
  a : Int
  b : Int
  c : Int
  d : Int
  deriving DecidableEq
def NZ.l (x : NZ) : List Int := [x.a, x.b, x.c, x.d]
def NZ.cells (x : NZ) : List Value := [.int .i64 x.a, .int .i64 x.b, .int .i64 x.c, .int .i64 x.d]
theorem n4 (x : NZ) : x.cells.length = 4 := rfl
def inC (z : Int) : Bool := decide (0 ≤ z) && decide (z ≤ 10000)
def NZ.ok (x : NZ) : Bool := x.l.all inC
structure RZ where
  kind : Int
  t : Int
  s : Int
  pan : ByteArray
  am : Int
  ns : NZ
  rs : NZ
  ls : NZ
  deriving DecidableEq
def isD (c : UInt8) : Bool := decide (48 ≤ c.toNat) && decide (c.toNat ≤ 57)
def allD (s : ByteArray) : Bool := s.data.toList.all isD
def RZ.right (r : RZ) : Bool := decide (1 ≤ r.kind) && decide (r.kind < 10) && decide (r.pan.size ≤ 19) && allD r.pan && decide (0 ≤ r.am) && decide (r.am ≤ 1000000) && r.ns.ok && r.rs.ok && r.ls.ok
theorem all_step {α : Type} {p : α → Bool} {l : List α} {k : Nat} {x : α} (hx : l[k]? = some x) (h : (l.take k).all p = true) (hp : p x = true) : (l.take (k + 1)).all p = true := by
  rw [List.take_add_one, hx, List.all_append, h]; simp [hp]
theorem all_false {α : Type} {p : α → Bool} {l : List α} {k : Nat} {x : α} (hx : l[k]? = some x) (hp : p x = false) : l.all p = false := by
  cases h : l.all p with
  | false => rfl
  | true => rw [List.all_eq_true.1 h x (List.mem_of_getElem? hx)] at hp; cases hp
def digInv (H : Heap) (s : ByteArray) (st : St) : Prop :=
  ∃ k : Nat, k ≤ s.size ∧ st.env 0 = .string s ∧ st.env 5 = .int .i64 s.size ∧ st.env 6 = .int .i64 k ∧ st.heap = H ∧ (s.data.toList.take k).all isD = true
theorem digits_c (s : ByteArray) (H : Heap) (hn : s.size ≤ 140737488351232) : ECalls Tryz.prog 56 #[.string s] H fun r H' => r = .bool (allD s) ∧ H' = H := by
  refine ecalls_of_ewp (args := [_]) Tryz.func56 rfl rfl rfl (by simp [Tryz.ntmps56]) (by kernel_rfl) ?_
  have hsz : s.size = s.data.size := rfl
  simp (disch := first | omega | assumption | decide | (simp <;> omega) | fail) [facts, ]
  refine w_loop (digInv H s) (fun st => s.size - (intOf (st.env 6)).toNat) ?_ ?_
  · exact ⟨0, Nat.zero_le _, by simp, by simp, by simp, rfl, by simp⟩
  rintro ⟨env, G⟩ ⟨k, hk, e0, e5, e6, hG, hall⟩
  simp only at e0 e5 e6 hG
  subst hG
  by_cases hlt : k < s.size
  · have hltI : (k : Int) < (s.size : Int) := by omega
    obtain ⟨x, hx⟩ : ∃ x, s.data.toList[k]? = some x := ⟨_, List.getElem?_eq_getElem (by simpa using hlt)⟩
    have hx2 : s.data[k]? = some x := by rw [← Array.getElem?_toList]; exact hx
    have hx3 : s.data[k] = x := (Array.getElem?_eq_some_iff.1 hx2).2
    by_cases h1 : x.toNat < 48
    · have h1I : (x.toNat : Int) < 48 := by omega
      have hno : allD s = false := all_false hx (by unfold isD; simp; omega)
      simp (disch := first | omega | assumption | decide | (simp <;> omega) | fail) [facts, e0, e5, e6, hltI, hx2, hx3, h1I, hno]
    · have h1I : ¬ (x.toNat : Int) < 48 := by omega
      by_cases h2 : 57 < x.toNat
      · have h2I : (57 : Int) < (x.toNat : Int) := by omega
        have hno : allD s = false := all_false hx (by unfold isD; simp; omega)
        simp (disch := first | omega | assumption | decide | (simp <;> omega) | fail) [facts, e0, e5, e6, hltI, hx2, hx3, h1I, h2I, hno]
      · have h2I : ¬ (57 : Int) < (x.toNat : Int) := by omega
        simp (disch := first | omega | assumption | decide | (simp <;> omega) | fail) [facts, e0, e5, e6, hltI, hx2, hx3, h1I, h2I]
        exact ⟨_, Heap.le_refl _, ⟨k + 1, by omega, by simp [e0], by simp [e5], by simp, rfl, all_step hx hall (by unfold isD; simp; omega)⟩, by simp [intOf, e6]; omega⟩
  · have hkn : k = s.size := by omega
    have hall' : allD s = true := by
      unfold allD
      rw [List.take_of_length_le (by simp; omega)] at hall; exact hall
    simp (disch := first | omega | assumption | decide | (simp <;> omega) | fail) [facts, e0, e5, e6, hkn, hall']
def digRInv (H : Heap) (s : ByteArray) (st : St) : Prop :=
  ∃ k : Nat, k ≤ s.size ∧ st.env 0 = .string s ∧ st.env 3 = .int .i64 k ∧ st.heap = H ∧ (s.data.toList.take k).all isD = true
theorem digitsR_c (s : ByteArray) (H : Heap) (hn : s.size ≤ 140737488351232) : ECalls Tryz.prog 62 #[.string s] H fun r H' => r = .bool (allD s) ∧ H' = H := by
  refine ecalls_of_ewp (args := [_]) Tryz.func62 rfl rfl rfl (by simp [Tryz.ntmps62]) (by kernel_rfl) ?_
  have hsz : s.size = s.data.size := rfl
  simp (disch := first | omega | assumption | decide | (simp <;> omega) | fail) [facts, ]
  refine w_loop (digRInv H s) (fun st => s.size - (intOf (st.env 3)).toNat) ?_ ?_
  · exact ⟨0, Nat.zero_le _, by simp, by simp, rfl, by simp⟩
  rintro ⟨env, G⟩ ⟨k, hk, e0, e3, hG, hall⟩
  simp only at e0 e3 hG
  subst hG
  by_cases hlt : k < s.size
  · have hltI : (k : Int) < (s.size : Int) := by omega
    obtain ⟨x, hx⟩ : ∃ x, s.data.toList[k]? = some x := ⟨_, List.getElem?_eq_getElem (by simpa using hlt)⟩
    have hx2 : s.data[k]? = some x := by rw [← Array.getElem?_toList]; exact hx
    have hx3 : s.data[k] = x := (Array.getElem?_eq_some_iff.1 hx2).2
    by_cases h1 : x.toNat < 48
    · have h1I : (x.toNat : Int) < 48 := by omega
      have hno : allD s = false := all_false hx (by unfold isD; simp; omega)
      simp (disch := first | omega | assumption | decide | (simp <;> omega) | fail) [facts, e0, e3, hltI, hx2, hx3, h1I, hno]
    · have h1I : ¬ (x.toNat : Int) < 48 := by omega
      by_cases h2 : 57 < x.toNat
      · have h2I : (57 : Int) < (x.toNat : Int) := by omega
        have hno : allD s = false := all_false hx (by unfold isD; simp; omega)
        simp (disch := first | omega | assumption | decide | (simp <;> omega) | fail) [facts, e0, e3, hltI, hx2, hx3, h1I, h2I, hno]
      · have h2I : ¬ (57 : Int) < (x.toNat : Int) := by omega
        simp (disch := first | omega | assumption | decide | (simp <;> omega) | fail) [facts, e0, e3, hltI, hx2, hx3, h1I, h2I]
        exact ⟨_, Heap.le_refl _, ⟨k + 1, by omega, by simp [e0], by simp, rfl, all_step hx hall (by unfold isD; simp; omega)⟩, by simp [intOf, e3]; omega⟩
  · have hkn : k = s.size := by omega
    have hall' : allD s = true := by
      unfold allD
      rw [List.take_of_length_le (by simp; omega)] at hall; exact hall
    simp (disch := first | omega | assumption | decide | (simp <;> omega) | fail) [facts, e0, e3, hkn, hall']
theorem NZ.at (x : NZ) {m : Nat} {z : Int} (h : x.l[m]? = some z) : [Value.int .i64 x.a, .int .i64 x.b, .int .i64 x.c, .int .i64 x.d][m]? = some (.int .i64 z) := by
  have : [Value.int .i64 x.a, .int .i64 x.b, .int .i64 x.c, .int .i64 x.d] = x.l.map (.int .i64) := rfl
  rw [this, List.getElem?_map, h]; rfl
def fewInv (H : Heap) (b : Nat) (x : NZ) (st : St) : Prop :=
  ∃ m : Nat, m ≤ 4 ∧ st.env 1 = .pointer (some ⟨b, 0, none⟩) ∧ st.env 3 = .int .i64 m ∧ st.heap = H ∧ (x.l.take m).all inC = true
theorem few_c (x : NZ) (H : Heap) : ECalls Tryz.prog 63 #[.agg #[.int .i64 x.a, .int .i64 x.b, .int .i64 x.c, .int .i64 x.d]] H fun r H' => r = .bool x.ok ∧ Heap.le H H' := by
  refine ecalls_of_ewp (args := [_]) Tryz.func63 rfl rfl rfl (by simp [Tryz.ntmps63]) (by kernel_rfl) ?_
  simp (disch := first | omega | assumption | decide | (simp <;> omega) | fail) [facts, ]
  refine fresh_intro fun b hb => ?_
  have hle := le_upd (.row true 0 [.int .i64 x.a, .int .i64 x.b, .int .i64 x.c, .int .i64 x.d] 0) hb
  have hrow := upd_same H b (.row true 0 [.int .i64 x.a, .int .i64 x.b, .int .i64 x.c, .int .i64 x.d] 0)
  generalize upd H b (.row true 0 [.int .i64 x.a, .int .i64 x.b, .int .i64 x.c, .int .i64 x.d] 0) = H1 at *
  simp (disch := first | omega | assumption | decide | (simp <;> omega) | fail) [facts, ]
  refine w_loop (fewInv H1 b x) (fun st => 4 - (intOf (st.env 3)).toNat) ?_ ?_
  · exact ⟨0, by decide, by simp, by simp, rfl, by simp⟩
  rintro ⟨env, G⟩ ⟨m, hm, e1, e3, hG, hall⟩
  simp only at e1 e3 hG
  subst hG
  by_cases hlt : m < 4
  · have hltI : (m : Int) < 4 := by omega
    obtain ⟨z, hz⟩ : ∃ z, x.l[m]? = some z := ⟨_, List.getElem?_eq_getElem (by simpa [NZ.l] using hlt)⟩
    have rz : rd1U (G b) m = some (.int .i64 z) := by
      rw [hrow, rd1U_row (Nat.zero_le _), Nat.sub_zero]; exact x.at hz
    by_cases h1 : z < 0
    · have hno : x.ok = false := all_false hz (by unfold inC; simp; omega)
      simp (disch := first | omega | assumption | decide | (simp <;> omega) | fail) [facts, e1, e3, hltI, rz, h1, hno]
      exact ⟨_, Heap.le_refl _, hle⟩
    · by_cases h2 : 10000 < z
      · have hno : x.ok = false := all_false hz (by unfold inC; simp; omega)
        simp (disch := first | omega | assumption | decide | (simp <;> omega) | fail) [facts, e1, e3, hltI, rz, h1, h2, hno]
        exact ⟨_, Heap.le_refl _, hle⟩
      · simp (disch := first | omega | assumption | decide | (simp <;> omega) | fail) [facts, e1, e3, hltI, rz, h1, h2]
        exact ⟨_, Heap.le_refl _, ⟨m + 1, by omega, by simp [e1], by simp, rfl, all_step hz hall (by unfold inC; simp; omega)⟩, by simp [intOf, e3]; omega⟩
  · have hm4 : m = 4 := by omega
    subst hm4
    have hok : x.ok = true := by unfold NZ.ok; exact hall
    simp (disch := first | omega | assumption | decide | (simp <;> omega) | fail) [facts, e1, e3, hok]
    exact ⟨_, Heap.le_refl _, hle⟩
end Go.Proofs.YthaggpicjpkjiaaGreat.GL

namespace Go.Proofs.YthaggpicjpkjiaaGreat.GL
open Go Go.RowKit
set_option maxRecDepth 10000
set_option pp.deepTerms.threshold 8
set_option pp.maxSteps 3000
set_option linter.unusedSimpArgs false
set_option linter.unusedVariables false

def cnInv (H : Heap) (a : Option Addr) (n c : Nat) (xs : List NZ) (st : St) : Prop :=
  ∃ k : Nat, k ≤ n ∧ st.env 7 = .slice a n c ∧ st.env 8 = .int .i64 n ∧ st.env 9 = .int .i64 k ∧ Heap.le H st.heap ∧ (xs.take k).all NZ.ok = true
def cn4Inv (H : Heap) (a : Option Addr) (n c k : Nat) (x : NZ) (st : St) : Prop :=
  ∃ m : Nat, m ≤ 4 ∧ st.env 7 = .slice a n c ∧ st.env 8 = .int .i64 n ∧ st.env 9 = .int .i64 k ∧ st.env 13 = .agg #[.int .i64 x.a, .int .i64 x.b, .int .i64 x.c, .int .i64 x.d] ∧ st.env 14 = .int .i64 m ∧ Heap.le H st.heap ∧ (x.l.take m).all inC = true
theorem counts_c (a : Option Addr) (n c : Nat) (xs : List NZ) (H : Heap) (h : SlA H a n 4 (rowsC NZ.cells xs)) (hn : n ≤ 100000) : ECalls Tryz.prog 58 #[.slice a n c] H fun r H' => r = .bool (xs.all NZ.ok) ∧ Heap.le H H' := by
  refine ecalls_of_ewp (args := [_]) Tryz.func58 rfl rfl rfl (by simp [Tryz.ntmps58]) (by kernel_rfl) ?_
  have hl : xs.length = n := h.els n4 (by decide)
  simp (disch := first | omega | assumption | decide | (simp <;> omega) | fail) [facts, ]
  refine w_loop (cnInv H a n c xs) (fun st => n - (intOf (st.env 9)).toNat) ?_ ?_
  · exact ⟨0, Nat.zero_le _, by simp, by simp, by simp, Heap.le_refl _, by simp⟩
  rintro ⟨env, G⟩ ⟨k, hk, e7, e8, e9, hle, hall⟩
  simp only at e7 e8 e9 hle
  by_cases hlt : k < n
  · have hltI : (k : Int) < (n : Int) := by omega
    obtain ⟨x, hx⟩ : ∃ x, xs[k]? = some x := ⟨_, List.getElem?_eq_getElem (by omega)⟩
    obtain ⟨ab, ao, rfl⟩ := h.lit (by omega)
    have rx : rdNU (G ab) (ao + k * 4) 4 = some [.int .i64 x.a, .int .i64 x.b, .int .i64 x.c, .int .i64 x.d] := (h.le hle).el n4 hx (j := 0) (r := 4) (by decide) (by decide)
    simp (disch := first | omega | assumption | decide | (simp <;> omega) | fail) [facts, e7, e8, e9, hltI, rx]
    refine fresh_intro fun b hb => ?_
    have hle2 := Heap.le_trans hle (le_upd (.row true 0 [.int .i64 x.a, .int .i64 x.b, .int .i64 x.c, .int .i64 x.d] 0) hb)
    simp (disch := first | omega | assumption | decide | (simp <;> omega) | fail) [facts, upd_upd, upd_same]
    refine w_loop (cn4Inv H (some ⟨ab, ao, none⟩) n c k x) (fun st => 4 - (intOf (st.env 14)).toNat) ?_ ?_
    · exact ⟨0, by decide, by simp [e7], by simp [e8], by simp [e9], by simp, by simp, hle2, by simp⟩
    clear e7 e8 e9 hle2
    rintro ⟨env2, G2⟩ ⟨m, hm, e7, e8, e9, e13, e14, hle2, hall2⟩
    simp only at e7 e8 e9 e13 e14 hle2
    by_cases hm4 : m < 4
    · have hm4I : (m : Int) < 4 := by omega
      obtain ⟨z, hz⟩ : ∃ z, x.l[m]? = some z := ⟨_, List.getElem?_eq_getElem (by simpa [NZ.l] using hm4)⟩
      have rz := x.at hz
      obtain ⟨hmm, rz2⟩ := List.getElem?_eq_some_iff.1 rz
      by_cases h1 : z < 0
      · have hno : xs.all NZ.ok = false := all_false hx (all_false hz (by unfold inC; simp; omega))
        simp (disch := first | omega | assumption | decide | (simp <;> omega) | fail) [facts, e7, e8, e9, e13, e14, hm4I, rz, rz2, h1, hno]
        exact ⟨_, Heap.le_refl _, hle2⟩
      · by_cases h2 : 10000 < z
        · have hno : xs.all NZ.ok = false := all_false hx (all_false hz (by unfold inC; simp; omega))
          simp (disch := first | omega | assumption | decide | (simp <;> omega) | fail) [facts, e7, e8, e9, e13, e14, hm4I, rz, rz2, h1, h2, hno]
          exact ⟨_, Heap.le_refl _, hle2⟩
        · simp (disch := first | omega | assumption | decide | (simp <;> omega) | fail) [facts, e7, e8, e9, e13, e14, hm4I, rz, rz2, h1, h2]
          exact ⟨_, Heap.le_refl _, ⟨m + 1, by omega, by simp [e7], by simp [e8], by simp [e9], by simp [e13], by simp, hle2, all_step hz hall2 (by unfold inC; simp; omega)⟩, by simp [intOf, e14]; omega⟩
    · have hm44 : m = 4 := by omega
      subst hm44
      simp (disch := first | omega | assumption | decide | (simp <;> omega) | fail) [facts, e7, e8, e9, e13, e14]
      exact ⟨_, Heap.le_refl _, ⟨k + 1, by omega, by simp [e7], by simp [e8], by simp, hle2, all_step hx hall hall2⟩, by simp [intOf, e9]; omega⟩
  · have hkn : k = n := by omega
    subst hkn
    rw [List.take_of_length_le (by omega)] at hall
    simp (disch := first | omega | assumption | decide | (simp <;> omega) | fail) [facts, e7, e8, e9, hall]
    exact ⟨_, Heap.le_refl _, hle⟩
theorem notes3 (x y z : NZ) : splice (splice (splice (zeros [.int .i64 0, .int .i64 0, .int .i64 0, .int .i64 0] 3) 0 [.int .i64 x.a, .int .i64 x.b, .int .i64 x.c, .int .i64 x.d]) 4 [.int .i64 y.a, .int .i64 y.b, .int .i64 y.c, .int .i64 y.d]) 8 [.int .i64 z.a, .int .i64 z.b, .int .i64 z.c, .int .i64 z.d] = rowsC NZ.cells [x, y, z] := rfl
theorem right_c (r : RZ) (H : Heap) (hp : r.pan.size ≤ 140737488351232) : ECalls Tryz.prog 27 #[.agg #[.int .i64 r.kind, .int .u16 r.t, .int .u32 r.s, .string r.pan, .int .i64 r.am, .int .i64 r.ns.a, .int .i64 r.ns.b, .int .i64 r.ns.c, .int .i64 r.ns.d, .int .i64 r.rs.a, .int .i64 r.rs.b, .int .i64 r.rs.c, .int .i64 r.rs.d, .int .i64 r.ls.a, .int .i64 r.ls.b, .int .i64 r.ls.c, .int .i64 r.ls.d]] H fun v H' => v = .bool r.right ∧ Heap.le H H' := by
  refine ecalls_of_ewp (args := [_]) Tryz.func27 rfl rfl rfl (by simp [Tryz.ntmps27]) (by kernel_rfl) ?_
  simp (disch := first | omega | assumption | decide | (simp <;> omega) | fail) [facts, ]
  refine fresh_intro fun b hb => ?_
  have hle := le_upd (.row true 0 [.int .i64 r.kind, .int .u16 r.t, .int .u32 r.s, .string r.pan, .int .i64 r.am, .int .i64 r.ns.a, .int .i64 r.ns.b, .int .i64 r.ns.c, .int .i64 r.ns.d, .int .i64 r.rs.a, .int .i64 r.rs.b, .int .i64 r.rs.c, .int .i64 r.rs.d, .int .i64 r.ls.a, .int .i64 r.ls.b, .int .i64 r.ls.c, .int .i64 r.ls.d] 0) hb
  have hrow := upd_same H b (.row true 0 [.int .i64 r.kind, .int .u16 r.t, .int .u32 r.s, .string r.pan, .int .i64 r.am, .int .i64 r.ns.a, .int .i64 r.ns.b, .int .i64 r.ns.c, .int .i64 r.ns.d, .int .i64 r.rs.a, .int .i64 r.rs.b, .int .i64 r.rs.c, .int .i64 r.rs.d, .int .i64 r.ls.a, .int .i64 r.ls.b, .int .i64 r.ls.c, .int .i64 r.ls.d] 0)
  generalize upd H b (.row true 0 [.int .i64 r.kind, .int .u16 r.t, .int .u32 r.s, .string r.pan, .int .i64 r.am, .int .i64 r.ns.a, .int .i64 r.ns.b, .int .i64 r.ns.c, .int .i64 r.ns.d, .int .i64 r.rs.a, .int .i64 r.rs.b, .int .i64 r.rs.c, .int .i64 r.rs.d, .int .i64 r.ls.a, .int .i64 r.ls.b, .int .i64 r.ls.c, .int .i64 r.ls.d] 0) = H1 at *
  by_cases h1 : 1 ≤ r.kind
  case neg =>
    have hno : r.right = false := by simp [RZ.right, h1]
    rw [hno]
    simp (disch := first | omega | assumption | decide | (simp <;> omega) | fail) [facts, hrow, h1]
    exact ⟨_, Heap.le_refl _, hle⟩
  by_cases h2 : r.kind < 10
  case neg =>
    have hno : r.right = false := by simp [RZ.right, h2]
    rw [hno]
    simp (disch := first | omega | assumption | decide | (simp <;> omega) | fail) [facts, hrow, h1, h2]
    exact ⟨_, Heap.le_refl _, hle⟩
  by_cases h3 : r.pan.size ≤ 19
  case neg =>
    have h3I : ¬ (r.pan.size : Int) ≤ 19 := by omega
    have hno : r.right = false := by simp [RZ.right, h3]
    rw [hno]
    simp (disch := first | omega | assumption | decide | (simp <;> omega) | fail) [facts, hrow, h1, h2, h3I]
    exact ⟨_, Heap.le_refl _, hle⟩
  have h3I : (r.pan.size : Int) ≤ 19 := by omega
  simp (disch := first | omega | assumption | decide | (simp <;> omega) | fail) [facts, hrow, h1, h2, h3I]
  refine (digits_c r.pan H1 hp).mono ?_
  rintro v H2 ⟨rfl, rfl⟩
  by_cases h4 : allD r.pan = true
  case neg =>
    have h4' : allD r.pan = false := by simpa using h4
    have hno : r.right = false := by simp [RZ.right, h4']
    rw [hno]
    simp (disch := first | omega | assumption | decide | (simp <;> omega) | fail) [facts, hrow, h4']
    exact ⟨_, Heap.le_refl _, hle⟩
  by_cases h5 : 0 ≤ r.am
  case neg =>
    have hno : r.right = false := by simp [RZ.right, h5]
    rw [hno]
    simp (disch := first | omega | assumption | decide | (simp <;> omega) | fail) [facts, hrow, h4, h5]
    exact ⟨_, Heap.le_refl _, hle⟩
  by_cases h6 : r.am ≤ 1000000
  case neg =>
    have hno : r.right = false := by simp [RZ.right, h6]
    rw [hno]
    simp (disch := first | omega | assumption | decide | (simp <;> omega) | fail) [facts, hrow, h4, h5, h6]
    exact ⟨_, Heap.le_refl _, hle⟩
  have hyes : r.right = (r.ns.ok && r.rs.ok && r.ls.ok) := by simp [RZ.right, h1, h2, h3, h4, h5, h6]
  rw [hyes]
  simp (disch := first | omega | assumption | decide | (simp <;> omega) | fail) [facts, hrow, h4, h5, h6]
  refine fresh_intro fun b2 hb2 => ?_
  simp (disch := first | omega | assumption | decide | (simp <;> omega) | fail) [facts, notes3 r.ns r.rs r.ls]
  have hsl : SlA (upd H2 b2 (.row true 0 (rowsC NZ.cells [r.ns, r.rs, r.ls]) 0)) (some ⟨b2, 0, none⟩) 3 4 (rowsC NZ.cells [r.ns, r.rs, r.ls]) := SlA.row (upd_same _ _ _) (Nat.le_refl _) rfl (by simp [rowsC, NZ.cells]) (by simp [rowsC, NZ.cells])
  refine (counts_c _ 3 3 [r.ns, r.rs, r.ls] _ hsl (by decide)).mono ?_
  rintro v H3 ⟨rfl, hle3⟩
  have e3 : [r.ns, r.rs, r.ls].all NZ.ok = (r.ns.ok && r.rs.ok && r.ls.ok) := by simp [Bool.and_assoc]
  rw [e3]
  simp (disch := first | omega | assumption | decide | (simp <;> omega) | fail) [facts, ]
  exact ⟨_, Heap.le_refl _, Heap.le_trans hle (Heap.le_trans (le_upd _ hb2) hle3)⟩
theorem rightR_c (r : RZ) (H : Heap) (hp : r.pan.size ≤ 140737488351232) : ECalls Tryz.prog 32 #[.agg #[.int .i64 r.kind, .int .u16 r.t, .int .u32 r.s, .string r.pan, .int .i64 r.am, .int .i64 r.ns.a, .int .i64 r.ns.b, .int .i64 r.ns.c, .int .i64 r.ns.d, .int .i64 r.rs.a, .int .i64 r.rs.b, .int .i64 r.rs.c, .int .i64 r.rs.d, .int .i64 r.ls.a, .int .i64 r.ls.b, .int .i64 r.ls.c, .int .i64 r.ls.d]] H fun v H' => v = .bool r.right ∧ Heap.le H H' := by
  refine ecalls_of_ewp (args := [_]) Tryz.func32 rfl rfl rfl (by simp [Tryz.ntmps32]) (by kernel_rfl) ?_
  simp (disch := first | omega | assumption | decide | (simp <;> omega) | fail) [facts, ]
  refine fresh_intro fun b hb => ?_
  have hle := le_upd (.row true 0 [.int .i64 r.kind, .int .u16 r.t, .int .u32 r.s, .string r.pan, .int .i64 r.am, .int .i64 r.ns.a, .int .i64 r.ns.b, .int .i64 r.ns.c, .int .i64 r.ns.d, .int .i64 r.rs.a, .int .i64 r.rs.b, .int .i64 r.rs.c, .int .i64 r.rs.d, .int .i64 r.ls.a, .int .i64 r.ls.b, .int .i64 r.ls.c, .int .i64 r.ls.d] 0) hb
  have hrow := upd_same H b (.row true 0 [.int .i64 r.kind, .int .u16 r.t, .int .u32 r.s, .string r.pan, .int .i64 r.am, .int .i64 r.ns.a, .int .i64 r.ns.b, .int .i64 r.ns.c, .int .i64 r.ns.d, .int .i64 r.rs.a, .int .i64 r.rs.b, .int .i64 r.rs.c, .int .i64 r.rs.d, .int .i64 r.ls.a, .int .i64 r.ls.b, .int .i64 r.ls.c, .int .i64 r.ls.d] 0)
  generalize upd H b (.row true 0 [.int .i64 r.kind, .int .u16 r.t, .int .u32 r.s, .string r.pan, .int .i64 r.am, .int .i64 r.ns.a, .int .i64 r.ns.b, .int .i64 r.ns.c, .int .i64 r.ns.d, .int .i64 r.rs.a, .int .i64 r.rs.b, .int .i64 r.rs.c, .int .i64 r.rs.d, .int .i64 r.ls.a, .int .i64 r.ls.b, .int .i64 r.ls.c, .int .i64 r.ls.d] 0) = H1 at *
  by_cases h1 : 1 ≤ r.kind
  case neg =>
    have hno : r.right = false := by simp [RZ.right, h1]
    rw [hno]
    simp (disch := first | omega | assumption | decide | (simp <;> omega) | fail) [facts, hrow, h1]
    exact ⟨_, Heap.le_refl _, hle⟩
  by_cases h2 : r.kind < 10
  case neg =>
    have hno : r.right = false := by simp [RZ.right, h2]
    rw [hno]
    simp (disch := first | omega | assumption | decide | (simp <;> omega) | fail) [facts, hrow, h1, h2]
    exact ⟨_, Heap.le_refl _, hle⟩
  by_cases h3 : r.pan.size ≤ 19
  case neg =>
    have h3I : ¬ (r.pan.size : Int) ≤ 19 := by omega
    have hno : r.right = false := by simp [RZ.right, h3]
    rw [hno]
    simp (disch := first | omega | assumption | decide | (simp <;> omega) | fail) [facts, hrow, h1, h2, h3I]
    exact ⟨_, Heap.le_refl _, hle⟩
  have h3I : (r.pan.size : Int) ≤ 19 := by omega
  simp (disch := first | omega | assumption | decide | (simp <;> omega) | fail) [facts, hrow, h1, h2, h3I]
  refine (digitsR_c r.pan H1 hp).mono ?_
  rintro v H2 ⟨rfl, rfl⟩
  by_cases h4 : allD r.pan = true
  case neg =>
    have h4' : allD r.pan = false := by simpa using h4
    have hno : r.right = false := by simp [RZ.right, h4']
    rw [hno]
    simp (disch := first | omega | assumption | decide | (simp <;> omega) | fail) [facts, hrow, h4']
    exact ⟨_, Heap.le_refl _, hle⟩
  by_cases h5 : 0 ≤ r.am
  case neg =>
    have hno : r.right = false := by simp [RZ.right, h5]
    rw [hno]
    simp (disch := first | omega | assumption | decide | (simp <;> omega) | fail) [facts, hrow, h4, h5]
    exact ⟨_, Heap.le_refl _, hle⟩
  by_cases h6 : r.am ≤ 1000000
  case neg =>
    have hno : r.right = false := by simp [RZ.right, h6]
    rw [hno]
    simp (disch := first | omega | assumption | decide | (simp <;> omega) | fail) [facts, hrow, h4, h5, h6]
    exact ⟨_, Heap.le_refl _, hle⟩
  have hyes : r.right = (r.ns.ok && r.rs.ok && r.ls.ok) := by simp [RZ.right, h1, h2, h3, h4, h5, h6]
  rw [hyes]
  simp (disch := first | omega | assumption | decide | (simp <;> omega) | fail) [facts, hrow, h4, h5, h6]
  refine (few_c r.ns H2).mono ?_
  rintro v H3 ⟨rfl, hle3⟩
  have hrow3 := hle3 _ _ hrow
  cases hn : r.ns.ok with
  | false =>
    simp (disch := first | omega | assumption | decide | (simp <;> omega) | fail) [facts, hrow3]
    exact ⟨_, Heap.le_refl _, Heap.le_trans hle hle3⟩
  | true =>
    simp (disch := first | omega | assumption | decide | (simp <;> omega) | fail) [facts, hrow3]
    refine (few_c r.rs H3).mono ?_
    rintro v H4 ⟨rfl, hle4⟩
    have hrow4 := hle4 _ _ hrow3
    cases hr : r.rs.ok with
    | false =>
      simp (disch := first | omega | assumption | decide | (simp <;> omega) | fail) [facts, hrow4]
      exact ⟨_, Heap.le_refl _, Heap.le_trans hle (Heap.le_trans hle3 hle4)⟩
    | true =>
      simp (disch := first | omega | assumption | decide | (simp <;> omega) | fail) [facts, hrow4]
      refine (few_c r.ls H4).mono ?_
      rintro v H5 ⟨rfl, hle5⟩
      simp (disch := first | omega | assumption | decide | (simp <;> omega) | fail) [facts, ]
      exact ⟨_, Heap.le_refl _, Heap.le_trans hle (Heap.le_trans hle3 (Heap.le_trans hle4 hle5))⟩
end Go.Proofs.YthaggpicjpkjiaaGreat.GL

namespace Go.Proofs.YthaggpicjpkjiaaGreat.GL
open Go Go.RowKit
set_option maxRecDepth 10000
set_option pp.deepTerms.threshold 8
set_option pp.maxSteps 3000
set_option linter.unusedSimpArgs false
set_option linter.unusedVariables false

theorem mkS_sz (l : List UInt8) : (mkS l).size = l.length := by simp [mkS, ByteArray.size]
theorem le_updN {D H : Heap} {b : Nat} (h : Heap.le D H) (hb : D b = none) (o : GObj) : Heap.le D (upd H b o) := fun i x e => by rw [upd_ne _ _ (ne_of_fresh hb e)]; exact h i x e
def zeroN : NZ := ⟨0, 0, 0, 0⟩
structure RZ.wf (r : RZ) : Prop where
  t : 0 ≤ r.t ∧ r.t ≤ 65535
  s : 0 ≤ r.s ∧ r.s ≤ 4294967295
theorem rep13 : rep 13 (.int .i64 0) = [.int .i64 0, .int .i64 0, .int .i64 0, .int .i64 0, .int .i64 0, .int .i64 0, .int .i64 0, .int .i64 0, .int .i64 0, .int .i64 0, .int .i64 0, .int .i64 0, .int .i64 0] := rfl
attribute [simp] rep13
def i64In (v : Int) : Prop := -9223372036854775808 ≤ v ∧ v ≤ 9223372036854775807
theorem rep16 : rep 16 (.int .i64 0) = [.int .i64 0, .int .i64 0, .int .i64 0, .int .i64 0, .int .i64 0, .int .i64 0, .int .i64 0, .int .i64 0, .int .i64 0, .int .i64 0, .int .i64 0, .int .i64 0, .int .i64 0, .int .i64 0, .int .i64 0, .int .i64 0] := rfl
attribute [simp] rep16
def panL (k : Nat) : List UInt8 := if k = 0 then [52, 48, 48, 48, 49, 50, 51, 52, 49, 50, 51, 52, 49, 50, 51, 52] else if k = 1 then [53, 49] else if k = 2 then [57] else [54, 48, 49, 49, 48, 48, 48, 57, 57, 48, 49, 51, 57, 52, 50, 52]
def panS (k : Nat) : ByteArray := mkS (panL (k % 4))
theorem pan_c (k : Nat) (hk : k < 256) (H : Heap) : ECalls Tryz.prog 21 #[.int .u8 k] H fun v H' => v = .string (panS k) ∧ Heap.le H H' := by
  refine ecalls_of_ewp (args := [_]) Tryz.func21 rfl rfl rfl (by simp [Tryz.ntmps21]) (by kernel_rfl) ?_
  obtain ⟨q, hq⟩ : ∃ q : Nat, q = k % 4 := ⟨_, rfl⟩
  have hqI : (k : Int) % 4 = (q : Int) := by omega
  have hq4 : q < 4 := by omega
  unfold panS
  rw [← hq]
  simp (disch := first | omega | assumption | decide | (simp <;> omega) | fail) [facts, ]
  refine fresh_intro fun b hb => ?_
  have hcs : q = 0 ∨ q = 1 ∨ q = 2 ∨ q = 3 := by omega
  rcases hcs with rfl | rfl | rfl | rfl
  all_goals
    simp (disch := first | omega | assumption | decide | (simp <;> omega) | fail) [facts, hqI]
    exact ⟨_, Heap.le_refl _, rfl, le_upd _ hb⟩
def recS (kind k stan amount : Nat) : RZ :=
  ⟨(kind % 9 + 1 : Nat), (k % 3 : Nat), (stan % 4 + 1 : Nat), if kind % 9 = 0 then panS k else ByteArray.empty, (amount % 5000 : Nat),
   if kind % 9 = 4 ∨ kind % 9 = 5 then ⟨(k % 4 : Nat), (k / 4 % 4 : Nat), 0, 0⟩ else if kind % 9 = 7 then ⟨(k / 3 : Nat), (stan % 8 : Nat), 0, 0⟩ else zeroN,
   if kind % 9 = 4 ∨ kind % 9 = 5 then ⟨(k / 16 % 2 : Nat), 0, 0, 0⟩ else zeroN,
   if kind % 9 = 7 then ⟨(k : Nat), (k / 2 : Nat), 10000, (stan : Nat)⟩ else zeroN⟩
theorem rec_c (kind k stan amount : Nat) (h1 : kind < 256) (h2 : k < 256) (h3 : stan < 256) (h4 : amount < 65536) (H : Heap) (r : RZ) (hr : r = recS kind k stan amount) :
    ECalls Tryz.prog 31 #[.int .u8 kind, .int .u8 k, .int .u8 stan, .int .u16 amount] H fun v H' => v = .agg #[.int .i64 r.kind, .int .u16 r.t, .int .u32 r.s, .string r.pan, .int .i64 r.am, .int .i64 r.ns.a, .int .i64 r.ns.b, .int .i64 r.ns.c, .int .i64 r.ns.d, .int .i64 r.rs.a, .int .i64 r.rs.b, .int .i64 r.rs.c, .int .i64 r.rs.d, .int .i64 r.ls.a, .int .i64 r.ls.b, .int .i64 r.ls.c, .int .i64 r.ls.d] ∧ Heap.le H H' := by
  refine ecalls_of_ewp (args := [_, _, _, _]) Tryz.func31 rfl rfl rfl (by simp [Tryz.ntmps31]) (by kernel_rfl) ?_
  obtain ⟨kq, hkq⟩ : ∃ q : Nat, q = kind % 9 := ⟨_, rfl⟩
  have e1 : (kind : Int) % 9 = (kq : Int) := by omega
  obtain ⟨tt, htt⟩ : ∃ q : Nat, q = k % 3 := ⟨_, rfl⟩
  have e2 : (k : Int) % 3 = (tt : Int) := by omega
  obtain ⟨sq, hsq⟩ : ∃ q : Nat, q = stan % 4 := ⟨_, rfl⟩
  have e3 : (stan : Int) % 4 = (sq : Int) := by omega
  obtain ⟨am, ham⟩ : ∃ q : Nat, q = amount % 5000 := ⟨_, rfl⟩
  have e4 : (amount : Int) % 5000 = (am : Int) := by omega
  unfold recS at hr
  rw [← hkq, ← htt, ← hsq, ← ham] at hr
  simp (disch := first | omega | assumption | decide | (simp <;> omega) | fail) [facts, ]
  refine fresh_intro fun b8 hb8 => ?_
  simp (disch := first | omega | assumption | decide | (simp <;> omega) | fail) [facts, e1, e2, e3, e4]
  refine fresh_intro fun b9 hb9 => ?_
  have r8 := upd_other (o := .row true 0 [.int .i64 0, .int .u16 0, .int .u32 0, .string ByteArray.empty, .int .i64 0, .int .i64 0, .int .i64 0, .int .i64 0, .int .i64 0, .int .i64 0, .int .i64 0, .int .i64 0, .int .i64 0, .int .i64 0, .int .i64 0, .int .i64 0, .int .i64 0] 0) hb9 (upd_same H b8 (.row true 0 [.int .i64 0, .int .u16 0, .int .u32 0, .string ByteArray.empty, .int .i64 0, .int .i64 0, .int .i64 0, .int .i64 0, .int .i64 0, .int .i64 0, .int .i64 0, .int .i64 0, .int .i64 0, .int .i64 0, .int .i64 0, .int .i64 0, .int .i64 0] 0))
  have h89 : b8 ≠ b9 := ne_of_fresh hb9 (upd_same H b8 (.row true 0 [.int .i64 0, .int .u16 0, .int .u32 0, .string ByteArray.empty, .int .i64 0, .int .i64 0, .int .i64 0, .int .i64 0, .int .i64 0, .int .i64 0, .int .i64 0, .int .i64 0, .int .i64 0, .int .i64 0, .int .i64 0, .int .i64 0, .int .i64 0] 0))
  have hl9 := Heap.le_trans (le_upd (.row true 0 [.int .i64 0, .int .u16 0, .int .u32 0, .string ByteArray.empty, .int .i64 0, .int .i64 0, .int .i64 0, .int .i64 0, .int .i64 0, .int .i64 0, .int .i64 0, .int .i64 0, .int .i64 0, .int .i64 0, .int .i64 0, .int .i64 0, .int .i64 0] 0) hb8) (le_upd (.row true 0 [.int .i64 0, .int .u16 0, .int .u32 0, .string ByteArray.empty, .int .i64 0, .int .i64 0, .int .i64 0, .int .i64 0, .int .i64 0, .int .i64 0, .int .i64 0, .int .i64 0, .int .i64 0, .int .i64 0, .int .i64 0, .int .i64 0, .int .i64 0] 0) hb9)
  have hb9' : H b9 = none := le_of_none (le_upd (.row true 0 [.int .i64 0, .int .u16 0, .int .u32 0, .string ByteArray.empty, .int .i64 0, .int .i64 0, .int .i64 0, .int .i64 0, .int .i64 0, .int .i64 0, .int .i64 0, .int .i64 0, .int .i64 0, .int .i64 0, .int .i64 0, .int .i64 0, .int .i64 0] 0) hb8) hb9
  simp (disch := first | omega | assumption | decide | (simp <;> omega) | fail) [facts, upd_upd]
  have r9 := upd_same (upd H b8 (.row true 0 [.int .i64 0, .int .u16 0, .int .u32 0, .string ByteArray.empty, .int .i64 0, .int .i64 0, .int .i64 0, .int .i64 0, .int .i64 0, .int .i64 0, .int .i64 0, .int .i64 0, .int .i64 0, .int .i64 0, .int .i64 0, .int .i64 0, .int .i64 0] 0)) b9 (.row true 0 [.int .i64 ((kq : Int) + 1), .int .u16 tt, .int .u32 ((sq : Int) + 1), .string ByteArray.empty, .int .i64 am, .int .i64 0, .int .i64 0, .int .i64 0, .int .i64 0, .int .i64 0, .int .i64 0, .int .i64 0, .int .i64 0, .int .i64 0, .int .i64 0, .int .i64 0, .int .i64 0] 0)
  have r8' : upd (upd H b8 (.row true 0 [.int .i64 0, .int .u16 0, .int .u32 0, .string ByteArray.empty, .int .i64 0, .int .i64 0, .int .i64 0, .int .i64 0, .int .i64 0, .int .i64 0, .int .i64 0, .int .i64 0, .int .i64 0, .int .i64 0, .int .i64 0, .int .i64 0, .int .i64 0] 0)) b9 (.row true 0 [.int .i64 ((kq : Int) + 1), .int .u16 tt, .int .u32 ((sq : Int) + 1), .string ByteArray.empty, .int .i64 am, .int .i64 0, .int .i64 0, .int .i64 0, .int .i64 0, .int .i64 0, .int .i64 0, .int .i64 0, .int .i64 0, .int .i64 0, .int .i64 0, .int .i64 0, .int .i64 0] 0) b8 = _ := (upd_ne _ _ h89).trans (upd_same H b8 (.row true 0 [.int .i64 0, .int .u16 0, .int .u32 0, .string ByteArray.empty, .int .i64 0, .int .i64 0, .int .i64 0, .int .i64 0, .int .i64 0, .int .i64 0, .int .i64 0, .int .i64 0, .int .i64 0, .int .i64 0, .int .i64 0, .int .i64 0, .int .i64 0] 0))
  have hl9' : Heap.le H (upd (upd H b8 (.row true 0 [.int .i64 0, .int .u16 0, .int .u32 0, .string ByteArray.empty, .int .i64 0, .int .i64 0, .int .i64 0, .int .i64 0, .int .i64 0, .int .i64 0, .int .i64 0, .int .i64 0, .int .i64 0, .int .i64 0, .int .i64 0, .int .i64 0, .int .i64 0] 0)) b9 (.row true 0 [.int .i64 ((kq : Int) + 1), .int .u16 tt, .int .u32 ((sq : Int) + 1), .string ByteArray.empty, .int .i64 am, .int .i64 0, .int .i64 0, .int .i64 0, .int .i64 0, .int .i64 0, .int .i64 0, .int .i64 0, .int .i64 0, .int .i64 0, .int .i64 0, .int .i64 0, .int .i64 0] 0)) := le_updN (le_upd _ hb8) hb9' _
  clear r8 hl9
  generalize upd (upd H b8 (.row true 0 [.int .i64 0, .int .u16 0, .int .u32 0, .string ByteArray.empty, .int .i64 0, .int .i64 0, .int .i64 0, .int .i64 0, .int .i64 0, .int .i64 0, .int .i64 0, .int .i64 0, .int .i64 0, .int .i64 0, .int .i64 0, .int .i64 0, .int .i64 0] 0)) b9 (.row true 0 [.int .i64 ((kq : Int) + 1), .int .u16 tt, .int .u32 ((sq : Int) + 1), .string ByteArray.empty, .int .i64 am, .int .i64 0, .int .i64 0, .int .i64 0, .int .i64 0, .int .i64 0, .int .i64 0, .int .i64 0, .int .i64 0, .int .i64 0, .int .i64 0, .int .i64 0, .int .i64 0] 0) = H9 at *
  obtain ⟨q1, hq1⟩ : ∃ q : Nat, q = k % 4 := ⟨_, rfl⟩
  obtain ⟨q2, hq2⟩ : ∃ q : Nat, q = k / 4 % 4 := ⟨_, rfl⟩
  obtain ⟨q3, hq3⟩ : ∃ q : Nat, q = k / 16 % 2 := ⟨_, rfl⟩
  obtain ⟨q4, hq4⟩ : ∃ q : Nat, q = k / 3 := ⟨_, rfl⟩
  obtain ⟨q5, hq5⟩ : ∃ q : Nat, q = stan % 8 := ⟨_, rfl⟩
  obtain ⟨q6, hq6⟩ : ∃ q : Nat, q = k / 2 := ⟨_, rfl⟩
  have f1 : (k : Int) % 4 = (q1 : Int) := by omega
  have f2 : (k : Int) / 4 % 4 = (q2 : Int) := by omega
  have f3 : (k : Int) / 16 % 2 = (q3 : Int) := by omega
  have f4 : (k : Int) / 3 = (q4 : Int) := by omega
  have f5 : (stan : Int) % 8 = (q5 : Int) := by omega
  have f6 : (k : Int) / 2 = (q6 : Int) := by omega
  rw [← hq1, ← hq2, ← hq3, ← hq4, ← hq5, ← hq6] at hr
  have hcs : kq = 0 ∨ kq = 1 ∨ kq = 2 ∨ kq = 3 ∨ kq = 4 ∨ kq = 5 ∨ kq = 6 ∨ kq = 7 ∨ kq = 8 := by omega
  rcases hcs with rfl | rfl | rfl | rfl | rfl | rfl | rfl | rfl | rfl
  · simp [zeroN] at hr
    subst hr
    simp (disch := first | omega | assumption | decide | (simp <;> omega) | fail) [facts, ]
    refine (pan_c k h2 H9).mono ?_
    rintro v H10 ⟨rfl, hl10⟩
    have r9' := hl10 _ _ r9
    have r8'' := hl10 _ _ r8'
    have hlA := Heap.le_trans hl9' hl10
    simp (disch := first | omega | assumption | decide | (simp <;> omega) | fail) [facts, r9']
    have r8c : upd H10 b9 (.row true 0 [.int .i64 1, .int .u16 tt, .int .u32 ((sq : Int) + 1), .string (panS k), .int .i64 am, .int .i64 0, .int .i64 0, .int .i64 0, .int .i64 0, .int .i64 0, .int .i64 0, .int .i64 0, .int .i64 0, .int .i64 0, .int .i64 0, .int .i64 0, .int .i64 0] 0) b8 = _ := (upd_ne _ _ h89).trans r8''
    simp (disch := first | omega | assumption | decide | (simp <;> omega) | fail) [facts, r8c]
    exact ⟨_, Heap.le_refl _, le_updN (le_updN hlA hb9' _) hb8 _⟩
  all_goals
    simp [zeroN] at hr
    subst hr
  all_goals
    have h89u : ∀ o, upd H9 b9 o b8 = some (.row true 0 [.int .i64 0, .int .u16 0, .int .u32 0, .string ByteArray.empty, .int .i64 0, .int .i64 0, .int .i64 0, .int .i64 0, .int .i64 0, .int .i64 0, .int .i64 0, .int .i64 0, .int .i64 0, .int .i64 0, .int .i64 0, .int .i64 0, .int .i64 0] 0) := fun o => (upd_ne _ _ h89).trans r8'
    simp (disch := first | omega | assumption | decide | (simp <;> omega) | fail) [facts, r9, r8', h89u, e1, e2, e3, e4, f1, f2, f3, f4, f5, f6, upd_upd]
    exact ⟨_, Heap.le_refl _, by first | exact le_updN hl9' hb8 _ | exact le_updN (le_updN hl9' hb9' _) hb8 _⟩
theorem panL_len : ∀ k, k < 4 → (panL k).length ≤ 16 ∧ (panL k).all isD = true ∧ 0 < (panL k).length := by
  intro k hk
  have : k = 0 ∨ k = 1 ∨ k = 2 ∨ k = 3 := by omega
  rcases this with rfl | rfl | rfl | rfl <;> decide
theorem panS_ok (k : Nat) : (panS k).size ≤ 16 ∧ allD (panS k) = true ∧ 0 < (panS k).size := by
  have := panL_len (k % 4) (Nat.mod_lt _ (by decide))
  unfold panS
  rw [mkS_sz]
  refine ⟨this.1, ?_, this.2.2⟩
  unfold allD
  rw [mkS_list]; exact this.2.1
theorem nz_ok {a b c d : Int} (h1 : 0 ≤ a ∧ a ≤ 10000) (h2 : 0 ≤ b ∧ b ≤ 10000) (h3 : 0 ≤ c ∧ c ≤ 10000) (h4 : 0 ≤ d ∧ d ≤ 10000) : (NZ.mk a b c d).ok = true := by
  simp [NZ.ok, NZ.l, inC, h1, h2, h3, h4]
/-- Such a record may be. -/
theorem recS_right (kind k stan amount : Nat) (h2 : k < 256) (h3 : stan < 256) : (recS kind k stan amount).right = true ∧ (recS kind k stan amount).wf := by
  have hp := panS_ok k
  refine ⟨?_, ⟨⟨?_, ?_⟩, ⟨?_, ?_⟩⟩⟩
  · have p1 : (recS kind k stan amount).pan.size ≤ 16 ∧ allD (recS kind k stan amount).pan = true := by
      unfold recS
      simp only
      split
      · exact ⟨hp.1, hp.2.1⟩
      · exact ⟨by decide, by decide⟩
    have p2 : (recS kind k stan amount).ns.ok = true := by
      unfold recS
      simp only
      split
      · exact nz_ok (by omega) (by omega) (by omega) (by omega)
      · split
        · exact nz_ok (by omega) (by omega) (by omega) (by omega)
        · decide
    have p3 : (recS kind k stan amount).rs.ok = true := by
      unfold recS
      simp only
      split
      · exact nz_ok (by omega) (by omega) (by omega) (by omega)
      · decide
    have p4 : (recS kind k stan amount).ls.ok = true := by
      unfold recS
      simp only
      split
      · exact nz_ok (by omega) (by omega) (by omega) (by omega)
      · decide
    have k1 : (recS kind k stan amount).kind = (kind % 9 + 1 : Nat) := rfl
    have k2 : (recS kind k stan amount).am = (amount % 5000 : Nat) := rfl
    simp only [RZ.right, p1.2, p2, p3, p4, k1, k2, Bool.and_true, Bool.and_eq_true, decide_eq_true_eq]
    omega
  · show (0 : Int) ≤ ((k % 3 : Nat) : Int)
    omega
  · show ((k % 3 : Nat) : Int) ≤ 65535
    omega
  · show (0 : Int) ≤ ((stan % 4 + 1 : Nat) : Int)
    omega
  · show ((stan % 4 + 1 : Nat) : Int) ≤ 4294967295
    omega
end Go.Proofs.YthaggpicjpkjiaaGreat.GL
