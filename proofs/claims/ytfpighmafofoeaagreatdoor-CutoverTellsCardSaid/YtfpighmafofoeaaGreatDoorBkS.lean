/- Layer 4: records; digits; counts.; Layer 4: which records may be.; Layer 4: the statements' records.; Layer 18: the small functions on numbers of notes.; Layer 18: a set of cassettes: what its functions do with it.; Layer 18: notes given; what was given is worth.; Layer 18: the reference's set of cassettes.; Layer 18: the walk of SetPlays. -/
import Derived.Test.YtfpighmafofoeaaGreatDoorGlU
import Derived.Test.YtfpighmafofoeaaGreatDoorGlT
import Derived.Test.YtfpighmafofoeaaGreatDoorGlS
import Derived.Test.YtfpighmafofoeaaGreatDoorGlX
import Derived.Test.YtfpighmafofoeaaGreatDoorGlY
import Derived.Test.YtfpighmafofoeaaGreatDoorGlO
namespace Go.Proofs.YtfpighmafofoeaaGreatDoor.GL
open Go Go.RowKit
set_option maxRecDepth 10000
set_option pp.deepTerms.threshold 8
set_option pp.maxSteps 3000
set_option linter.unusedSimpArgs false
set_option linter.unusedVariables false

structure NZ where
  a : Int
  b : Int
  c : Int
  d : Int
  deriving DecidableEq
def NZ.l (x : NZ) : List Int := [x.a, x.b, x.c, x.d]
def NZ.cells (x : NZ) : List Value := [.int .i64 x.a, .int .i64 x.b, .int .i64 x.c, .int .i64 x.d]
theorem n4 (x : NZ) : x.cells.length = 4 := rfl
def inC (z : Int) : Bool := decide (0 ≤ z) && decide (z ≤ 10000)
def NZ.ok (x : NZ) : Bool := x.l.all inC
structure RZ where
  kind : Int
  t : Int
  s : Int
  pan : ByteArray
  am : Int
  ns : NZ
  rs : NZ
  ls : NZ
  deriving DecidableEq
def isD (c : UInt8) : Bool := decide (48 ≤ c.toNat) && decide (c.toNat ≤ 57)
def allD (s : ByteArray) : Bool := s.data.toList.all isD
def RZ.right (r : RZ) : Bool := decide (1 ≤ r.kind) && decide (r.kind < 10) && decide (r.pan.size ≤ 19) && allD r.pan && decide (0 ≤ r.am) && decide (r.am ≤ 1000000) && r.ns.ok && r.rs.ok && r.ls.ok
theorem all_step {α : Type} {p : α → Bool} {l : List α} {k : Nat} {x : α} (hx : l[k]? = some x) (h : (l.take k).all p = true) (hp : p x = true) : (l.take (k + 1)).all p = true := by
  rw [List.take_add_one, hx, List.all_append, h]; simp [hp]
theorem all_false {α : Type} {p : α → Bool} {l : List α} {k : Nat} {x : α} (hx : l[k]? = some x) (hp : p x = false) : l.all p = false := by
  cases h : l.all p with
  | false => rfl
  | true => rw [List.all_eq_true.1 h x (List.mem_of_getElem? hx)] at hp; cases hp
def digInv (H : Heap) (s : ByteArray) (st : St) : Prop :=
  ∃ k : Nat, k ≤ s.size ∧ st.env 0 = .string s ∧ st.env 5 = .int .i64 s.size ∧ st.env 6 = .int .i64 k ∧ st.heap = H ∧ (s.data.toList.take k).all isD = true
theorem digits_c (s : ByteArray) (H : Heap) (hn : s.size ≤ 140737488351232) : ECalls Tryz.prog 45 #[.string s] H fun r H' => r = .bool (allD s) ∧ H' = H := by
  refine ecalls_of_ewp (args := [_]) Tryz.func45 rfl rfl rfl (by simp [Tryz.ntmps45]) (by kernel_rfl) ?_
  have hsz : s.size = s.data.size := rfl
  simp (disch := first | omega | assumption | decide | (simp <;> omega) | fail) [facts, ]
  refine w_loop (digInv H s) (fun st => s.size - (intOf (st.env 6)).toNat) ?_ ?_
  · exact ⟨0, Nat.zero_le _, by simp, by simp, by simp, rfl, by simp⟩
  rintro ⟨env, G⟩ ⟨k, hk, e0, e5, e6, hG, hall⟩
  simp only at e0 e5 e6 hG
  subst hG
  by_cases hlt : k < s.size
  · have hltI : (k : Int) < (s.size : Int) := by omega
    obtain ⟨x, hx⟩ : ∃ x, s.data.toList[k]? = some x := ⟨_, List.getElem?_eq_getElem (by simpa using hlt)⟩
    have hx2 : s.data[k]? = some x := by rw [← Array.getElem?_toList]; exact hx
    have hx3 : s.data[k] = x := (Array.getElem?_eq_some_iff.1 hx2).2
    by_cases h1 : x.toNat < 48
    · have h1I : (x.toNat : Int) < 48 := by omega
      have hno : allD s = false := all_false hx (by unfold isD; simp; omega)
      simp (disch := first | omega | assumption | decide | (simp <;> omega) | fail) [facts, e0, e5, e6, hltI, hx2, hx3, h1I, hno]
    · have h1I : ¬ (x.toNat : Int) < 48 := by omega
      by_cases h2 : 57 < x.toNat
      · have h2I : (57 : Int) < (x.toNat : Int) := by omega
        have hno : allD s = false := all_false hx (by unfold isD; simp; omega)
        simp (disch := first | omega | assumption | decide | (simp <;> omega) | fail) [facts, e0, e5, e6, hltI, hx2, hx3, h1I, h2I, hno]
      · have h2I : ¬ (57 : Int) < (x.toNat : Int) := by omega
        simp (disch := first | omega | assumption | decide | (simp <;> omega) | fail) [facts, e0, e5, e6, hltI, hx2, hx3, h1I, h2I]
        exact ⟨_, Heap.le_refl _, ⟨k + 1, by omega, by simp [e0], by simp [e5], by simp, rfl, all_step hx hall (by unfold isD; simp; omega)⟩, by simp [intOf, e6]; omega⟩
  · have hkn : k = s.size := by omega
    have hall' : allD s = true := by
      unfold allD
      rw [List.take_of_length_le (by simp; omega)] at hall; exact hall
    simp (disch := first | omega | assumption | decide | (simp <;> omega) | fail) [facts, e0, e5, e6, hkn, hall']
def digRInv (H : Heap) (s : ByteArray) (st : St) : Prop :=
  ∃ k : Nat, k ≤ s.size ∧ st.env 0 = .string s ∧ st.env 3 = .int .i64 k ∧ st.heap = H ∧ (s.data.toList.take k).all isD = true
theorem digitsR_c (s : ByteArray) (H : Heap) (hn : s.size ≤ 140737488351232) : ECalls Tryz.prog 51 #[.string s] H fun r H' => r = .bool (allD s) ∧ H' = H := by
  refine ecalls_of_ewp (args := [_]) Tryz.func51 rfl rfl rfl (by simp [Tryz.ntmps51]) (by kernel_rfl) ?_
  have hsz : s.size = s.data.size := rfl
  simp (disch := first | omega | assumption | decide | (simp <;> omega) | fail) [facts, ]
  refine w_loop (digRInv H s) (fun st => s.size - (intOf (st.env 3)).toNat) ?_ ?_
  · exact ⟨0, Nat.zero_le _, by simp, by simp, rfl, by simp⟩
  rintro ⟨env, G⟩ ⟨k, hk, e0, e3, hG, hall⟩
  simp only at e0 e3 hG
  subst hG
  by_cases hlt : k < s.size
  · have hltI : (k : Int) < (s.size : Int) := by omega
    obtain ⟨x, hx⟩ : ∃ x, s.data.toList[k]? = some x := ⟨_, List.getElem?_eq_getElem (by simpa using hlt)⟩
    have hx2 : s.data[k]? = some x := by rw [← Array.getElem?_toList]; exact hx
    have hx3 : s.data[k] = x := (Array.getElem?_eq_some_iff.1 hx2).2
    by_cases h1 : x.toNat < 48
    · have h1I : (x.toNat : Int) < 48 := by omega
      have hno : allD s = false := all_false hx (by unfold isD; simp; omega)
      simp (disch := first | omega | assumption | decide | (simp <;> omega) | fail) [facts, e0, e3, hltI, hx2, hx3, h1I, hno]
    · have h1I : ¬ (x.toNat : Int) < 48 := by omega
      by_cases h2 : 57 < x.toNat
      · have h2I : (57 : Int) < (x.toNat : Int) := by omega
        have hno : allD s = false := all_false hx (by unfold isD; simp; omega)
        simp (disch := first | omega | assumption | decide | (simp <;> omega) | fail) [facts, e0, e3, hltI, hx2, hx3, h1I, h2I, hno]
      · have h2I : ¬ (57 : Int) < (x.toNat : Int) := by omega
        simp (disch := first | omega | assumption | decide | (simp <;> omega) | fail) [facts, e0, e3, hltI, hx2, hx3, h1I, h2I]
        exact ⟨_, Heap.le_refl _, ⟨k + 1, by omega, by simp [e0], by simp, rfl, all_step hx hall (by unfold isD; simp; omega)⟩, by simp [intOf, e3]; omega⟩
  · have hkn : k = s.size := by omega
    have hall' : allD s = true := by
      unfold allD
      rw [List.take_of_length_le (by simp; omega)] at hall; exact hall
    simp (disch := first | omega | assumption | decide | (simp <;> omega) | fail) [facts, e0, e3, hkn, hall']
theorem NZ.at (x : NZ) {m : Nat} {z : Int} (h : x.l[m]? = some z) : [Value.int .i64 x.a, .int .i64 x.b, .int .i64 x.c, .int .i64 x.d][m]? = some (.int .i64 z) := by
  have : [Value.int .i64 x.a, .int .i64 x.b, .int .i64 x.c, .int .i64 x.d] = x.l.map (.int .i64) := rfl
  rw [this, List.getElem?_map, h]; rfl
def fewInv (H : Heap) (b : Nat) (x : NZ) (st : St) : Prop :=
  ∃ m : Nat, m ≤ 4 ∧ st.env 1 = .pointer (some ⟨b, 0, none⟩) ∧ st.env 3 = .int .i64 m ∧ st.heap = H ∧ (x.l.take m).all inC = true
theorem few_c (x : NZ) (H : Heap) : ECalls Tryz.prog 52 #[.agg #[.int .i64 x.a, .int .i64 x.b, .int .i64 x.c, .int .i64 x.d]] H fun r H' => r = .bool x.ok ∧ Heap.le H H' := by
  refine ecalls_of_ewp (args := [_]) Tryz.func52 rfl rfl rfl (by simp [Tryz.ntmps52]) (by kernel_rfl) ?_
  simp (disch := first | omega | assumption | decide | (simp <;> omega) | fail) [facts, ]
  refine fresh_intro fun b hb => ?_
  have hle := le_upd (.row true 0 [.int .i64 x.a, .int .i64 x.b, .int .i64 x.c, .int .i64 x.d] 0) hb
  have hrow := upd_same H b (.row true 0 [.int .i64 x.a, .int .i64 x.b, .int .i64 x.c, .int .i64 x.d] 0)
  generalize upd H b (.row true 0 [.int .i64 x.a, .int .i64 x.b, .int .i64 x.c, .int .i64 x.d] 0) = H1 at *
  simp (disch := first | omega | assumption | decide | (simp <;> omega) | fail) [facts, ]
  refine w_loop (fewInv H1 b x) (fun st => 4 - (intOf (st.env 3)).toNat) ?_ ?_
  · exact ⟨0, by decide, by simp, by simp, rfl, by simp⟩
  rintro ⟨env, G⟩ ⟨m, hm, e1, e3, hG, hall⟩
  simp only at e1 e3 hG
  subst hG
  by_cases hlt : m < 4
  · have hltI : (m : Int) < 4 := by omega
    obtain ⟨z, hz⟩ : ∃ z, x.l[m]? = some z := ⟨_, List.getElem?_eq_getElem (by simpa [NZ.l] using hlt)⟩
    have rz : rd1U (G b) m = some (.int .i64 z) := by
      rw [hrow, rd1U_row (Nat.zero_le _), Nat.sub_zero]; exact x.at hz
    by_cases h1 : z < 0
    · have hno : x.ok = false := all_false hz (by unfold inC; simp; omega)
      simp (disch := first | omega | assumption | decide | (simp <;> omega) | fail) [facts, e1, e3, hltI, rz, h1, hno]
      exact ⟨_, Heap.le_refl _, hle⟩
    · by_cases h2 : 10000 < z
      · have hno : x.ok = false := all_false hz (by unfold inC; simp; omega)
        simp (disch := first | omega | assumption | decide | (simp <;> omega) | fail) [facts, e1, e3, hltI, rz, h1, h2, hno]
        exact ⟨_, Heap.le_refl _, hle⟩
      · simp (disch := first | omega | assumption | decide | (simp <;> omega) | fail) [facts, e1, e3, hltI, rz, h1, h2]
        exact ⟨_, Heap.le_refl _, ⟨m + 1, by omega, by simp [e1], by simp, rfl, all_step hz hall (by unfold inC; simp; omega)⟩, by simp [intOf, e3]; omega⟩
  · have hm4 : m = 4 := by omega
    subst hm4
    have hok : x.ok = true := by unfold NZ.ok; exact hall
    simp (disch := first | omega | assumption | decide | (simp <;> omega) | fail) [facts, e1, e3, hok]
    exact ⟨_, Heap.le_refl _, hle⟩
end Go.Proofs.YtfpighmafofoeaaGreatDoor.GL

namespace Go.Proofs.YtfpighmafofoeaaGreatDoor.GL
open Go Go.RowKit
set_option maxRecDepth 10000
set_option pp.deepTerms.threshold 8
set_option pp.maxSteps 3000
set_option linter.unusedSimpArgs false
set_option linter.unusedVariables false

def cnInv (H : Heap) (a : Option Addr) (n c : Nat) (xs : List NZ) (st : St) : Prop :=
  ∃ k : Nat, k ≤ n ∧ st.env 7 = .slice a n c ∧ st.env 8 = .int .i64 n ∧ st.env 9 = .int .i64 k ∧ Heap.le H st.heap ∧ (xs.take k).all NZ.ok = true
def cn4Inv (H : Heap) (a : Option Addr) (n c k : Nat) (x : NZ) (st : St) : Prop :=
  ∃ m : Nat, m ≤ 4 ∧ st.env 7 = .slice a n c ∧ st.env 8 = .int .i64 n ∧ st.env 9 = .int .i64 k ∧ st.env 13 = .agg #[.int .i64 x.a, .int .i64 x.b, .int .i64 x.c, .int .i64 x.d] ∧ st.env 14 = .int .i64 m ∧ Heap.le H st.heap ∧ (x.l.take m).all inC = true
theorem counts_c (a : Option Addr) (n c : Nat) (xs : List NZ) (H : Heap) (h : SlA H a n 4 (rowsC NZ.cells xs)) (hn : n ≤ 100000) : ECalls Tryz.prog 47 #[.slice a n c] H fun r H' => r = .bool (xs.all NZ.ok) ∧ Heap.le H H' := by
  refine ecalls_of_ewp (args := [_]) Tryz.func47 rfl rfl rfl (by simp [Tryz.ntmps47]) (by kernel_rfl) ?_
  have hl : xs.length = n := h.els n4 (by decide)
  simp (disch := first | omega | assumption | decide | (simp <;> omega) | fail) [facts, ]
  refine w_loop (cnInv H a n c xs) (fun st => n - (intOf (st.env 9)).toNat) ?_ ?_
  · exact ⟨0, Nat.zero_le _, by simp, by simp, by simp, Heap.le_refl _, by simp⟩
  rintro ⟨env, G⟩ ⟨k, hk, e7, e8, e9, hle, hall⟩
  simp only at e7 e8 e9 hle
  by_cases hlt : k < n
  · have hltI : (k : Int) < (n : Int) := by omega
    obtain ⟨x, hx⟩ : ∃ x, xs[k]? = some x := ⟨_, List.getElem?_eq_getElem (by omega)⟩
    obtain ⟨ab, ao, rfl⟩ := h.lit (by omega)
    have rx : rdNU (G ab) (ao + k * 4) 4 = some [.int .i64 x.a, .int .i64 x.b, .int .i64 x.c, .int .i64 x.d] := (h.le hle).el n4 hx (j := 0) (r := 4) (by decide) (by decide)
    simp (disch := first | omega | assumption | decide | (simp <;> omega) | fail) [facts, e7, e8, e9, hltI, rx]
    refine fresh_intro fun b hb => ?_
    have hle2 := Heap.le_trans hle (le_upd (.row true 0 [.int .i64 x.a, .int .i64 x.b, .int .i64 x.c, .int .i64 x.d] 0) hb)
    simp (disch := first | omega | assumption | decide | (simp <;> omega) | fail) [facts, upd_upd, upd_same]
    refine w_loop (cn4Inv H (some ⟨ab, ao, none⟩) n c k x) (fun st => 4 - (intOf (st.env 14)).toNat) ?_ ?_
    · exact ⟨0, by decide, by simp [e7], by simp [e8], by simp [e9], by simp, by simp, hle2, by simp⟩
    clear e7 e8 e9 hle2
    rintro ⟨env2, G2⟩ ⟨m, hm, e7, e8, e9, e13, e14, hle2, hall2⟩
    simp only at e7 e8 e9 e13 e14 hle2
    by_cases hm4 : m < 4
    · have hm4I : (m : Int) < 4 := by omega
      obtain ⟨z, hz⟩ : ∃ z, x.l[m]? = some z := ⟨_, List.getElem?_eq_getElem (by simpa [NZ.l] using hm4)⟩
      have rz := x.at hz
      obtain ⟨hmm, rz2⟩ := List.getElem?_eq_some_iff.1 rz
      by_cases h1 : z < 0
      · have hno : xs.all NZ.ok = false := all_false hx (all_false hz (by unfold inC; simp; omega))
        simp (disch := first | omega | assumption | decide | (simp <;> omega) | fail) [facts, e7, e8, e9, e13, e14, hm4I, rz, rz2, h1, hno]
        exact ⟨_, Heap.le_refl _, hle2⟩
      · by_cases h2 : 10000 < z
        · have hno : xs.all NZ.ok = false := all_false hx (all_false hz (by unfold inC; simp; omega))
          simp (disch := first | omega | assumption | decide | (simp <;> omega) | fail) [facts, e7, e8, e9, e13, e14, hm4I, rz, rz2, h1, h2, hno]
          exact ⟨_, Heap.le_refl _, hle2⟩
        · simp (disch := first | omega | assumption | decide | (simp <;> omega) | fail) [facts, e7, e8, e9, e13, e14, hm4I, rz, rz2, h1, h2]
          exact ⟨_, Heap.le_refl _, ⟨m + 1, by omega, by simp [e7], by simp [e8], by simp [e9], by simp [e13], by simp, hle2, all_step hz hall2 (by unfold inC; simp; omega)⟩, by simp [intOf, e14]; omega⟩
    · have hm44 : m = 4 := by omega
      subst hm44
      simp (disch := first | omega | assumption | decide | (simp <;> omega) | fail) [facts, e7, e8, e9, e13, e14]
      exact ⟨_, Heap.le_refl _, ⟨k + 1, by omega, by simp [e7], by simp [e8], by simp, hle2, all_step hx hall hall2⟩, by simp [intOf, e9]; omega⟩
  · have hkn : k = n := by omega
    subst hkn
    rw [List.take_of_length_le (by omega)] at hall
    simp (disch := first | omega | assumption | decide | (simp <;> omega) | fail) [facts, e7, e8, e9, hall]
    exact ⟨_, Heap.le_refl _, hle⟩
theorem notes3 (x y z : NZ) : splice (splice (splice (zeros [.int .i64 0, .int .i64 0, .int .i64 0, .int .i64 0] 3) 0 [.int .i64 x.a, .int .i64 x.b, .int .i64 x.c, .int .i64 x.d]) 4 [.int .i64 y.a, .int .i64 y.b, .int .i64 y.c, .int .i64 y.d]) 8 [.int .i64 z.a, .int .i64 z.b, .int .i64 z.c, .int .i64 z.d] = rowsC NZ.cells [x, y, z] := rfl
theorem right_c (r : RZ) (H : Heap) (hp : r.pan.size ≤ 140737488351232) : ECalls Tryz.prog 24 #[.agg #[.int .i64 r.kind, .int .u16 r.t, .int .u32 r.s, .string r.pan, .int .i64 r.am, .int .i64 r.ns.a, .int .i64 r.ns.b, .int .i64 r.ns.c, .int .i64 r.ns.d, .int .i64 r.rs.a, .int .i64 r.rs.b, .int .i64 r.rs.c, .int .i64 r.rs.d, .int .i64 r.ls.a, .int .i64 r.ls.b, .int .i64 r.ls.c, .int .i64 r.ls.d]] H fun v H' => v = .bool r.right ∧ Heap.le H H' := by
  refine ecalls_of_ewp (args := [_]) Tryz.func24 rfl rfl rfl (by simp [Tryz.ntmps24]) (by kernel_rfl) ?_
  simp (disch := first | omega | assumption | decide | (simp <;> omega) | fail) [facts, ]
  refine fresh_intro fun b hb => ?_
  have hle := le_upd (.row true 0 [.int .i64 r.kind, .int .u16 r.t, .int .u32 r.s, .string r.pan, .int .i64 r.am, .int .i64 r.ns.a, .int .i64 r.ns.b, .int .i64 r.ns.c, .int .i64 r.ns.d, .int .i64 r.rs.a, .int .i64 r.rs.b, .int .i64 r.rs.c, .int .i64 r.rs.d, .int .i64 r.ls.a, .int .i64 r.ls.b, .int .i64 r.ls.c, .int .i64 r.ls.d] 0) hb
  have hrow := upd_same H b (.row true 0 [.int .i64 r.kind, .int .u16 r.t, .int .u32 r.s, .string r.pan, .int .i64 r.am, .int .i64 r.ns.a, .int .i64 r.ns.b, .int .i64 r.ns.c, .int .i64 r.ns.d, .int .i64 r.rs.a, .int .i64 r.rs.b, .int .i64 r.rs.c, .int .i64 r.rs.d, .int .i64 r.ls.a, .int .i64 r.ls.b, .int .i64 r.ls.c, .int .i64 r.ls.d] 0)
  generalize upd H b (.row true 0 [.int .i64 r.kind, .int .u16 r.t, .int .u32 r.s, .string r.pan, .int .i64 r.am, .int .i64 r.ns.a, .int .i64 r.ns.b, .int .i64 r.ns.c, .int .i64 r.ns.d, .int .i64 r.rs.a, .int .i64 r.rs.b, .int .i64 r.rs.c, .int .i64 r.rs.d, .int .i64 r.ls.a, .int .i64 r.ls.b, .int .i64 r.ls.c, .int .i64 r.ls.d] 0) = H1 at *
  by_cases h1 : 1 ≤ r.kind
  case neg =>
    have hno : r.right = false := by simp [RZ.right, h1]
    rw [hno]
    simp (disch := first | omega | assumption | decide | (simp <;> omega) | fail) [facts, hrow, h1]
    exact ⟨_, Heap.le_refl _, hle⟩
  by_cases h2 : r.kind < 10
  case neg =>
    have hno : r.right = false := by simp [RZ.right, h2]
    rw [hno]
    simp (disch := first | omega | assumption | decide | (simp <;> omega) | fail) [facts, hrow, h1, h2]
    exact ⟨_, Heap.le_refl _, hle⟩
  by_cases h3 : r.pan.size ≤ 19
  case neg =>
    have h3I : ¬ (r.pan.size : Int) ≤ 19 := by omega
    have hno : r.right = false := by simp [RZ.right, h3]
    rw [hno]
    simp (disch := first | omega | assumption | decide | (simp <;> omega) | fail) [facts, hrow, h1, h2, h3I]
    exact ⟨_, Heap.le_refl _, hle⟩
  have h3I : (r.pan.size : Int) ≤ 19 := by omega
  simp (disch := first | omega | assumption | decide | (simp <;> omega) | fail) [facts, hrow, h1, h2, h3I]
  refine (digits_c r.pan H1 hp).mono ?_
  rintro v H2 ⟨rfl, rfl⟩
  by_cases h4 : allD r.pan = true
  case neg =>
    have h4' : allD r.pan = false := by simpa using h4
    have hno : r.right = false := by simp [RZ.right, h4']
    rw [hno]
    simp (disch := first | omega | assumption | decide | (simp <;> omega) | fail) [facts, hrow, h4']
    exact ⟨_, Heap.le_refl _, hle⟩
  by_cases h5 : 0 ≤ r.am
  case neg =>
    have hno : r.right = false := by simp [RZ.right, h5]
    rw [hno]
    simp (disch := first | omega | assumption | decide | (simp <;> omega) | fail) [facts, hrow, h4, h5]
    exact ⟨_, Heap.le_refl _, hle⟩
  by_cases h6 : r.am ≤ 1000000
  case neg =>
    have hno : r.right = false := by simp [RZ.right, h6]
    rw [hno]
    simp (disch := first | omega | assumption | decide | (simp <;> omega) | fail) [facts, hrow, h4, h5, h6]
    exact ⟨_, Heap.le_refl _, hle⟩
  have hyes : r.right = (r.ns.ok && r.rs.ok && r.ls.ok) := by simp [RZ.right, h1, h2, h3, h4, h5, h6]
  rw [hyes]
  simp (disch := first | omega | assumption | decide | (simp <;> omega) | fail) [facts, hrow, h4, h5, h6]
  refine fresh_intro fun b2 hb2 => ?_
  simp (disch := first | omega | assumption | decide | (simp <;> omega) | fail) [facts, notes3 r.ns r.rs r.ls]
  have hsl : SlA (upd H2 b2 (.row true 0 (rowsC NZ.cells [r.ns, r.rs, r.ls]) 0)) (some ⟨b2, 0, none⟩) 3 4 (rowsC NZ.cells [r.ns, r.rs, r.ls]) := SlA.row (upd_same _ _ _) (Nat.le_refl _) rfl (by simp [rowsC, NZ.cells]) (by simp [rowsC, NZ.cells])
  refine (counts_c _ 3 3 [r.ns, r.rs, r.ls] _ hsl (by decide)).mono ?_
  rintro v H3 ⟨rfl, hle3⟩
  have e3 : [r.ns, r.rs, r.ls].all NZ.ok = (r.ns.ok && r.rs.ok && r.ls.ok) := by simp [Bool.and_assoc]
  rw [e3]
  simp (disch := first | omega | assumption | decide | (simp <;> omega) | fail) [facts, ]
  exact ⟨_, Heap.le_refl _, Heap.le_trans hle (Heap.le_trans (le_upd _ hb2) hle3)⟩
theorem rightR_c (r : RZ) (H : Heap) (hp : r.pan.size ≤ 140737488351232) : ECalls Tryz.prog 28 #[.agg #[.int .i64 r.kind, .int .u16 r.t, .int .u32 r.s, .string r.pan, .int .i64 r.am, .int .i64 r.ns.a, .int .i64 r.ns.b, .int .i64 r.ns.c, .int .i64 r.ns.d, .int .i64 r.rs.a, .int .i64 r.rs.b, .int .i64 r.rs.c, .int .i64 r.rs.d, .int .i64 r.ls.a, .int .i64 r.ls.b, .int .i64 r.ls.c, .int .i64 r.ls.d]] H fun v H' => v = .bool r.right ∧ Heap.le H H' := by
  refine ecalls_of_ewp (args := [_]) Tryz.func28 rfl rfl rfl (by simp [Tryz.ntmps28]) (by kernel_rfl) ?_
  simp (disch := first | omega | assumption | decide | (simp <;> omega) | fail) [facts, ]
  refine fresh_intro fun b hb => ?_
  have hle := le_upd (.row true 0 [.int .i64 r.kind, .int .u16 r.t, .int .u32 r.s, .string r.pan, .int .i64 r.am, .int .i64 r.ns.a, .int .i64 r.ns.b, .int .i64 r.ns.c, .int .i64 r.ns.d, .int .i64 r.rs.a, .int .i64 r.rs.b, .int .i64 r.rs.c, .int .i64 r.rs.d, .int .i64 r.ls.a, .int .i64 r.ls.b, .int .i64 r.ls.c, .int .i64 r.ls.d] 0) hb
  have hrow := upd_same H b (.row true 0 [.int .i64 r.kind, .int .u16 r.t, .int .u32 r.s, .string r.pan, .int .i64 r.am, .int .i64 r.ns.a, .int .i64 r.ns.b, .int .i64 r.ns.c, .int .i64 r.ns.d, .int .i64 r.rs.a, .int .i64 r.rs.b, .int .i64 r.rs.c, .int .i64 r.rs.d, .int .i64 r.ls.a, .int .i64 r.ls.b, .int .i64 r.ls.c, .int .i64 r.ls.d] 0)
  generalize upd H b (.row true 0 [.int .i64 r.kind, .int .u16 r.t, .int .u32 r.s, .string r.pan, .int .i64 r.am, .int .i64 r.ns.a, .int .i64 r.ns.b, .int .i64 r.ns.c, .int .i64 r.ns.d, .int .i64 r.rs.a, .int .i64 r.rs.b, .int .i64 r.rs.c, .int .i64 r.rs.d, .int .i64 r.ls.a, .int .i64 r.ls.b, .int .i64 r.ls.c, .int .i64 r.ls.d] 0) = H1 at *
  by_cases h1 : 1 ≤ r.kind
  case neg =>
    have hno : r.right = false := by simp [RZ.right, h1]
    rw [hno]
    simp (disch := first | omega | assumption | decide | (simp <;> omega) | fail) [facts, hrow, h1]
    exact ⟨_, Heap.le_refl _, hle⟩
  by_cases h2 : r.kind < 10
  case neg =>
    have hno : r.right = false := by simp [RZ.right, h2]
    rw [hno]
    simp (disch := first | omega | assumption | decide | (simp <;> omega) | fail) [facts, hrow, h1, h2]
    exact ⟨_, Heap.le_refl _, hle⟩
  by_cases h3 : r.pan.size ≤ 19
  case neg =>
    have h3I : ¬ (r.pan.size : Int) ≤ 19 := by omega
    have hno : r.right = false := by simp [RZ.right, h3]
    rw [hno]
    simp (disch := first | omega | assumption | decide | (simp <;> omega) | fail) [facts, hrow, h1, h2, h3I]
    exact ⟨_, Heap.le_refl _, hle⟩
  have h3I : (r.pan.size : Int) ≤ 19 := by omega
  simp (disch := first | omega | assumption | decide | (simp <;> omega) | fail) [facts, hrow, h1, h2, h3I]
  refine (digitsR_c r.pan H1 hp).mono ?_
  rintro v H2 ⟨rfl, rfl⟩
  by_cases h4 : allD r.pan = true
  case neg =>
    have h4' : allD r.pan = false := by simpa using h4
    have hno : r.right = false := by simp [RZ.right, h4']
    rw [hno]
    simp (disch := first | omega | assumption | decide | (simp <;> omega) | fail) [facts, hrow, h4']
    exact ⟨_, Heap.le_refl _, hle⟩
  by_cases h5 : 0 ≤ r.am
  case neg =>
    have hno : r.right = false := by simp [RZ.right, h5]
    rw [hno]
    simp (disch := first | omega | assumption | decide | (simp <;> omega) | fail) [facts, hrow, h4, h5]
    exact ⟨_, Heap.le_refl _, hle⟩
  by_cases h6 : r.am ≤ 1000000
  case neg =>
    have hno : r.right = false := by simp [RZ.right, h6]
    rw [hno]
    simp (disch := first | omega | assumption | decide | (simp <;> omega) | fail) [facts, hrow, h4, h5, h6]
    exact ⟨_, Heap.le_refl _, hle⟩
  have hyes : r.right = (r.ns.ok && r.rs.ok && r.ls.ok) := by simp [RZ.right, h1, h2, h3, h4, h5, h6]
  rw [hyes]
  simp (disch := first | omega | assumption | decide | (simp <;> omega) | fail) [facts, hrow, h4, h5, h6]
  refine (few_c r.ns H2).mono ?_
  rintro v H3 ⟨rfl, hle3⟩
  have hrow3 := hle3 _ _ hrow
  cases hn : r.ns.ok with
  | false =>
    simp (disch := first | omega | assumption | decide | (simp <;> omega) | fail) [facts, hrow3]
    exact ⟨_, Heap.le_refl _, Heap.le_trans hle hle3⟩
  | true =>
    simp (disch := first | omega | assumption | decide | (simp <;> omega) | fail) [facts, hrow3]
    refine (few_c r.rs H3).mono ?_
    rintro v H4 ⟨rfl, hle4⟩
    have hrow4 := hle4 _ _ hrow3
    cases hr : r.rs.ok with
    | false =>
      simp (disch := first | omega | assumption | decide | (simp <;> omega) | fail) [facts, hrow4]
      exact ⟨_, Heap.le_refl _, Heap.le_trans hle (Heap.le_trans hle3 hle4)⟩
    | true =>
      simp (disch := first | omega | assumption | decide | (simp <;> omega) | fail) [facts, hrow4]
      refine (few_c r.ls H4).mono ?_
      rintro v H5 ⟨rfl, hle5⟩
      simp (disch := first | omega | assumption | decide | (simp <;> omega) | fail) [facts, ]
      exact ⟨_, Heap.le_refl _, Heap.le_trans hle (Heap.le_trans hle3 (Heap.le_trans hle4 hle5))⟩
end Go.Proofs.YtfpighmafofoeaaGreatDoor.GL

namespace Go.Proofs.YtfpighmafofoeaaGreatDoor.GL
open Go Go.RowKit
set_option maxRecDepth 10000
set_option pp.deepTerms.threshold 8
set_option pp.maxSteps 3000
set_option linter.unusedSimpArgs false
set_option linter.unusedVariables false

theorem mkS_sz (l : List UInt8) : (mkS l).size = l.length := by simp [mkS, ByteArray.size]
theorem le_updN {D H : Heap} {b : Nat} (h : Heap.le D H) (hb : D b = none) (o : GObj) : Heap.le D (upd H b o) := fun i x e => by rw [upd_ne _ _ (ne_of_fresh hb e)]; exact h i x e
def zeroN : NZ := ⟨0, 0, 0, 0⟩
structure RZ.wf (r : RZ) : Prop where
  t : 0 ≤ r.t ∧ r.t ≤ 65535
  s : 0 ≤ r.s ∧ r.s ≤ 4294967295
theorem rep13 : rep 13 (.int .i64 0) = [.int .i64 0, .int .i64 0, .int .i64 0, .int .i64 0, .int .i64 0, .int .i64 0, .int .i64 0, .int .i64 0, .int .i64 0, .int .i64 0, .int .i64 0, .int .i64 0, .int .i64 0] := rfl
attribute [simp] rep13
def i64In (v : Int) : Prop := -9223372036854775808 ≤ v ∧ v ≤ 9223372036854775807
theorem rep16 : rep 16 (.int .i64 0) = [.int .i64 0, .int .i64 0, .int .i64 0, .int .i64 0, .int .i64 0, .int .i64 0, .int .i64 0, .int .i64 0, .int .i64 0, .int .i64 0, .int .i64 0, .int .i64 0, .int .i64 0, .int .i64 0, .int .i64 0, .int .i64 0] := rfl
attribute [simp] rep16
def panL (k : Nat) : List UInt8 := if k = 0 then [52, 48, 48, 48, 49, 50, 51, 52, 49, 50, 51, 52, 49, 50, 51, 52] else if k = 1 then [53, 49] else if k = 2 then [57] else [54, 48, 49, 49, 48, 48, 48, 57, 57, 48, 49, 51, 57, 52, 50, 52]
def panS (k : Nat) : ByteArray := mkS (panL (k % 4))
theorem pan_c (k : Nat) (hk : k < 256) (H : Heap) : ECalls Tryz.prog 18 #[.int .u8 k] H fun v H' => v = .string (panS k) ∧ Heap.le H H' := by
  refine ecalls_of_ewp (args := [_]) Tryz.func18 rfl rfl rfl (by simp [Tryz.ntmps18]) (by kernel_rfl) ?_
  obtain ⟨q, hq⟩ : ∃ q : Nat, q = k % 4 := ⟨_, rfl⟩
  have hqI : (k : Int) % 4 = (q : Int) := by omega
  have hq4 : q < 4 := by omega
  unfold panS
  rw [← hq]
  simp (disch := first | omega | assumption | decide | (simp <;> omega) | fail) [facts, ]
  refine fresh_intro fun b hb => ?_
  have hcs : q = 0 ∨ q = 1 ∨ q = 2 ∨ q = 3 := by omega
  rcases hcs with rfl | rfl | rfl | rfl
  all_goals
    simp (disch := first | omega | assumption | decide | (simp <;> omega) | fail) [facts, hqI]
    exact ⟨_, Heap.le_refl _, rfl, le_upd _ hb⟩
def recS (kind k stan amount : Nat) : RZ :=
  ⟨(kind % 9 + 1 : Nat), (k % 3 : Nat), (stan % 4 + 1 : Nat), if kind % 9 = 0 then panS k else ByteArray.empty, (amount % 5000 : Nat),
   if kind % 9 = 4 ∨ kind % 9 = 5 then ⟨(k % 4 : Nat), (k / 4 % 4 : Nat), 0, 0⟩ else if kind % 9 = 7 then ⟨(k / 3 : Nat), (stan % 8 : Nat), 0, 0⟩ else zeroN,
   if kind % 9 = 4 ∨ kind % 9 = 5 then ⟨(k / 16 % 2 : Nat), 0, 0, 0⟩ else zeroN,
   if kind % 9 = 7 then ⟨(k : Nat), (k / 2 : Nat), 10000, (stan : Nat)⟩ else zeroN⟩
theorem rec_c (kind k stan amount : Nat) (h1 : kind < 256) (h2 : k < 256) (h3 : stan < 256) (h4 : amount < 65536) (H : Heap) (r : RZ) (hr : r = recS kind k stan amount) :
    ECalls Tryz.prog 8 #[.int .u8 kind, .int .u8 k, .int .u8 stan, .int .u16 amount] H fun v H' => v = .agg #[.int .i64 r.kind, .int .u16 r.t, .int .u32 r.s, .string r.pan, .int .i64 r.am, .int .i64 r.ns.a, .int .i64 r.ns.b, .int .i64 r.ns.c, .int .i64 r.ns.d, .int .i64 r.rs.a, .int .i64 r.rs.b, .int .i64 r.rs.c, .int .i64 r.rs.d, .int .i64 r.ls.a, .int .i64 r.ls.b, .int .i64 r.ls.c, .int .i64 r.ls.d] ∧ Heap.le H H' := by
  refine ecalls_of_ewp (args := [_, _, _, _]) Tryz.func8 rfl rfl rfl (by simp [Tryz.ntmps8]) (by kernel_rfl) ?_
  obtain ⟨kq, hkq⟩ : ∃ q : Nat, q = kind % 9 := ⟨_, rfl⟩
  have e1 : (kind : Int) % 9 = (kq : Int) := by omega
  obtain ⟨tt, htt⟩ : ∃ q : Nat, q = k % 3 := ⟨_, rfl⟩
  have e2 : (k : Int) % 3 = (tt : Int) := by omega
  obtain ⟨sq, hsq⟩ : ∃ q : Nat, q = stan % 4 := ⟨_, rfl⟩
  have e3 : (stan : Int) % 4 = (sq : Int) := by omega
  obtain ⟨am, ham⟩ : ∃ q : Nat, q = amount % 5000 := ⟨_, rfl⟩
  have e4 : (amount : Int) % 5000 = (am : Int) := by omega
  unfold recS at hr
  rw [← hkq, ← htt, ← hsq, ← ham] at hr
  simp (disch := first | omega | assumption | decide | (simp <;> omega) | fail) [facts, ]
  refine fresh_intro fun b8 hb8 => ?_
  simp (disch := first | omega | assumption | decide | (simp <;> omega) | fail) [facts, e1, e2, e3, e4]
  refine fresh_intro fun b9 hb9 => ?_
  have r8 := upd_other (o := .row true 0 [.int .i64 0, .int .u16 0, .int .u32 0, .string ByteArray.empty, .int .i64 0, .int .i64 0, .int .i64 0, .int .i64 0, .int .i64 0, .int .i64 0, .int .i64 0, .int .i64 0, .int .i64 0, .int .i64 0, .int .i64 0, .int .i64 0, .int .i64 0] 0) hb9 (upd_same H b8 (.row true 0 [.int .i64 0, .int .u16 0, .int .u32 0, .string ByteArray.empty, .int .i64 0, .int .i64 0, .int .i64 0, .int .i64 0, .int .i64 0, .int .i64 0, .int .i64 0, .int .i64 0, .int .i64 0, .int .i64 0, .int .i64 0, .int .i64 0, .int .i64 0] 0))
  have h89 : b8 ≠ b9 := ne_of_fresh hb9 (upd_same H b8 (.row true 0 [.int .i64 0, .int .u16 0, .int .u32 0, .string ByteArray.empty, .int .i64 0, .int .i64 0, .int .i64 0, .int .i64 0, .int .i64 0, .int .i64 0, .int .i64 0, .int .i64 0, .int .i64 0, .int .i64 0, .int .i64 0, .int .i64 0, .int .i64 0] 0))
  have hl9 := Heap.le_trans (le_upd (.row true 0 [.int .i64 0, .int .u16 0, .int .u32 0, .string ByteArray.empty, .int .i64 0, .int .i64 0, .int .i64 0, .int .i64 0, .int .i64 0, .int .i64 0, .int .i64 0, .int .i64 0, .int .i64 0, .int .i64 0, .int .i64 0, .int .i64 0, .int .i64 0] 0) hb8) (le_upd (.row true 0 [.int .i64 0, .int .u16 0, .int .u32 0, .string ByteArray.empty, .int .i64 0, .int .i64 0, .int .i64 0, .int .i64 0, .int .i64 0, .int .i64 0, .int .i64 0, .int .i64 0, .int .i64 0, .int .i64 0, .int .i64 0, .int .i64 0, .int .i64 0] 0) hb9)
  have hb9' : H b9 = none := le_of_none (le_upd (.row true 0 [.int .i64 0, .int .u16 0, .int .u32 0, .string ByteArray.empty, .int .i64 0, .int .i64 0, .int .i64 0, .int .i64 0, .int .i64 0, .int .i64 0, .int .i64 0, .int .i64 0, .int .i64 0, .int .i64 0, .int .i64 0, .int .i64 0, .int .i64 0] 0) hb8) hb9
  simp (disch := first | omega | assumption | decide | (simp <;> omega) | fail) [facts, upd_upd]
  have r9 := upd_same (upd H b8 (.row true 0 [.int .i64 0, .int .u16 0, .int .u32 0, .string ByteArray.empty, .int .i64 0, .int .i64 0, .int .i64 0, .int .i64 0, .int .i64 0, .int .i64 0, .int .i64 0, .int .i64 0, .int .i64 0, .int .i64 0, .int .i64 0, .int .i64 0, .int .i64 0] 0)) b9 (.row true 0 [.int .i64 ((kq : Int) + 1), .int .u16 tt, .int .u32 ((sq : Int) + 1), .string ByteArray.empty, .int .i64 am, .int .i64 0, .int .i64 0, .int .i64 0, .int .i64 0, .int .i64 0, .int .i64 0, .int .i64 0, .int .i64 0, .int .i64 0, .int .i64 0, .int .i64 0, .int .i64 0] 0)
  have r8' : upd (upd H b8 (.row true 0 [.int .i64 0, .int .u16 0, .int .u32 0, .string ByteArray.empty, .int .i64 0, .int .i64 0, .int .i64 0, .int .i64 0, .int .i64 0, .int .i64 0, .int .i64 0, .int .i64 0, .int .i64 0, .int .i64 0, .int .i64 0, .int .i64 0, .int .i64 0] 0)) b9 (.row true 0 [.int .i64 ((kq : Int) + 1), .int .u16 tt, .int .u32 ((sq : Int) + 1), .string ByteArray.empty, .int .i64 am, .int .i64 0, .int .i64 0, .int .i64 0, .int .i64 0, .int .i64 0, .int .i64 0, .int .i64 0, .int .i64 0, .int .i64 0, .int .i64 0, .int .i64 0, .int .i64 0] 0) b8 = _ := (upd_ne _ _ h89).trans (upd_same H b8 (.row true 0 [.int .i64 0, .int .u16 0, .int .u32 0, .string ByteArray.empty, .int .i64 0, .int .i64 0, .int .i64 0, .int .i64 0, .int .i64 0, .int .i64 0, .int .i64 0, .int .i64 0, .int .i64 0, .int .i64 0, .int .i64 0, .int .i64 0, .int .i64 0] 0))
  have hl9' : Heap.le H (upd (upd H b8 (.row true 0 [.int .i64 0, .int .u16 0, .int .u32 0, .string ByteArray.empty, .int .i64 0, .int .i64 0, .int .i64 0, .int .i64 0, .int .i64 0, .int .i64 0, .int .i64 0, .int .i64 0, .int .i64 0, .int .i64 0, .int .i64 0, .int .i64 0, .int .i64 0] 0)) b9 (.row true 0 [.int .i64 ((kq : Int) + 1), .int .u16 tt, .int .u32 ((sq : Int) + 1), .string ByteArray.empty, .int .i64 am, .int .i64 0, .int .i64 0, .int .i64 0, .int .i64 0, .int .i64 0, .int .i64 0, .int .i64 0, .int .i64 0, .int .i64 0, .int .i64 0, .int .i64 0, .int .i64 0] 0)) := le_updN (le_upd _ hb8) hb9' _
  clear r8 hl9
  generalize upd (upd H b8 (.row true 0 [.int .i64 0, .int .u16 0, .int .u32 0, .string ByteArray.empty, .int .i64 0, .int .i64 0, .int .i64 0, .int .i64 0, .int .i64 0, .int .i64 0, .int .i64 0, .int .i64 0, .int .i64 0, .int .i64 0, .int .i64 0, .int .i64 0, .int .i64 0] 0)) b9 (.row true 0 [.int .i64 ((kq : Int) + 1), .int .u16 tt, .int .u32 ((sq : Int) + 1), .string ByteArray.empty, .int .i64 am, .int .i64 0, .int .i64 0, .int .i64 0, .int .i64 0, .int .i64 0, .int .i64 0, .int .i64 0, .int .i64 0, .int .i64 0, .int .i64 0, .int .i64 0, .int .i64 0] 0) = H9 at *
  obtain ⟨q1, hq1⟩ : ∃ q : Nat, q = k % 4 := ⟨_, rfl⟩
  obtain ⟨q2, hq2⟩ : ∃ q : Nat, q = k / 4 % 4 := ⟨_, rfl⟩
  obtain ⟨q3, hq3⟩ : ∃ q : Nat, q = k / 16 % 2 := ⟨_, rfl⟩
  obtain ⟨q4, hq4⟩ : ∃ q : Nat, q = k / 3 := ⟨_, rfl⟩
  obtain ⟨q5, hq5⟩ : ∃ q : Nat, q = stan % 8 := ⟨_, rfl⟩
  obtain ⟨q6, hq6⟩ : ∃ q : Nat, q = k / 2 := ⟨_, rfl⟩
  have f1 : (k : Int) % 4 = (q1 : Int) := by omega
  have f2 : (k : Int) / 4 % 4 = (q2 : Int) := by omega
  have f3 : (k : Int) / 16 % 2 = (q3 : Int) := by omega
  have f4 : (k : Int) / 3 = (q4 : Int) := by omega
  have f5 : (stan : Int) % 8 = (q5 : Int) := by omega
  have f6 : (k : Int) / 2 = (q6 : Int) := by omega
  rw [← hq1, ← hq2, ← hq3, ← hq4, ← hq5, ← hq6] at hr
  have hcs : kq = 0 ∨ kq = 1 ∨ kq = 2 ∨ kq = 3 ∨ kq = 4 ∨ kq = 5 ∨ kq = 6 ∨ kq = 7 ∨ kq = 8 := by omega
  rcases hcs with rfl | rfl | rfl | rfl | rfl | rfl | rfl | rfl | rfl
  · simp [zeroN] at hr
    subst hr
    simp (disch := first | omega | assumption | decide | (simp <;> omega) | fail) [facts, ]
    refine (pan_c k h2 H9).mono ?_
    rintro v H10 ⟨rfl, hl10⟩
    have r9' := hl10 _ _ r9
    have r8'' := hl10 _ _ r8'
    have hlA := Heap.le_trans hl9' hl10
    simp (disch := first | omega | assumption | decide | (simp <;> omega) | fail) [facts, r9']
    have r8c : upd H10 b9 (.row true 0 [.int .i64 1, .int .u16 tt, .int .u32 ((sq : Int) + 1), .string (panS k), .int .i64 am, .int .i64 0, .int .i64 0, .int .i64 0, .int .i64 0, .int .i64 0, .int .i64 0, .int .i64 0, .int .i64 0, .int .i64 0, .int .i64 0, .int .i64 0, .int .i64 0] 0) b8 = _ := (upd_ne _ _ h89).trans r8''
    simp (disch := first | omega | assumption | decide | (simp <;> omega) | fail) [facts, r8c]
    exact ⟨_, Heap.le_refl _, le_updN (le_updN hlA hb9' _) hb8 _⟩
  all_goals
    simp [zeroN] at hr
    subst hr
  all_goals
    have h89u : ∀ o, upd H9 b9 o b8 = some (.row true 0 [.int .i64 0, .int .u16 0, .int .u32 0, .string ByteArray.empty, .int .i64 0, .int .i64 0, .int .i64 0, .int .i64 0, .int .i64 0, .int .i64 0, .int .i64 0, .int .i64 0, .int .i64 0, .int .i64 0, .int .i64 0, .int .i64 0, .int .i64 0] 0) := fun o => (upd_ne _ _ h89).trans r8'
    simp (disch := first | omega | assumption | decide | (simp <;> omega) | fail) [facts, r9, r8', h89u, e1, e2, e3, e4, f1, f2, f3, f4, f5, f6, upd_upd]
    exact ⟨_, Heap.le_refl _, by first | exact le_updN hl9' hb8 _ | exact le_updN (le_updN hl9' hb9' _) hb8 _⟩
theorem panL_len : ∀ k, k < 4 → (panL k).length ≤ 16 ∧ (panL k).all isD = true ∧ 0 < (panL k).length := by
  intro k hk
  have : k = 0 ∨ k = 1 ∨ k = 2 ∨ k = 3 := by omega
  rcases this with rfl | rfl | rfl | rfl <;> decide
theorem panS_ok (k : Nat) : (panS k).size ≤ 16 ∧ allD (panS k) = true ∧ 0 < (panS k).size := by
  have := panL_len (k % 4) (Nat.mod_lt _ (by decide))
  unfold panS
  rw [mkS_sz]
  refine ⟨this.1, ?_, this.2.2⟩
  unfold allD
  rw [mkS_list]; exact this.2.1
theorem nz_ok {a b c d : Int} (h1 : 0 ≤ a ∧ a ≤ 10000) (h2 : 0 ≤ b ∧ b ≤ 10000) (h3 : 0 ≤ c ∧ c ≤ 10000) (h4 : 0 ≤ d ∧ d ≤ 10000) : (NZ.mk a b c d).ok = true := by
  simp [NZ.ok, NZ.l, inC, h1, h2, h3, h4]
/-- Such a record may be. -/
theorem recS_right (kind k stan amount : Nat) (h2 : k < 256) (h3 : stan < 256) : (recS kind k stan amount).right = true ∧ (recS kind k stan amount).wf := by
  have hp := panS_ok k
  refine ⟨?_, ⟨⟨?_, ?_⟩, ⟨?_, ?_⟩⟩⟩
  · have p1 : (recS kind k stan amount).pan.size ≤ 16 ∧ allD (recS kind k stan amount).pan = true := by
      unfold recS
      simp only
      split
      · exact ⟨hp.1, hp.2.1⟩
      · exact ⟨by decide, by decide⟩
    have p2 : (recS kind k stan amount).ns.ok = true := by
      unfold recS
      simp only
      split
      · exact nz_ok (by omega) (by omega) (by omega) (by omega)
      · split
        · exact nz_ok (by omega) (by omega) (by omega) (by omega)
        · decide
    have p3 : (recS kind k stan amount).rs.ok = true := by
      unfold recS
      simp only
      split
      · exact nz_ok (by omega) (by omega) (by omega) (by omega)
      · decide
    have p4 : (recS kind k stan amount).ls.ok = true := by
      unfold recS
      simp only
      split
      · exact nz_ok (by omega) (by omega) (by omega) (by omega)
      · decide
    have k1 : (recS kind k stan amount).kind = (kind % 9 + 1 : Nat) := rfl
    have k2 : (recS kind k stan amount).am = (amount % 5000 : Nat) := rfl
    simp only [RZ.right, p1.2, p2, p3, p4, k1, k2, Bool.and_true, Bool.and_eq_true, decide_eq_true_eq]
    omega
  · show (0 : Int) ≤ ((k % 3 : Nat) : Int)
    omega
  · show ((k % 3 : Nat) : Int) ≤ 65535
    omega
  · show (0 : Int) ≤ ((stan % 4 + 1 : Nat) : Int)
    omega
  · show ((stan % 4 + 1 : Nat) : Int) ≤ 4294967295
    omega
end Go.Proofs.YtfpighmafofoeaaGreatDoor.GL

namespace Go.Proofs.YtfpighmafofoeaaGreatDoor.GL.Ca
open Go Go.RowKit Go.Proofs.YtfpighmafofoeaaGreatDoor.GL
set_option maxRecDepth 10000
set_option pp.deepTerms.threshold 8
set_option pp.maxSteps 3000
set_option linter.unusedSimpArgs false
set_option linter.unusedVariables false

def fewIn (z : Int) : Prop := 0 ≤ z ∧ z ≤ 10000
instance (z : Int) : Decidable (fewIn z) := inferInstanceAs (Decidable (_ ∧ _))
theorem few_or (z : Int) : fewIn z ∨ z < 0 ∨ (¬ z < 0 ∧ 10000 < z) := by unfold fewIn; omega
def placeZ (k : Int) : Int := if k.tmod 4 < 0 then k.tmod 4 + 4 else k.tmod 4
theorem placeZ_in (k : Int) : 0 ≤ placeZ k ∧ placeZ k ≤ 3 := by
  have h1 := Int.tmod_lt_of_pos k (show (0 : Int) < 4 by decide)
  have h3 : (-k).tmod 4 = -(k.tmod 4) := Int.neg_tmod k 4
  have h4 := Int.tmod_lt_of_pos (-k) (show (0 : Int) < 4 by decide)
  unfold placeZ; split <;> omega
def notesV (a b c d : Int) : Value := .agg #[.int .i64 a, .int .i64 b, .int .i64 c, .int .i64 d]
def fourIn (a b c d : Int) : Prop := fewIn a ∧ fewIn b ∧ fewIn c ∧ fewIn d
instance (a b c d : Int) : Decidable (fourIn a b c d) := inferInstanceAs (Decidable (_ ∧ _))
theorem right_c (a b c d : Int) (H : Heap) : ECalls Tryz.prog 48 #[notesV a b c d] H fun v H' => v = .bool (decide (fourIn a b c d)) ∧ Heap.le H H' := by
  refine ecalls_of_ewp (args := [_]) Tryz.func48 rfl rfl rfl (by simp [Tryz.ntmps48]) (by kernel_rfl) ?_
  unfold notesV
  simp (disch := first | omega | assumption | decide | (simp <;> omega) | fail) [facts, ]
  refine fresh_intro fun bx hbx => ?_
  simp (disch := first | omega | assumption | decide | (simp <;> omega) | fail) [facts, ]
  refine w_unroll 5 ?_
  unfold fourIn
  rcases few_or a with ha | ha | ⟨ha1, ha2⟩
  rotate_left
  · simp (disch := first | omega | assumption | decide | (simp <;> omega) | fail) [facts, ha, show ¬ fewIn a by unfold fewIn; omega]
    exact ⟨_, Heap.le_refl _, le_upd _ hbx⟩
  · simp (disch := first | omega | assumption | decide | (simp <;> omega) | fail) [facts, ha1, ha2, show ¬ fewIn a by unfold fewIn; omega]
    exact ⟨_, Heap.le_refl _, le_upd _ hbx⟩
  have a1 : ¬ a < 0 := by unfold fewIn at ha; omega
  have a2 : ¬ 10000 < a := by unfold fewIn at ha; omega
  rcases few_or b with hb | hb | ⟨hb1, hb2⟩
  rotate_left
  · simp (disch := first | omega | assumption | decide | (simp <;> omega) | fail) [facts, a1, a2, ha, hb, show ¬ fewIn b by unfold fewIn; omega]
    exact ⟨_, Heap.le_refl _, le_upd _ hbx⟩
  · simp (disch := first | omega | assumption | decide | (simp <;> omega) | fail) [facts, a1, a2, ha, hb1, hb2, show ¬ fewIn b by unfold fewIn; omega]
    exact ⟨_, Heap.le_refl _, le_upd _ hbx⟩
  have b1 : ¬ b < 0 := by unfold fewIn at hb; omega
  have b2 : ¬ 10000 < b := by unfold fewIn at hb; omega
  rcases few_or c with hc | hc | ⟨hc1, hc2⟩
  rotate_left
  · simp (disch := first | omega | assumption | decide | (simp <;> omega) | fail) [facts, a1, a2, ha, b1, b2, hb, hc, show ¬ fewIn c by unfold fewIn; omega]
    exact ⟨_, Heap.le_refl _, le_upd _ hbx⟩
  · simp (disch := first | omega | assumption | decide | (simp <;> omega) | fail) [facts, a1, a2, ha, b1, b2, hb, hc1, hc2, show ¬ fewIn c by unfold fewIn; omega]
    exact ⟨_, Heap.le_refl _, le_upd _ hbx⟩
  have c1 : ¬ c < 0 := by unfold fewIn at hc; omega
  have c2 : ¬ 10000 < c := by unfold fewIn at hc; omega
  rcases few_or d with hd | hd | ⟨hd1, hd2⟩
  rotate_left
  · simp (disch := first | omega | assumption | decide | (simp <;> omega) | fail) [facts, a1, a2, ha, b1, b2, hb, c1, c2, hc, hd, show ¬ fewIn d by unfold fewIn; omega]
    exact ⟨_, Heap.le_refl _, le_upd _ hbx⟩
  · simp (disch := first | omega | assumption | decide | (simp <;> omega) | fail) [facts, a1, a2, ha, b1, b2, hb, c1, c2, hc, hd1, hd2, show ¬ fewIn d by unfold fewIn; omega]
    exact ⟨_, Heap.le_refl _, le_upd _ hbx⟩
  have d1 : ¬ d < 0 := by unfold fewIn at hd; omega
  have d2 : ¬ 10000 < d := by unfold fewIn at hd; omega
  simp (disch := first | omega | assumption | decide | (simp <;> omega) | fail) [facts, a1, a2, ha, b1, b2, hb, c1, c2, hc, d1, d2, hd]
  exact ⟨_, Heap.le_refl _, le_upd _ hbx⟩
theorem few_c (a b c d : Int) (H : Heap) : ECalls Tryz.prog 52 #[notesV a b c d] H fun v H' => v = .bool (decide (fourIn a b c d)) ∧ Heap.le H H' := by
  refine ecalls_of_ewp (args := [_]) Tryz.func52 rfl rfl rfl (by simp [Tryz.ntmps52]) (by kernel_rfl) ?_
  unfold notesV
  simp (disch := first | omega | assumption | decide | (simp <;> omega) | fail) [facts, ]
  refine fresh_intro fun bx hbx => ?_
  simp (disch := first | omega | assumption | decide | (simp <;> omega) | fail) [facts, ]
  refine w_unroll 5 ?_
  unfold fourIn
  rcases few_or a with ha | ha | ⟨ha1, ha2⟩
  rotate_left
  · simp (disch := first | omega | assumption | decide | (simp <;> omega) | fail) [facts, ha, show ¬ fewIn a by unfold fewIn; omega]
    exact ⟨_, Heap.le_refl _, le_upd _ hbx⟩
  · simp (disch := first | omega | assumption | decide | (simp <;> omega) | fail) [facts, ha1, ha2, show ¬ fewIn a by unfold fewIn; omega]
    exact ⟨_, Heap.le_refl _, le_upd _ hbx⟩
  have a1 : ¬ a < 0 := by unfold fewIn at ha; omega
  have a2 : ¬ 10000 < a := by unfold fewIn at ha; omega
  rcases few_or b with hb | hb | ⟨hb1, hb2⟩
  rotate_left
  · simp (disch := first | omega | assumption | decide | (simp <;> omega) | fail) [facts, a1, a2, ha, hb, show ¬ fewIn b by unfold fewIn; omega]
    exact ⟨_, Heap.le_refl _, le_upd _ hbx⟩
  · simp (disch := first | omega | assumption | decide | (simp <;> omega) | fail) [facts, a1, a2, ha, hb1, hb2, show ¬ fewIn b by unfold fewIn; omega]
    exact ⟨_, Heap.le_refl _, le_upd _ hbx⟩
  have b1 : ¬ b < 0 := by unfold fewIn at hb; omega
  have b2 : ¬ 10000 < b := by unfold fewIn at hb; omega
  rcases few_or c with hc | hc | ⟨hc1, hc2⟩
  rotate_left
  · simp (disch := first | omega | assumption | decide | (simp <;> omega) | fail) [facts, a1, a2, ha, b1, b2, hb, hc, show ¬ fewIn c by unfold fewIn; omega]
    exact ⟨_, Heap.le_refl _, le_upd _ hbx⟩
  · simp (disch := first | omega | assumption | decide | (simp <;> omega) | fail) [facts, a1, a2, ha, b1, b2, hb, hc1, hc2, show ¬ fewIn c by unfold fewIn; omega]
    exact ⟨_, Heap.le_refl _, le_upd _ hbx⟩
  have c1 : ¬ c < 0 := by unfold fewIn at hc; omega
  have c2 : ¬ 10000 < c := by unfold fewIn at hc; omega
  rcases few_or d with hd | hd | ⟨hd1, hd2⟩
  rotate_left
  · simp (disch := first | omega | assumption | decide | (simp <;> omega) | fail) [facts, a1, a2, ha, b1, b2, hb, c1, c2, hc, hd, show ¬ fewIn d by unfold fewIn; omega]
    exact ⟨_, Heap.le_refl _, le_upd _ hbx⟩
  · simp (disch := first | omega | assumption | decide | (simp <;> omega) | fail) [facts, a1, a2, ha, b1, b2, hb, c1, c2, hc, hd1, hd2, show ¬ fewIn d by unfold fewIn; omega]
    exact ⟨_, Heap.le_refl _, le_upd _ hbx⟩
  have d1 : ¬ d < 0 := by unfold fewIn at hd; omega
  have d2 : ¬ 10000 < d := by unfold fewIn at hd; omega
  simp (disch := first | omega | assumption | decide | (simp <;> omega) | fail) [facts, a1, a2, ha, b1, b2, hb, c1, c2, hc, d1, d2, hd]
  exact ⟨_, Heap.le_refl _, le_upd _ hbx⟩

def leftZ (l g r : Int) : Int := if fewIn l ∧ fewIn g ∧ fewIn r then max (l - g - r) 0 else 0
def cassV (d l g r : Int) : Value := .agg #[.int .i64 d, .int .i64 l, .int .i64 g, .int .i64 r]
theorem left_c (d l g r : Int) (H : Heap) : ECalls Tryz.prog 49 #[cassV d l g r] H fun v H' => v = .int .i64 (leftZ l g r) ∧ Heap.le H H' := by
  refine ecalls_of_ewp (args := [_]) Tryz.func49 rfl rfl rfl (by simp [Tryz.ntmps49]) (by kernel_rfl) ?_
  unfold cassV leftZ
  simp (disch := first | omega | assumption | decide | (simp <;> omega) | fail) [facts, ]
  refine fresh_intro fun b1 hb1 => ?_
  simp (disch := first | omega | assumption | decide | (simp <;> omega) | fail) [facts, ]
  refine fresh_intro fun b2 hb2 => ?_
  have q : b1 ≠ b2 := ne_of_fresh hb2 (upd_same _ _ _)
  have hle := Heap.le_trans (le_upd (.row true 0 [.int .i64 d, .int .i64 l, .int .i64 g, .int .i64 r] 0) hb1) (le_upd (.row true 0 [.int .i64 l, .int .i64 g, .int .i64 r] 0) hb2)
  simp (disch := first | omega | assumption | decide | (simp <;> omega) | fail) [facts, upd_ne]
  refine w_unroll 4 ?_
  rcases few_or l with hl | hl | ⟨hl1, hl2⟩
  rotate_left
  · simp (disch := first | omega | assumption | decide | (simp <;> omega) | fail) [facts, hl, show ¬ fewIn l by unfold fewIn; omega, upd_ne]
    exact ⟨_, Heap.le_refl _, hle⟩
  · simp (disch := first | omega | assumption | decide | (simp <;> omega) | fail) [facts, hl1, hl2, show ¬ fewIn l by unfold fewIn; omega, upd_ne]
    exact ⟨_, Heap.le_refl _, hle⟩
  have l1 : ¬ l < 0 := by unfold fewIn at hl; omega
  have l2 : ¬ 10000 < l := by unfold fewIn at hl; omega
  rcases few_or g with hg | hg | ⟨hg1, hg2⟩
  rotate_left
  · simp (disch := first | omega | assumption | decide | (simp <;> omega) | fail) [facts, l1, l2, hl, hg, show ¬ fewIn g by unfold fewIn; omega, upd_ne]
    exact ⟨_, Heap.le_refl _, hle⟩
  · simp (disch := first | omega | assumption | decide | (simp <;> omega) | fail) [facts, l1, l2, hl, hg1, hg2, show ¬ fewIn g by unfold fewIn; omega, upd_ne]
    exact ⟨_, Heap.le_refl _, hle⟩
  have g1 : ¬ g < 0 := by unfold fewIn at hg; omega
  have g2 : ¬ 10000 < g := by unfold fewIn at hg; omega
  rcases few_or r with hr | hr | ⟨hr1, hr2⟩
  rotate_left
  · simp (disch := first | omega | assumption | decide | (simp <;> omega) | fail) [facts, l1, l2, hl, g1, g2, hg, hr, show ¬ fewIn r by unfold fewIn; omega, upd_ne]
    exact ⟨_, Heap.le_refl _, hle⟩
  · simp (disch := first | omega | assumption | decide | (simp <;> omega) | fail) [facts, l1, l2, hl, g1, g2, hg, hr1, hr2, show ¬ fewIn r by unfold fewIn; omega, upd_ne]
    exact ⟨_, Heap.le_refl _, hle⟩
  have r1 : ¬ r < 0 := by unfold fewIn at hr; omega
  have r2 : ¬ 10000 < r := by unfold fewIn at hr; omega
  have hl' := hl
  have hg' := hg
  have hr' := hr
  unfold fewIn at hl' hg' hr'
  simp (disch := first | omega | assumption | decide | (simp <;> omega) | fail) [facts, l1, l2, hl, g1, g2, hg, r1, r2, hr, upd_ne]
  exact ⟨_, Heap.le_refl _, hle⟩
end Go.Proofs.YtfpighmafofoeaaGreatDoor.GL.Ca

namespace Go.Proofs.YtfpighmafofoeaaGreatDoor.GL.Ca
open Go Go.RowKit Go.Proofs.YtfpighmafofoeaaGreatDoor.GL
set_option maxRecDepth 10000
set_option pp.deepTerms.threshold 8
set_option pp.maxSteps 3000
set_option linter.unusedSimpArgs false
set_option linter.unusedVariables false

theorem fresh_abs {f : Nat → Value} {g : GObj} {H : Heap} {K : Kont} (P : Heap → Prop) (hP : P H) (h : ∀ H' b, P H' → H' b = none → K (f b) (upd H' b g)) : eFresh f g H K := fun b hb => h H b hP hb
theorem dele_get {H : Heap} {b p : Nat} {o : GObj} (hne : b ≠ p) (h : H b = some o) : (dele H p) b = some o := by rw [dele_ne _ hne]; exact h
theorem le_dele {H H1 : Heap} (p : Nat) (hl : Heap.le H H1) : Heap.le (dele H p) H1 := Heap.le_trans (dele_le _ _) hl
theorem dele_none {H : Heap} (p : Nat) : dele H p p = none := dele_same H p
structure Cs where
  d : Int
  l : Int
  g : Int
  r : Int
structure S4 where
  a : Cs
  b : Cs
  c : Cs
  e : Cs
def flat (s : S4) : List Value := [.int .i64 s.a.d, .int .i64 s.a.l, .int .i64 s.a.g, .int .i64 s.a.r, .int .i64 s.b.d, .int .i64 s.b.l, .int .i64 s.b.g, .int .i64 s.b.r, .int .i64 s.c.d, .int .i64 s.c.l, .int .i64 s.c.g, .int .i64 s.c.r, .int .i64 s.e.d, .int .i64 s.e.l, .int .i64 s.e.g, .int .i64 s.e.r]
def setV (s : S4) : Value := .agg (flat s).toArray
def newC (c : Cs) : Cs := ⟨c.d, min (max c.l 0) 10000, 0, 0⟩
def newS (s : S4) : S4 := ⟨newC s.a, newC s.b, newC s.c, newC s.e⟩
def loadS (s : S4) (n0 n1 n2 n3 : Int) : S4 := ⟨⟨s.a.d, n0, 0, 0⟩, ⟨s.b.d, n1, 0, 0⟩, ⟨s.c.d, n2, 0, 0⟩, ⟨s.e.d, n3, 0, 0⟩⟩
def addC (c : Cs) (n r : Int) : Cs := ⟨c.d, c.l, c.g + n, c.r + r⟩
def OkC (c : Cs) : Prop := fewIn c.l ∧ fewIn c.g ∧ fewIn c.r ∧ c.g + c.r ≤ c.l ∧ i64In c.d
def OkS (s : S4) : Prop := OkC s.a ∧ OkC s.b ∧ OkC s.c ∧ OkC s.e
def fitC (c : Cs) (n r : Int) : Prop := n + r ≤ leftZ c.l c.g c.r

set_option maxHeartbeats 400000 in
theorem new_c (s : S4) (H : Heap) : ECalls Tryz.prog 20 #[setV s] H fun v H' => ∃ p, v = .pointer (some ⟨p, 0, none⟩) ∧ H p = none ∧ H' p = some (.row true 0 (flat (newS s)) 0) ∧ Heap.le H H' := by
  refine ecalls_of_ewp (args := [_]) Tryz.func20 rfl rfl rfl (by simp [Tryz.ntmps20]) (by kernel_rfl) ?_
  obtain ⟨⟨d0, l0, g0, r0⟩, ⟨d1, l1, g1, r1⟩, ⟨d2, l2, g2, r2⟩, ⟨d3, l3, g3, r3⟩⟩ := s
  simp only [setV, flat, newS, newC]
  simp (disch := first | omega | assumption | decide | (simp <;> omega) | fail) [facts, ]
  refine fresh_intro fun b1 hb1 => ?_
  simp (disch := first | omega | assumption | decide | (simp <;> omega) | fail) [facts, ]
  refine fresh_intro fun p hp => ?_
  have q1 : b1 ≠ p := ne_of_fresh hp (upd_same _ _ _)
  have hpn : H p = none := le_of_none (le_upd _ hb1) hp
  simp (disch := first | omega | assumption | decide | (simp <;> omega) | fail) [facts, upd_ne]
  refine w_unroll 5 ?_
  simp (disch := first | omega | assumption | decide | (simp <;> omega) | fail) [facts, upd_ne]
  refine fresh_abs (fun H' => Heap.le H H' ∧ H' p = some (.row true 0 [.int .i64 0, .int .i64 0, .int .i64 0, .int .i64 0, .int .i64 0, .int .i64 0, .int .i64 0, .int .i64 0, .int .i64 0, .int .i64 0, .int .i64 0, .int .i64 0, .int .i64 0, .int .i64 0, .int .i64 0, .int .i64 0] 0)) ⟨?_, by simp⟩ ?_
  · repeat' (first | exact hle | exact Heap.le_refl _ | assumption | (refine le_of_none hle ?_; assumption) | apply le_updN)
  rintro H0 x0 ⟨hle, lp⟩ hx0
  have y0 : p ≠ x0 := ne_of_fresh hx0 lp
  have z0 : H x0 = none := le_of_none hle hx0
  simp (disch := first | omega | assumption | decide | (simp <;> omega) | fail) [facts, lp, upd_ne, upd_upd]
  refine w_plan (P := Tryz.prog) (by simp [facts]) (opsP [0,1,2,3,4,5,6,7,8,9,10,11,12] .done) ?_ ?_
  · decide +kernel
  simp (disch := first | omega | assumption | decide | (simp <;> omega) | fail) [facts, lp, upd_ne, upd_upd]
  refine fresh_abs (fun H' => Heap.le H H' ∧ H' p = some (.row true 0 [.int .i64 d0, .int .i64 (min (max l0 0) 10000), .int .i64 0, .int .i64 0, .int .i64 0, .int .i64 0, .int .i64 0, .int .i64 0, .int .i64 0, .int .i64 0, .int .i64 0, .int .i64 0, .int .i64 0, .int .i64 0, .int .i64 0, .int .i64 0] 0)) ⟨?_, by simp⟩ ?_
  · repeat' (first | exact hle | exact Heap.le_refl _ | assumption | (refine le_of_none hle ?_; assumption) | apply le_updN)
  rintro H1 x1 ⟨hle, lp⟩ hx1
  have y1 : p ≠ x1 := ne_of_fresh hx1 lp
  have z1 : H x1 = none := le_of_none hle hx1
  simp (disch := first | omega | assumption | decide | (simp <;> omega) | fail) [facts, lp, upd_ne, upd_upd]
  refine w_plan (P := Tryz.prog) (by simp [facts]) (opsP [0,1,2,3,4,5,6,7,8,9,10,11,12] .done) ?_ ?_
  · decide +kernel
  simp (disch := first | omega | assumption | decide | (simp <;> omega) | fail) [facts, lp, upd_ne, upd_upd]
  refine fresh_abs (fun H' => Heap.le H H' ∧ H' p = some (.row true 0 [.int .i64 d0, .int .i64 (min (max l0 0) 10000), .int .i64 0, .int .i64 0, .int .i64 d1, .int .i64 (min (max l1 0) 10000), .int .i64 0, .int .i64 0, .int .i64 0, .int .i64 0, .int .i64 0, .int .i64 0, .int .i64 0, .int .i64 0, .int .i64 0, .int .i64 0] 0)) ⟨?_, by simp⟩ ?_
  · repeat' (first | exact hle | exact Heap.le_refl _ | assumption | (refine le_of_none hle ?_; assumption) | apply le_updN)
  rintro H2 x2 ⟨hle, lp⟩ hx2
  have y2 : p ≠ x2 := ne_of_fresh hx2 lp
  have z2 : H x2 = none := le_of_none hle hx2
  simp (disch := first | omega | assumption | decide | (simp <;> omega) | fail) [facts, lp, upd_ne, upd_upd]
  refine w_plan (P := Tryz.prog) (by simp [facts]) (opsP [0,1,2,3,4,5,6,7,8,9,10,11,12] .done) ?_ ?_
  · decide +kernel
  simp (disch := first | omega | assumption | decide | (simp <;> omega) | fail) [facts, lp, upd_ne, upd_upd]
  refine fresh_abs (fun H' => Heap.le H H' ∧ H' p = some (.row true 0 [.int .i64 d0, .int .i64 (min (max l0 0) 10000), .int .i64 0, .int .i64 0, .int .i64 d1, .int .i64 (min (max l1 0) 10000), .int .i64 0, .int .i64 0, .int .i64 d2, .int .i64 (min (max l2 0) 10000), .int .i64 0, .int .i64 0, .int .i64 0, .int .i64 0, .int .i64 0, .int .i64 0] 0)) ⟨?_, by simp⟩ ?_
  · repeat' (first | exact hle | exact Heap.le_refl _ | assumption | (refine le_of_none hle ?_; assumption) | apply le_updN)
  rintro H3 x3 ⟨hle, lp⟩ hx3
  have y3 : p ≠ x3 := ne_of_fresh hx3 lp
  have z3 : H x3 = none := le_of_none hle hx3
  simp (disch := first | omega | assumption | decide | (simp <;> omega) | fail) [facts, lp, upd_ne, upd_upd]
  refine w_plan (P := Tryz.prog) (by simp [facts]) (opsP [0,1,2,3,4,5,6,7,8,9,10,11,12] .done) ?_ ?_
  · decide +kernel
  simp (disch := first | omega | assumption | decide | (simp <;> omega) | fail) [facts, lp, upd_ne, upd_upd]
  refine ⟨_, Heap.le_refl _, hpn, by simp, ?_⟩
  repeat' (first | exact hle | exact Heap.le_refl _ | assumption | (refine le_of_none hle ?_; assumption) | apply le_updN)

set_option maxHeartbeats 400000 in
theorem load_c (s : S4) (p : Nat) (n0 n1 n2 n3 : Int) (ob : Bool) (lo : Int) (H : Heap) (lp : H p = some (.row true 0 (flat s ++ [.bool ob, .int .i64 lo]) 0)) : ECalls Tryz.prog 25 #[.pointer (some ⟨p, 0, none⟩), notesV n0 n1 n2 n3] H fun v H' => v = .int .i64 (if fourIn n0 n1 n2 n3 then 0 else 20) ∧ Heap.le (dele H p) H' ∧ H' p = some (.row true 0 (flat (if fourIn n0 n1 n2 n3 then loadS s n0 n1 n2 n3 else s) ++ [.bool ob, .int .i64 lo]) 0) := by
  refine ecalls_of_ewp (args := [_, _]) Tryz.func25 rfl rfl rfl (by simp [Tryz.ntmps25]) (by kernel_rfl) ?_
  have cr := fun H => right_c n0 n1 n2 n3 H
  by_cases hf : fourIn n0 n1 n2 n3
  · rw [if_pos hf, if_pos hf]
    simp only [hf, decide_true] at cr
    obtain ⟨⟨d0, l0, g0, r0⟩, ⟨d1, l1, g1, r1⟩, ⟨d2, l2, g2, r2⟩, ⟨d3, l3, g3, r3⟩⟩ := s
    simp only [notesV, flat, loadS, List.cons_append, List.nil_append] at lp cr ⊢
    simp (disch := first | omega | assumption | decide | (simp <;> omega) | fail) [facts, ]
    refine fresh_intro fun b3 hb3 => ?_
    have q : p ≠ b3 := ne_of_fresh hb3 lp
    have q' := q.symm
    simp (disch := first | omega | assumption | decide | (simp <;> omega) | fail) [facts, upd_ne]
    refine (cr _).mono ?_
    rintro v H2 ⟨rfl, hle2⟩
    have l3 := hle2 _ _ (upd_same _ _ _)
    have hle : Heap.le (dele H p) H2 := le_dele p (Heap.le_trans (le_upd _ hb3) hle2)
    replace lp := hle2 _ _ (upd_other hb3 lp)
    have hpn := dele_none (H := H) p
    simp (disch := first | omega | assumption | decide | (simp <;> omega) | fail) [facts, l3, lp, upd_ne]
    refine w_unroll 5 ?_
    simp (disch := first | omega | assumption | decide | (simp <;> omega) | fail) [facts, l3, lp, upd_ne]
    refine w_plan (P := Tryz.prog) (by simp [facts]) (opsP [0,1,2,3,4,5,6,7,8,9,10,11,12,14,15,19,20,13,16,17,18,21,22,23] .done) ?_ ?_
    · decide +kernel
    simp (disch := first | omega | assumption | decide | (simp <;> omega) | fail) [facts, l3, lp, upd_ne, upd_upd]
    refine w_plan (P := Tryz.prog) (by simp [facts]) (opsP [0,1,2,3,4,5,6,7,8,9,10,11,12,14,15,19,20,13,16,17,18,21,22,23] .done) ?_ ?_
    · decide +kernel
    simp (disch := first | omega | assumption | decide | (simp <;> omega) | fail) [facts, l3, lp, upd_ne, upd_upd]
    refine w_plan (P := Tryz.prog) (by simp [facts]) (opsP [0,1,2,3,4,5,6,7,8,9,10,11,12,14,15,19,20,13,16,17,18,21,22,23] .done) ?_ ?_
    · decide +kernel
    simp (disch := first | omega | assumption | decide | (simp <;> omega) | fail) [facts, l3, lp, upd_ne, upd_upd]
    refine w_plan (P := Tryz.prog) (by simp [facts]) (opsP [0,1,2,3,4,5,6,7,8,9,10,11,12,14,15,19,20,13,16,17,18,21,22,23] .done) ?_ ?_
    · decide +kernel
    simp (disch := first | omega | assumption | decide | (simp <;> omega) | fail) [facts, l3, lp, upd_ne, upd_upd]
    refine ⟨_, Heap.le_refl _, ?_, by simp⟩
    repeat' (first | exact hle | exact Heap.le_refl _ | assumption | (refine le_of_none hle ?_; assumption) | apply le_updN)
  · rw [if_neg hf, if_neg hf]
    simp only [hf, decide_false] at cr
    simp only [notesV] at cr ⊢
    simp (disch := first | omega | assumption | decide | (simp <;> omega) | fail) [facts, ]
    refine fresh_intro fun b3 hb3 => ?_
    simp (disch := first | omega | assumption | decide | (simp <;> omega) | fail) [facts, ]
    refine (cr _).mono ?_
    rintro v H2 ⟨rfl, hle2⟩
    simp (disch := first | omega | assumption | decide | (simp <;> omega) | fail) [facts, ]
    exact ⟨_, Heap.le_refl _, le_dele p (Heap.le_trans (le_upd _ hb3) hle2), hle2 _ _ (upd_other hb3 lp)⟩

end Go.Proofs.YtfpighmafofoeaaGreatDoor.GL.Ca

namespace Go.Proofs.YtfpighmafofoeaaGreatDoor.GL.Ca
open Go Go.RowKit Go.Proofs.YtfpighmafofoeaaGreatDoor.GL
set_option maxRecDepth 10000
set_option pp.deepTerms.threshold 8
set_option pp.maxSteps 3000
set_option linter.unusedSimpArgs false
set_option linter.unusedVariables false

def fitS (s : S4) (n0 n1 n2 n3 r0 r1 r2 r3 : Int) : Prop := fitC s.a n0 r0 ∧ fitC s.b n1 r1 ∧ fitC s.c n2 r2 ∧ fitC s.e n3 r3
instance (c : Cs) (n r : Int) : Decidable (fitC c n r) := inferInstanceAs (Decidable (_ ≤ _))
instance (s : S4) (n0 n1 n2 n3 r0 r1 r2 r3 : Int) : Decidable (fitS s n0 n1 n2 n3 r0 r1 r2 r3) := inferInstanceAs (Decidable (_ ∧ _))
def addS (s : S4) (n0 n1 n2 n3 r0 r1 r2 r3 : Int) : S4 := ⟨addC s.a n0 r0, addC s.b n1 r1, addC s.c n2 r2, addC s.e n3 r3⟩

theorem give_c_bad (s : S4) (p : Nat) (n0 n1 n2 n3 r0 r1 r2 r3 : Int) (ob : Bool) (lo : Int) (H : Heap) (lp : H p = some (.row true 0 (flat s ++ [.bool ob, .int .i64 lo]) 0)) (hb : ¬ (fourIn n0 n1 n2 n3 ∧ fourIn r0 r1 r2 r3)) :
    ECalls Tryz.prog 26 #[.pointer (some ⟨p, 0, none⟩), notesV n0 n1 n2 n3, notesV r0 r1 r2 r3] H fun v H' => v = .int .i64 20 ∧ Heap.le H H' := by
  refine ecalls_of_ewp (args := [_, _, _]) Tryz.func26 rfl rfl rfl (by simp [Tryz.ntmps26]) (by kernel_rfl) ?_
  have cn := fun H => right_c n0 n1 n2 n3 H
  have cr := fun H => right_c r0 r1 r2 r3 H
  simp only [notesV] at cn cr ⊢
  simp (disch := first | omega | assumption | decide | (simp <;> omega) | fail) [facts, ]
  refine fresh_intro fun b4 hb4 => ?_
  simp (disch := first | omega | assumption | decide | (simp <;> omega) | fail) [facts, ]
  refine fresh_intro fun b5 hb5 => ?_
  have q45 : b4 ≠ b5 := ne_of_fresh hb5 (upd_same _ _ _)
  simp (disch := first | omega | assumption | decide | (simp <;> omega) | fail) [facts, upd_ne]
  refine (cn _).mono ?_
  rintro v H2 ⟨rfl, hle2⟩
  have hle := Heap.le_trans (le_upd _ hb4) (Heap.le_trans (le_upd _ hb5) hle2)
  have l5 := hle2 _ _ (upd_same _ _ _)
  by_cases hn : fourIn n0 n1 n2 n3
  · have hr : ¬ fourIn r0 r1 r2 r3 := fun h => hb ⟨hn, h⟩
    simp only [hr, decide_false] at cr
    simp (disch := first | omega | assumption | decide | (simp <;> omega) | fail) [facts, hn, l5]
    refine (cr _).mono ?_
    rintro v H3 ⟨rfl, hle3⟩
    simp (disch := first | omega | assumption | decide | (simp <;> omega) | fail) [facts, ]
    exact ⟨_, Heap.le_refl _, Heap.le_trans hle hle3⟩
  · simp (disch := first | omega | assumption | decide | (simp <;> omega) | fail) [facts, hn]
    exact ⟨_, Heap.le_refl _, hle⟩
set_option maxHeartbeats 1600000 in
theorem give_c (s : S4) (p : Nat) (n0 n1 n2 n3 r0 r1 r2 r3 : Int) (ob : Bool) (lo : Int) (H : Heap) (lp : H p = some (.row true 0 (flat s ++ [.bool ob, .int .i64 lo]) 0)) (hs : OkS s) (hn : fourIn n0 n1 n2 n3) (hr : fourIn r0 r1 r2 r3) :
    ECalls Tryz.prog 26 #[.pointer (some ⟨p, 0, none⟩), notesV n0 n1 n2 n3, notesV r0 r1 r2 r3] H fun v H' => v = .int .i64 (if fitS s n0 n1 n2 n3 r0 r1 r2 r3 then 0 else 25) ∧ Heap.le (dele H p) H' ∧ H' p = some (.row true 0 (flat (if fitS s n0 n1 n2 n3 r0 r1 r2 r3 then addS s n0 n1 n2 n3 r0 r1 r2 r3 else s) ++ [.bool ob, .int .i64 lo]) 0) := by
  refine ecalls_of_ewp (args := [_, _, _]) Tryz.func26 rfl rfl rfl (by simp [Tryz.ntmps26]) (by kernel_rfl) ?_
  have cn := fun H => right_c n0 n1 n2 n3 H
  have cr := fun H => right_c r0 r1 r2 r3 H
  have cl := fun d l g r H => left_c d l g r H
  simp only [hn, decide_true] at cn
  simp only [hr, decide_true] at cr
  obtain ⟨⟨d0, l0, g0, rr0⟩, ⟨d1, l1, g1, rr1⟩, ⟨d2, l2, g2, rr2⟩, ⟨d3, l3, g3, rr3⟩⟩ := s
  obtain ⟨⟨ol0, og0, or0, oe0, _⟩, ⟨ol1, og1, or1, oe1, _⟩, ⟨ol2, og2, or2, oe2, _⟩, ⟨ol3, og3, or3, oe3, _⟩⟩ := hs
  obtain ⟨fn0, fn1, fn2, fn3⟩ := hn
  obtain ⟨fr0, fr1, fr2, fr3⟩ := hr
  unfold fewIn at fn0 fn1 fn2 fn3 fr0 fr1 fr2 fr3 ol0 og0 or0 ol1 og1 or1 ol2 og2 or2 ol3 og3 or3
  simp only at ol0 og0 or0 oe0 ol1 og1 or1 oe1 ol2 og2 or2 oe2 ol3 og3 or3 oe3
  simp only [notesV, cassV, flat, List.cons_append, List.nil_append] at lp cn cr cl ⊢
  obtain ⟨E, hE⟩ : ∃ E : Int, E = if fitS ⟨⟨d0, l0, g0, rr0⟩, ⟨d1, l1, g1, rr1⟩, ⟨d2, l2, g2, rr2⟩, ⟨d3, l3, g3, rr3⟩⟩ n0 n1 n2 n3 r0 r1 r2 r3 then 0 else 25 := ⟨_, rfl⟩
  simp (disch := first | omega | assumption | decide | (simp <;> omega) | fail) [facts, ]
  refine fresh_intro fun b4 hb4 => ?_
  simp (disch := first | omega | assumption | decide | (simp <;> omega) | fail) [facts, ]
  refine fresh_intro fun b5 hb5 => ?_
  have q4 : p ≠ b4 := ne_of_fresh hb4 lp
  have q45 : b4 ≠ b5 := ne_of_fresh hb5 (upd_same _ _ _)
  have q5 : p ≠ b5 := ne_of_fresh hb5 (by rw [upd_ne _ _ q4]; exact lp)
  have q4' := q4.symm
  have q5' := q5.symm
  simp (disch := first | omega | assumption | decide | (simp <;> omega) | fail) [facts, upd_ne]
  refine (cn _).mono ?_
  rintro v H2 ⟨rfl, hle2⟩
  have hle : Heap.le (dele H p) H2 := le_dele p (Heap.le_trans (le_upd _ hb4) (Heap.le_trans (le_upd _ hb5) hle2))
  have l5 := hle2 _ _ (upd_same _ _ _)
  have l4 := hle2 _ _ (upd_other hb5 (upd_same _ _ _))
  replace lp := hle2 _ _ (upd_other hb5 (upd_other hb4 lp))
  simp (disch := first | omega | assumption | decide | (simp <;> omega) | fail) [facts, l4, l5, lp]
  refine (cr _).mono ?_
  rintro v H3 ⟨rfl, hle3⟩
  replace hle := Heap.le_trans hle hle3
  replace l4 := hle3 _ _ l4
  replace l5 := hle3 _ _ l5
  replace lp := hle3 _ _ lp
  have hpn := dele_none (H := H) p
  have h4n : dele H p b4 = none := by rw [dele_ne _ q4']; exact hb4
  simp (disch := first | omega | assumption | decide | (simp <;> omega) | fail) [facts, l4, l5, lp]
  refine w_unroll 5 ?_
  simp (disch := first | omega | assumption | decide | (simp <;> omega) | fail) [facts, l4, l5, lp]
  refine fresh_abs (fun H' => Heap.le (dele H p) H' ∧ H' p = some (.row true 0 [.int .i64 d0, .int .i64 l0, .int .i64 g0, .int .i64 rr0, .int .i64 d1, .int .i64 l1, .int .i64 g1, .int .i64 rr1, .int .i64 d2, .int .i64 l2, .int .i64 g2, .int .i64 rr2, .int .i64 d3, .int .i64 l3, .int .i64 g3, .int .i64 rr3, .bool ob, .int .i64 lo] 0) ∧ H' b4 = some (.row true 0 [.int .i64 n0, .int .i64 n1, .int .i64 n2, .int .i64 n3] 0) ∧ H' b5 = some (.row true 0 [.int .i64 r0, .int .i64 r1, .int .i64 r2, .int .i64 r3] 0)) ⟨hle, lp, l4, l5⟩ ?_
  clear hle lp l4 l5
  rintro G0 x0 ⟨hle, lp, l4, l5⟩ hx0
  have y0p : p ≠ x0 := ne_of_fresh hx0 lp
  have y04 : b4 ≠ x0 := ne_of_fresh hx0 l4
  have y05 : b5 ≠ x0 := ne_of_fresh hx0 l5
  simp (disch := first | omega | assumption | decide | (simp <;> omega) | fail) [facts, lp, l4, l5, upd_ne, upd_upd]
  refine w_cut (fun s => s.env 0 = .pointer (some ⟨p, 0, none⟩) ∧ s.env 4 = .pointer (some ⟨b4, 0, none⟩) ∧ s.env 5 = .pointer (some ⟨b5, 0, none⟩) ∧ s.env 21 = .agg [.int .i64 d0, .int .i64 l0, .int .i64 g0, .int .i64 rr0, .int .i64 d1, .int .i64 l1, .int .i64 g1, .int .i64 rr1, .int .i64 d2, .int .i64 l2, .int .i64 g2, .int .i64 rr2, .int .i64 d3, .int .i64 l3, .int .i64 g3, .int .i64 rr3].toArray ∧ s.env 22 = .int .i64 0 ∧ s.env 35 = .bool (decide (leftZ l0 g0 rr0 < n0 + r0)) ∧ Heap.le (dele H p) s.heap ∧ s.heap p = some (.row true 0 [.int .i64 d0, .int .i64 l0, .int .i64 g0, .int .i64 rr0, .int .i64 d1, .int .i64 l1, .int .i64 g1, .int .i64 rr1, .int .i64 d2, .int .i64 l2, .int .i64 g2, .int .i64 rr2, .int .i64 d3, .int .i64 l3, .int .i64 g3, .int .i64 rr3, .bool ob, .int .i64 lo] 0) ∧ s.heap b4 = some (.row true 0 [.int .i64 n0, .int .i64 n1, .int .i64 n2, .int .i64 n3] 0) ∧ s.heap b5 = some (.row true 0 [.int .i64 r0, .int .i64 r1, .int .i64 r2, .int .i64 r3] 0)) ?_ ?_
  · refine w_plan (P := Tryz.prog) (by simp [facts]) (opsP [0,1,3,4,7] (.both (opsP [2] (.both (opsP [5,6,8,9] .done) (opsP [8,5,6,9] .done))) (.both (opsP [5] (.both (opsP [2,6,8,9] .done) (opsP [8,2,6,9] .done))) (opsP [8] (.both (opsP [2,5,6,9] .done) (opsP [5,2,6,9] .done)))))) ?_ ?_
    · decide +kernel
    simp (disch := first | omega | assumption | decide | (simp <;> omega) | fail) [facts, lp, l4, l5, upd_ne, upd_upd]
    try (repeat' apply And.intro)
    all_goals
      refine (cl d0 l0 g0 rr0 _).mono ?_
      rintro v G ⟨rfl, hleG⟩
      have hleG' := Heap.le_trans (le_upd _ hx0) hleG
      have m4 := hleG' _ _ l4
      have m5 := hleG' _ _ l5
      have mp := hleG' _ _ lp
      simp (disch := first | omega | assumption | decide | (simp <;> omega) | fail) [facts, m4, m5, mp]
      exact Heap.le_trans hle hleG'
  clear hle lp l4 l5
  rintro ⟨e, J0⟩ ⟨e0, e4, e5, e21, e22, e35, hle, lp, l4, l5⟩
  simp only at e0 e4 e5 e21 e22 e35 hle lp l4 l5
  by_cases f0 : leftZ l0 g0 rr0 < n0 + r0
  · have hno : ¬ fitS ⟨⟨d0, l0, g0, rr0⟩, ⟨d1, l1, g1, rr1⟩, ⟨d2, l2, g2, rr2⟩, ⟨d3, l3, g3, rr3⟩⟩ n0 n1 n2 n3 r0 r1 r2 r3 := fun h => by
      have := h.1; unfold fitC at this; simp only at this; omega
    simp (disch := first | omega | assumption | decide | (simp <;> omega) | fail) [facts, e0, e4, e5, e21, e22, e35, f0, hno, lp]
    exact ⟨_, Heap.le_refl _, hle, lp⟩
  simp (disch := first | omega | assumption | decide | (simp <;> omega) | fail) [facts, e0, e4, e5, e21, e22, e35, f0]
  refine fresh_abs (fun H' => Heap.le (dele H p) H' ∧ H' p = some (.row true 0 [.int .i64 d0, .int .i64 l0, .int .i64 g0, .int .i64 rr0, .int .i64 d1, .int .i64 l1, .int .i64 g1, .int .i64 rr1, .int .i64 d2, .int .i64 l2, .int .i64 g2, .int .i64 rr2, .int .i64 d3, .int .i64 l3, .int .i64 g3, .int .i64 rr3, .bool ob, .int .i64 lo] 0) ∧ H' b4 = some (.row true 0 [.int .i64 n0, .int .i64 n1, .int .i64 n2, .int .i64 n3] 0) ∧ H' b5 = some (.row true 0 [.int .i64 r0, .int .i64 r1, .int .i64 r2, .int .i64 r3] 0)) ⟨hle, lp, l4, l5⟩ ?_
  clear hle lp l4 l5
  rintro G1 x1 ⟨hle, lp, l4, l5⟩ hx1
  have y1p : p ≠ x1 := ne_of_fresh hx1 lp
  have y14 : b4 ≠ x1 := ne_of_fresh hx1 l4
  have y15 : b5 ≠ x1 := ne_of_fresh hx1 l5
  simp (disch := first | omega | assumption | decide | (simp <;> omega) | fail) [facts, e0, e4, e5, e21, e22, lp, l4, l5, upd_ne, upd_upd]
  refine w_cut (fun s => s.env 0 = .pointer (some ⟨p, 0, none⟩) ∧ s.env 4 = .pointer (some ⟨b4, 0, none⟩) ∧ s.env 5 = .pointer (some ⟨b5, 0, none⟩) ∧ s.env 21 = .agg [.int .i64 d0, .int .i64 l0, .int .i64 g0, .int .i64 rr0, .int .i64 d1, .int .i64 l1, .int .i64 g1, .int .i64 rr1, .int .i64 d2, .int .i64 l2, .int .i64 g2, .int .i64 rr2, .int .i64 d3, .int .i64 l3, .int .i64 g3, .int .i64 rr3].toArray ∧ s.env 22 = .int .i64 1 ∧ s.env 35 = .bool (decide (leftZ l1 g1 rr1 < n1 + r1)) ∧ Heap.le (dele H p) s.heap ∧ s.heap p = some (.row true 0 [.int .i64 d0, .int .i64 l0, .int .i64 g0, .int .i64 rr0, .int .i64 d1, .int .i64 l1, .int .i64 g1, .int .i64 rr1, .int .i64 d2, .int .i64 l2, .int .i64 g2, .int .i64 rr2, .int .i64 d3, .int .i64 l3, .int .i64 g3, .int .i64 rr3, .bool ob, .int .i64 lo] 0) ∧ s.heap b4 = some (.row true 0 [.int .i64 n0, .int .i64 n1, .int .i64 n2, .int .i64 n3] 0) ∧ s.heap b5 = some (.row true 0 [.int .i64 r0, .int .i64 r1, .int .i64 r2, .int .i64 r3] 0)) ?_ ?_
  · refine w_plan (P := Tryz.prog) (by simp [facts]) (opsP [0,1,3,4,7] (.both (opsP [2] (.both (opsP [5,6,8,9] .done) (opsP [8,5,6,9] .done))) (.both (opsP [5] (.both (opsP [2,6,8,9] .done) (opsP [8,2,6,9] .done))) (opsP [8] (.both (opsP [2,5,6,9] .done) (opsP [5,2,6,9] .done)))))) ?_ ?_
    · decide +kernel
    simp (disch := first | omega | assumption | decide | (simp <;> omega) | fail) [facts, e0, e4, e5, e21, e22, lp, l4, l5, upd_ne, upd_upd]
    try (repeat' apply And.intro)
    all_goals
      refine (cl d1 l1 g1 rr1 _).mono ?_
      rintro v G ⟨rfl, hleG⟩
      have hleG' := Heap.le_trans (le_upd _ hx1) hleG
      have m4 := hleG' _ _ l4
      have m5 := hleG' _ _ l5
      have mp := hleG' _ _ lp
      simp (disch := first | omega | assumption | decide | (simp <;> omega) | fail) [facts, e0, e4, e5, e21, e22, m4, m5, mp]
      exact Heap.le_trans hle hleG'
  clear hle lp l4 l5
  rintro ⟨e, J1⟩ ⟨e0, e4, e5, e21, e22, e35, hle, lp, l4, l5⟩
  simp only at e0 e4 e5 e21 e22 e35 hle lp l4 l5
  by_cases f1 : leftZ l1 g1 rr1 < n1 + r1
  · have hno : ¬ fitS ⟨⟨d0, l0, g0, rr0⟩, ⟨d1, l1, g1, rr1⟩, ⟨d2, l2, g2, rr2⟩, ⟨d3, l3, g3, rr3⟩⟩ n0 n1 n2 n3 r0 r1 r2 r3 := fun h => by
      have := h.2.1; unfold fitC at this; simp only at this; omega
    simp (disch := first | omega | assumption | decide | (simp <;> omega) | fail) [facts, e0, e4, e5, e21, e22, e35, f1, hno, lp]
    exact ⟨_, Heap.le_refl _, hle, lp⟩
  simp (disch := first | omega | assumption | decide | (simp <;> omega) | fail) [facts, e0, e4, e5, e21, e22, e35, f1]
  refine fresh_abs (fun H' => Heap.le (dele H p) H' ∧ H' p = some (.row true 0 [.int .i64 d0, .int .i64 l0, .int .i64 g0, .int .i64 rr0, .int .i64 d1, .int .i64 l1, .int .i64 g1, .int .i64 rr1, .int .i64 d2, .int .i64 l2, .int .i64 g2, .int .i64 rr2, .int .i64 d3, .int .i64 l3, .int .i64 g3, .int .i64 rr3, .bool ob, .int .i64 lo] 0) ∧ H' b4 = some (.row true 0 [.int .i64 n0, .int .i64 n1, .int .i64 n2, .int .i64 n3] 0) ∧ H' b5 = some (.row true 0 [.int .i64 r0, .int .i64 r1, .int .i64 r2, .int .i64 r3] 0)) ⟨hle, lp, l4, l5⟩ ?_
  clear hle lp l4 l5
  rintro G2 x2 ⟨hle, lp, l4, l5⟩ hx2
  have y2p : p ≠ x2 := ne_of_fresh hx2 lp
  have y24 : b4 ≠ x2 := ne_of_fresh hx2 l4
  have y25 : b5 ≠ x2 := ne_of_fresh hx2 l5
  simp (disch := first | omega | assumption | decide | (simp <;> omega) | fail) [facts, e0, e4, e5, e21, e22, lp, l4, l5, upd_ne, upd_upd]
  refine w_cut (fun s => s.env 0 = .pointer (some ⟨p, 0, none⟩) ∧ s.env 4 = .pointer (some ⟨b4, 0, none⟩) ∧ s.env 5 = .pointer (some ⟨b5, 0, none⟩) ∧ s.env 21 = .agg [.int .i64 d0, .int .i64 l0, .int .i64 g0, .int .i64 rr0, .int .i64 d1, .int .i64 l1, .int .i64 g1, .int .i64 rr1, .int .i64 d2, .int .i64 l2, .int .i64 g2, .int .i64 rr2, .int .i64 d3, .int .i64 l3, .int .i64 g3, .int .i64 rr3].toArray ∧ s.env 22 = .int .i64 2 ∧ s.env 35 = .bool (decide (leftZ l2 g2 rr2 < n2 + r2)) ∧ Heap.le (dele H p) s.heap ∧ s.heap p = some (.row true 0 [.int .i64 d0, .int .i64 l0, .int .i64 g0, .int .i64 rr0, .int .i64 d1, .int .i64 l1, .int .i64 g1, .int .i64 rr1, .int .i64 d2, .int .i64 l2, .int .i64 g2, .int .i64 rr2, .int .i64 d3, .int .i64 l3, .int .i64 g3, .int .i64 rr3, .bool ob, .int .i64 lo] 0) ∧ s.heap b4 = some (.row true 0 [.int .i64 n0, .int .i64 n1, .int .i64 n2, .int .i64 n3] 0) ∧ s.heap b5 = some (.row true 0 [.int .i64 r0, .int .i64 r1, .int .i64 r2, .int .i64 r3] 0)) ?_ ?_
  · refine w_plan (P := Tryz.prog) (by simp [facts]) (opsP [0,1,3,4,7] (.both (opsP [2] (.both (opsP [5,6,8,9] .done) (opsP [8,5,6,9] .done))) (.both (opsP [5] (.both (opsP [2,6,8,9] .done) (opsP [8,2,6,9] .done))) (opsP [8] (.both (opsP [2,5,6,9] .done) (opsP [5,2,6,9] .done)))))) ?_ ?_
    · decide +kernel
    simp (disch := first | omega | assumption | decide | (simp <;> omega) | fail) [facts, e0, e4, e5, e21, e22, lp, l4, l5, upd_ne, upd_upd]
    try (repeat' apply And.intro)
    all_goals
      refine (cl d2 l2 g2 rr2 _).mono ?_
      rintro v G ⟨rfl, hleG⟩
      have hleG' := Heap.le_trans (le_upd _ hx2) hleG
      have m4 := hleG' _ _ l4
      have m5 := hleG' _ _ l5
      have mp := hleG' _ _ lp
      simp (disch := first | omega | assumption | decide | (simp <;> omega) | fail) [facts, e0, e4, e5, e21, e22, m4, m5, mp]
      exact Heap.le_trans hle hleG'
  clear hle lp l4 l5
  rintro ⟨e, J2⟩ ⟨e0, e4, e5, e21, e22, e35, hle, lp, l4, l5⟩
  simp only at e0 e4 e5 e21 e22 e35 hle lp l4 l5
  by_cases f2 : leftZ l2 g2 rr2 < n2 + r2
  · have hno : ¬ fitS ⟨⟨d0, l0, g0, rr0⟩, ⟨d1, l1, g1, rr1⟩, ⟨d2, l2, g2, rr2⟩, ⟨d3, l3, g3, rr3⟩⟩ n0 n1 n2 n3 r0 r1 r2 r3 := fun h => by
      have := h.2.2.1; unfold fitC at this; simp only at this; omega
    simp (disch := first | omega | assumption | decide | (simp <;> omega) | fail) [facts, e0, e4, e5, e21, e22, e35, f2, hno, lp]
    exact ⟨_, Heap.le_refl _, hle, lp⟩
  simp (disch := first | omega | assumption | decide | (simp <;> omega) | fail) [facts, e0, e4, e5, e21, e22, e35, f2]
  refine fresh_abs (fun H' => Heap.le (dele H p) H' ∧ H' p = some (.row true 0 [.int .i64 d0, .int .i64 l0, .int .i64 g0, .int .i64 rr0, .int .i64 d1, .int .i64 l1, .int .i64 g1, .int .i64 rr1, .int .i64 d2, .int .i64 l2, .int .i64 g2, .int .i64 rr2, .int .i64 d3, .int .i64 l3, .int .i64 g3, .int .i64 rr3, .bool ob, .int .i64 lo] 0) ∧ H' b4 = some (.row true 0 [.int .i64 n0, .int .i64 n1, .int .i64 n2, .int .i64 n3] 0) ∧ H' b5 = some (.row true 0 [.int .i64 r0, .int .i64 r1, .int .i64 r2, .int .i64 r3] 0)) ⟨hle, lp, l4, l5⟩ ?_
  clear hle lp l4 l5
  rintro G3 x3 ⟨hle, lp, l4, l5⟩ hx3
  have y3p : p ≠ x3 := ne_of_fresh hx3 lp
  have y34 : b4 ≠ x3 := ne_of_fresh hx3 l4
  have y35 : b5 ≠ x3 := ne_of_fresh hx3 l5
  simp (disch := first | omega | assumption | decide | (simp <;> omega) | fail) [facts, e0, e4, e5, e21, e22, lp, l4, l5, upd_ne, upd_upd]
  refine w_cut (fun s => s.env 0 = .pointer (some ⟨p, 0, none⟩) ∧ s.env 4 = .pointer (some ⟨b4, 0, none⟩) ∧ s.env 5 = .pointer (some ⟨b5, 0, none⟩) ∧ s.env 21 = .agg [.int .i64 d0, .int .i64 l0, .int .i64 g0, .int .i64 rr0, .int .i64 d1, .int .i64 l1, .int .i64 g1, .int .i64 rr1, .int .i64 d2, .int .i64 l2, .int .i64 g2, .int .i64 rr2, .int .i64 d3, .int .i64 l3, .int .i64 g3, .int .i64 rr3].toArray ∧ s.env 22 = .int .i64 3 ∧ s.env 35 = .bool (decide (leftZ l3 g3 rr3 < n3 + r3)) ∧ Heap.le (dele H p) s.heap ∧ s.heap p = some (.row true 0 [.int .i64 d0, .int .i64 l0, .int .i64 g0, .int .i64 rr0, .int .i64 d1, .int .i64 l1, .int .i64 g1, .int .i64 rr1, .int .i64 d2, .int .i64 l2, .int .i64 g2, .int .i64 rr2, .int .i64 d3, .int .i64 l3, .int .i64 g3, .int .i64 rr3, .bool ob, .int .i64 lo] 0) ∧ s.heap b4 = some (.row true 0 [.int .i64 n0, .int .i64 n1, .int .i64 n2, .int .i64 n3] 0) ∧ s.heap b5 = some (.row true 0 [.int .i64 r0, .int .i64 r1, .int .i64 r2, .int .i64 r3] 0)) ?_ ?_
  · refine w_plan (P := Tryz.prog) (by simp [facts]) (opsP [0,1,3,4,7] (.both (opsP [2] (.both (opsP [5,6,8,9] .done) (opsP [8,5,6,9] .done))) (.both (opsP [5] (.both (opsP [2,6,8,9] .done) (opsP [8,2,6,9] .done))) (opsP [8] (.both (opsP [2,5,6,9] .done) (opsP [5,2,6,9] .done)))))) ?_ ?_
    · decide +kernel
    simp (disch := first | omega | assumption | decide | (simp <;> omega) | fail) [facts, e0, e4, e5, e21, e22, lp, l4, l5, upd_ne, upd_upd]
    try (repeat' apply And.intro)
    all_goals
      refine (cl d3 l3 g3 rr3 _).mono ?_
      rintro v G ⟨rfl, hleG⟩
      have hleG' := Heap.le_trans (le_upd _ hx3) hleG
      have m4 := hleG' _ _ l4
      have m5 := hleG' _ _ l5
      have mp := hleG' _ _ lp
      simp (disch := first | omega | assumption | decide | (simp <;> omega) | fail) [facts, e0, e4, e5, e21, e22, m4, m5, mp]
      exact Heap.le_trans hle hleG'
  clear hle lp l4 l5
  rintro ⟨e, J3⟩ ⟨e0, e4, e5, e21, e22, e35, hle, lp, l4, l5⟩
  simp only at e0 e4 e5 e21 e22 e35 hle lp l4 l5
  by_cases f3 : leftZ l3 g3 rr3 < n3 + r3
  · have hno : ¬ fitS ⟨⟨d0, l0, g0, rr0⟩, ⟨d1, l1, g1, rr1⟩, ⟨d2, l2, g2, rr2⟩, ⟨d3, l3, g3, rr3⟩⟩ n0 n1 n2 n3 r0 r1 r2 r3 := fun h => by
      have := h.2.2.2; unfold fitC at this; simp only at this; omega
    simp (disch := first | omega | assumption | decide | (simp <;> omega) | fail) [facts, e0, e4, e5, e21, e22, e35, f3, hno, lp]
    exact ⟨_, Heap.le_refl _, hle, lp⟩
  simp (disch := first | omega | assumption | decide | (simp <;> omega) | fail) [facts, e0, e4, e5, e21, e22, e35, f3]
  have hyes : fitS ⟨⟨d0, l0, g0, rr0⟩, ⟨d1, l1, g1, rr1⟩, ⟨d2, l2, g2, rr2⟩, ⟨d3, l3, g3, rr3⟩⟩ n0 n1 n2 n3 r0 r1 r2 r3 := ⟨Int.not_lt.1 f0, Int.not_lt.1 f1, Int.not_lt.1 f2, Int.not_lt.1 f3⟩
  have k0 : leftZ l0 g0 rr0 ≤ 10000 ∧ leftZ l1 g1 rr1 ≤ 10000 ∧ leftZ l2 g2 rr2 ≤ 10000 ∧ leftZ l3 g3 rr3 ≤ 10000 := by unfold leftZ fewIn; refine ⟨?_, ?_, ?_, ?_⟩ <;> split <;> omega
  refine w_unroll 5 ?_
  simp (disch := first | omega | assumption | decide | (simp <;> omega) | fail) [facts, e0, e4, e5, lp, l4, l5, upd_ne]
  refine w_plan (P := Tryz.prog) (by simp [facts]) (opsP [0,1,2,3,4,5,6,7,8,9,10,11,12,13,14,15] .done) ?_ ?_
  · decide +kernel
  simp (disch := first | omega | assumption | decide | (simp <;> omega) | fail) [facts, e0, e4, e5, lp, l4, l5, upd_ne, upd_upd]
  refine w_plan (P := Tryz.prog) (by simp [facts]) (opsP [0,1,2,3,4,5,6,7,8,9,10,11,12,13,14,15] .done) ?_ ?_
  · decide +kernel
  simp (disch := first | omega | assumption | decide | (simp <;> omega) | fail) [facts, e0, e4, e5, lp, l4, l5, upd_ne, upd_upd]
  refine w_plan (P := Tryz.prog) (by simp [facts]) (opsP [0,1,2,3,4,5,6,7,8,9,10,11,12,13,14,15] .done) ?_ ?_
  · decide +kernel
  simp (disch := first | omega | assumption | decide | (simp <;> omega) | fail) [facts, e0, e4, e5, lp, l4, l5, upd_ne, upd_upd]
  refine w_plan (P := Tryz.prog) (by simp [facts]) (opsP [0,1,2,3,4,5,6,7,8,9,10,11,12,13,14,15] .done) ?_ ?_
  · decide +kernel
  simp (disch := first | omega | assumption | decide | (simp <;> omega) | fail) [facts, e0, e4, e5, lp, l4, l5, upd_ne, upd_upd]
  refine w_plan (P := Tryz.prog) (by simp [facts]) (opsP [0,1,2,3,4,5,6,7,8,9,10,11,12,13,14,15] .done) ?_ ?_
  · decide +kernel
  simp (disch := first | omega | assumption | decide | (simp <;> omega) | fail) [facts, e0, e4, e5, lp, l4, l5, upd_ne, upd_upd]
  refine w_plan (P := Tryz.prog) (by simp [facts]) (opsP [0,1,2,3,4,5,6,7,8,9,10,11,12,13,14,15] .done) ?_ ?_
  · decide +kernel
  simp (disch := first | omega | assumption | decide | (simp <;> omega) | fail) [facts, e0, e4, e5, lp, l4, l5, upd_ne, upd_upd]
  refine w_plan (P := Tryz.prog) (by simp [facts]) (opsP [0,1,2,3,4,5,6,7,8,9,10,11,12,13,14,15] .done) ?_ ?_
  · decide +kernel
  simp (disch := first | omega | assumption | decide | (simp <;> omega) | fail) [facts, e0, e4, e5, lp, l4, l5, upd_ne, upd_upd]
  refine w_plan (P := Tryz.prog) (by simp [facts]) (opsP [0,1,2,3,4,5,6,7,8,9,10,11,12,13,14,15] .done) ?_ ?_
  · decide +kernel
  simp (disch := first | omega | assumption | decide | (simp <;> omega) | fail) [facts, e0, e4, e5, lp, l4, l5, upd_ne, upd_upd, hyes, addS, addC]
  refine ⟨_, Heap.le_refl _, ?_, by simp⟩
  repeat' (first | exact hle | exact Heap.le_refl _ | assumption | (refine le_of_none hle ?_; assumption) | apply le_updN)

end Go.Proofs.YtfpighmafofoeaaGreatDoor.GL.Ca

namespace Go.Proofs.YtfpighmafofoeaaGreatDoor.GL.Ca
open Go Go.RowKit Go.Proofs.YtfpighmafofoeaaGreatDoor.GL
set_option maxRecDepth 10000
set_option pp.deepTerms.threshold 8
set_option pp.maxSteps 3000
set_option linter.unusedSimpArgs false
set_option linter.unusedVariables false

theorem count_c (z : Int) (H : Heap) : ECalls Tryz.prog 76 #[.int .i64 z] H fun v H' => v = .bool (decide (fewIn z)) ∧ H' = H := by
  refine ecalls_of_ewp (args := [_]) Tryz.func76 rfl rfl rfl (by simp [Tryz.ntmps76]) (by kernel_rfl) ?_
  by_cases h1 : 0 ≤ z
  · by_cases h2 : z ≤ 10000
    · simp (disch := first | omega | assumption | decide | (simp <;> omega) | fail) [facts, h1, h2, show fewIn z from ⟨h1, h2⟩]
    · simp (disch := first | omega | assumption | decide | (simp <;> omega) | fail) [facts, h1, h2, show ¬ fewIn z from fun h => h2 h.2]
  · simp (disch := first | omega | assumption | decide | (simp <;> omega) | fail) [facts, h1, show ¬ fewIn z from fun h => h1 h.1]
theorem leftR_c (d l g r : Int) (H : Heap) : ECalls Tryz.prog 53 #[cassV d l g r] H fun v H' => v = .int .i64 (leftZ l g r) ∧ Heap.le H H' := by
  refine ecalls_of_ewp (args := [_]) Tryz.func53 rfl rfl rfl (by simp [Tryz.ntmps53]) (by kernel_rfl) ?_
  unfold cassV leftZ
  simp (disch := first | omega | assumption | decide | (simp <;> omega) | fail) [facts, ]
  refine fresh_intro fun b1 hb1 => ?_
  have hle := le_upd (.row true 0 [.int .i64 d, .int .i64 l, .int .i64 g, .int .i64 r] 0) hb1
  have l1 := upd_same H b1 (.row true 0 [.int .i64 d, .int .i64 l, .int .i64 g, .int .i64 r] 0)
  generalize upd H b1 (.row true 0 [.int .i64 d, .int .i64 l, .int .i64 g, .int .i64 r] 0) = H1 at *
  simp (disch := first | omega | assumption | decide | (simp <;> omega) | fail) [facts, l1]
  refine (count_c l _).mono ?_
  rintro v H2 ⟨rfl, rfl⟩
  by_cases hl : fewIn l
  · simp (disch := first | omega | assumption | decide | (simp <;> omega) | fail) [facts, l1, hl]
    refine (count_c g _).mono ?_
    rintro v H2 ⟨rfl, rfl⟩
    by_cases hg : fewIn g
    · simp (disch := first | omega | assumption | decide | (simp <;> omega) | fail) [facts, l1, hg]
      refine (count_c r _).mono ?_
      rintro v H2 ⟨rfl, rfl⟩
      by_cases hr : fewIn r
      · have hl' := hl
        have hg' := hg
        have hr' := hr
        unfold fewIn at hl' hg' hr'
        simp (disch := first | omega | assumption | decide | (simp <;> omega) | fail) [facts, l1, hr]
        exact ⟨_, Heap.le_refl _, hle⟩
      · simp (disch := first | omega | assumption | decide | (simp <;> omega) | fail) [facts, l1, hr]
        exact ⟨_, Heap.le_refl _, hle⟩
    · simp (disch := first | omega | assumption | decide | (simp <;> omega) | fail) [facts, l1, hg]
      exact ⟨_, Heap.le_refl _, hle⟩
  · simp (disch := first | omega | assumption | decide | (simp <;> omega) | fail) [facts, l1, hl]
    exact ⟨_, Heap.le_refl _, hle⟩

set_option maxHeartbeats 400000 in
theorem newR_c (s : S4) (H : Heap) : ECalls Tryz.prog 23 #[setV s] H fun v H' => ∃ p, v = .pointer (some ⟨p, 0, none⟩) ∧ H p = none ∧ H' p = some (.row true 0 (flat (newS s)) 0) ∧ Heap.le H H' := by
  refine ecalls_of_ewp (args := [_]) Tryz.func23 rfl rfl rfl (by simp [Tryz.ntmps23]) (by kernel_rfl) ?_
  obtain ⟨⟨d0, l0, g0, r0⟩, ⟨d1, l1, g1, r1⟩, ⟨d2, l2, g2, r2⟩, ⟨d3, l3, g3, r3⟩⟩ := s
  simp only [setV, flat, newS, newC]
  simp (disch := first | omega | assumption | decide | (simp <;> omega) | fail) [facts, ]
  refine fresh_intro fun b1 hb1 => ?_
  simp (disch := first | omega | assumption | decide | (simp <;> omega) | fail) [facts, ]
  refine fresh_intro fun p hp => ?_
  have q1 : b1 ≠ p := ne_of_fresh hp (upd_same _ _ _)
  have hpn : H p = none := le_of_none (le_upd _ hb1) hp
  simp (disch := first | omega | assumption | decide | (simp <;> omega) | fail) [facts, upd_ne]
  refine w_unroll 5 ?_
  simp (disch := first | omega | assumption | decide | (simp <;> omega) | fail) [facts, upd_ne]
  have hle := Heap.le_refl H
  refine w_plan (P := Tryz.prog) (by simp [facts]) (opsP [0,1,2,3,4,5,6,7,8,9,10,11,12,13,14,15,16] .done) ?_ ?_
  · decide +kernel
  simp (disch := first | omega | assumption | decide | (simp <;> omega) | fail) [facts, upd_ne, upd_upd]
  refine w_plan (P := Tryz.prog) (by simp [facts]) (opsP [0,1,2,3,4,5,6,7,8,9,10,11,12,13,14,15,16] .done) ?_ ?_
  · decide +kernel
  simp (disch := first | omega | assumption | decide | (simp <;> omega) | fail) [facts, upd_ne, upd_upd]
  refine w_plan (P := Tryz.prog) (by simp [facts]) (opsP [0,1,2,3,4,5,6,7,8,9,10,11,12,13,14,15,16] .done) ?_ ?_
  · decide +kernel
  simp (disch := first | omega | assumption | decide | (simp <;> omega) | fail) [facts, upd_ne, upd_upd]
  refine w_plan (P := Tryz.prog) (by simp [facts]) (opsP [0,1,2,3,4,5,6,7,8,9,10,11,12,13,14,15,16] .done) ?_ ?_
  · decide +kernel
  simp (disch := first | omega | assumption | decide | (simp <;> omega) | fail) [facts, upd_ne, upd_upd]
  refine ⟨_, Heap.le_refl _, hpn, by simp, ?_⟩
  repeat' (first | exact hle | exact Heap.le_refl _ | assumption | (refine le_of_none hle ?_; assumption) | apply le_updN)

set_option maxHeartbeats 400000 in
theorem loadR_c (s : S4) (p : Nat) (n0 n1 n2 n3 : Int) (H : Heap) (lp : H p = some (.row true 0 (flat s) 0)) : ECalls Tryz.prog 29 #[.pointer (some ⟨p, 0, none⟩), notesV n0 n1 n2 n3] H fun v H' => v = .int .i64 (if fourIn n0 n1 n2 n3 then 0 else 20) ∧ Heap.le (dele H p) H' ∧ H' p = some (.row true 0 (flat (if fourIn n0 n1 n2 n3 then loadS s n0 n1 n2 n3 else s)) 0) := by
  refine ecalls_of_ewp (args := [_, _]) Tryz.func29 rfl rfl rfl (by simp [Tryz.ntmps29]) (by kernel_rfl) ?_
  have cr := fun H => few_c n0 n1 n2 n3 H
  by_cases hf : fourIn n0 n1 n2 n3
  · rw [if_pos hf, if_pos hf]
    simp only [hf, decide_true] at cr
    obtain ⟨⟨d0, l0, g0, r0⟩, ⟨d1, l1, g1, r1⟩, ⟨d2, l2, g2, r2⟩, ⟨d3, l3, g3, r3⟩⟩ := s
    simp only [notesV, flat, loadS] at lp cr ⊢
    simp (disch := first | omega | assumption | decide | (simp <;> omega) | fail) [facts, ]
    refine fresh_intro fun b3 hb3 => ?_
    have q : p ≠ b3 := ne_of_fresh hb3 lp
    have q' := q.symm
    simp (disch := first | omega | assumption | decide | (simp <;> omega) | fail) [facts, upd_ne]
    refine (cr _).mono ?_
    rintro v H2 ⟨rfl, hle2⟩
    have l3 := hle2 _ _ (upd_same _ _ _)
    have hle : Heap.le (dele H p) H2 := le_dele p (Heap.le_trans (le_upd _ hb3) hle2)
    replace lp := hle2 _ _ (upd_other hb3 lp)
    have hpn := dele_none (H := H) p
    simp (disch := first | omega | assumption | decide | (simp <;> omega) | fail) [facts, l3, lp, upd_ne]
    refine w_unroll 5 ?_
    simp (disch := first | omega | assumption | decide | (simp <;> omega) | fail) [facts, l3, lp, upd_ne]
    refine w_plan (P := Tryz.prog) (by simp [facts]) (opsP [0,1,2,3,4,5,6,7,8,9,10,11,12,14,15,19,20,13,16,17,18,21,22,23] .done) ?_ ?_
    · decide +kernel
    simp (disch := first | omega | assumption | decide | (simp <;> omega) | fail) [facts, l3, lp, upd_ne, upd_upd]
    refine w_plan (P := Tryz.prog) (by simp [facts]) (opsP [0,1,2,3,4,5,6,7,8,9,10,11,12,14,15,19,20,13,16,17,18,21,22,23] .done) ?_ ?_
    · decide +kernel
    simp (disch := first | omega | assumption | decide | (simp <;> omega) | fail) [facts, l3, lp, upd_ne, upd_upd]
    refine w_plan (P := Tryz.prog) (by simp [facts]) (opsP [0,1,2,3,4,5,6,7,8,9,10,11,12,14,15,19,20,13,16,17,18,21,22,23] .done) ?_ ?_
    · decide +kernel
    simp (disch := first | omega | assumption | decide | (simp <;> omega) | fail) [facts, l3, lp, upd_ne, upd_upd]
    refine w_plan (P := Tryz.prog) (by simp [facts]) (opsP [0,1,2,3,4,5,6,7,8,9,10,11,12,14,15,19,20,13,16,17,18,21,22,23] .done) ?_ ?_
    · decide +kernel
    simp (disch := first | omega | assumption | decide | (simp <;> omega) | fail) [facts, l3, lp, upd_ne, upd_upd]
    refine ⟨_, Heap.le_refl _, ?_, by simp⟩
    repeat' (first | exact hle | exact Heap.le_refl _ | assumption | (refine le_of_none hle ?_; assumption) | apply le_updN)
  · rw [if_neg hf, if_neg hf]
    simp only [hf, decide_false] at cr
    simp only [notesV] at cr ⊢
    simp (disch := first | omega | assumption | decide | (simp <;> omega) | fail) [facts, ]
    refine fresh_intro fun b3 hb3 => ?_
    simp (disch := first | omega | assumption | decide | (simp <;> omega) | fail) [facts, ]
    refine (cr _).mono ?_
    rintro v H2 ⟨rfl, hle2⟩
    simp (disch := first | omega | assumption | decide | (simp <;> omega) | fail) [facts, ]
    exact ⟨_, Heap.le_refl _, le_dele p (Heap.le_trans (le_upd _ hb3) hle2), hle2 _ _ (upd_other hb3 lp)⟩

theorem giveR_c_bad (s : S4) (p : Nat) (n0 n1 n2 n3 r0 r1 r2 r3 : Int) (H : Heap) (lp : H p = some (.row true 0 (flat s) 0)) (hb : ¬ (fourIn n0 n1 n2 n3 ∧ fourIn r0 r1 r2 r3)) :
    ECalls Tryz.prog 30 #[.pointer (some ⟨p, 0, none⟩), notesV n0 n1 n2 n3, notesV r0 r1 r2 r3] H fun v H' => v = .int .i64 20 ∧ Heap.le H H' := by
  refine ecalls_of_ewp (args := [_, _, _]) Tryz.func30 rfl rfl rfl (by simp [Tryz.ntmps30]) (by kernel_rfl) ?_
  have cn := fun H => few_c n0 n1 n2 n3 H
  have cr := fun H => few_c r0 r1 r2 r3 H
  simp only [notesV] at cn cr ⊢
  simp (disch := first | omega | assumption | decide | (simp <;> omega) | fail) [facts, ]
  refine fresh_intro fun b4 hb4 => ?_
  simp (disch := first | omega | assumption | decide | (simp <;> omega) | fail) [facts, ]
  refine fresh_intro fun b5 hb5 => ?_
  have q45 : b4 ≠ b5 := ne_of_fresh hb5 (upd_same _ _ _)
  simp (disch := first | omega | assumption | decide | (simp <;> omega) | fail) [facts, upd_ne]
  refine (cn _).mono ?_
  rintro v H2 ⟨rfl, hle2⟩
  have hle := Heap.le_trans (le_upd _ hb4) (Heap.le_trans (le_upd _ hb5) hle2)
  have l5 := hle2 _ _ (upd_same _ _ _)
  by_cases hn : fourIn n0 n1 n2 n3
  · have hr : ¬ fourIn r0 r1 r2 r3 := fun h => hb ⟨hn, h⟩
    simp only [hr, decide_false] at cr
    simp (disch := first | omega | assumption | decide | (simp <;> omega) | fail) [facts, hn, l5]
    refine (cr _).mono ?_
    rintro v H3 ⟨rfl, hle3⟩
    simp (disch := first | omega | assumption | decide | (simp <;> omega) | fail) [facts, ]
    exact ⟨_, Heap.le_refl _, Heap.le_trans hle hle3⟩
  · simp (disch := first | omega | assumption | decide | (simp <;> omega) | fail) [facts, hn]
    exact ⟨_, Heap.le_refl _, hle⟩
set_option maxHeartbeats 1600000 in
theorem giveR_c (s : S4) (p : Nat) (n0 n1 n2 n3 r0 r1 r2 r3 : Int) (H : Heap) (lp : H p = some (.row true 0 (flat s) 0)) (hs : OkS s) (hn : fourIn n0 n1 n2 n3) (hr : fourIn r0 r1 r2 r3) :
    ECalls Tryz.prog 30 #[.pointer (some ⟨p, 0, none⟩), notesV n0 n1 n2 n3, notesV r0 r1 r2 r3] H fun v H' => v = .int .i64 (if fitS s n0 n1 n2 n3 r0 r1 r2 r3 then 0 else 25) ∧ Heap.le (dele H p) H' ∧ H' p = some (.row true 0 (flat (if fitS s n0 n1 n2 n3 r0 r1 r2 r3 then addS s n0 n1 n2 n3 r0 r1 r2 r3 else s)) 0) := by
  refine ecalls_of_ewp (args := [_, _, _]) Tryz.func30 rfl rfl rfl (by simp [Tryz.ntmps30]) (by kernel_rfl) ?_
  have cn := fun H => few_c n0 n1 n2 n3 H
  have cr := fun H => few_c r0 r1 r2 r3 H
  have cl := fun d l g r H => leftR_c d l g r H
  simp only [hn, decide_true] at cn
  simp only [hr, decide_true] at cr
  obtain ⟨⟨d0, l0, g0, rr0⟩, ⟨d1, l1, g1, rr1⟩, ⟨d2, l2, g2, rr2⟩, ⟨d3, l3, g3, rr3⟩⟩ := s
  obtain ⟨⟨ol0, og0, or0, oe0, _⟩, ⟨ol1, og1, or1, oe1, _⟩, ⟨ol2, og2, or2, oe2, _⟩, ⟨ol3, og3, or3, oe3, _⟩⟩ := hs
  obtain ⟨fn0, fn1, fn2, fn3⟩ := hn
  obtain ⟨fr0, fr1, fr2, fr3⟩ := hr
  unfold fewIn at fn0 fn1 fn2 fn3 fr0 fr1 fr2 fr3 ol0 og0 or0 ol1 og1 or1 ol2 og2 or2 ol3 og3 or3
  simp only at ol0 og0 or0 oe0 ol1 og1 or1 oe1 ol2 og2 or2 oe2 ol3 og3 or3 oe3
  simp only [notesV, cassV, flat] at lp cn cr cl ⊢
  obtain ⟨E, hE⟩ : ∃ E : Int, E = if fitS ⟨⟨d0, l0, g0, rr0⟩, ⟨d1, l1, g1, rr1⟩, ⟨d2, l2, g2, rr2⟩, ⟨d3, l3, g3, rr3⟩⟩ n0 n1 n2 n3 r0 r1 r2 r3 then 0 else 25 := ⟨_, rfl⟩
  simp (disch := first | omega | assumption | decide | (simp <;> omega) | fail) [facts, ]
  refine fresh_intro fun b4 hb4 => ?_
  simp (disch := first | omega | assumption | decide | (simp <;> omega) | fail) [facts, ]
  refine fresh_intro fun b5 hb5 => ?_
  have q4 : p ≠ b4 := ne_of_fresh hb4 lp
  have q45 : b4 ≠ b5 := ne_of_fresh hb5 (upd_same _ _ _)
  have q5 : p ≠ b5 := ne_of_fresh hb5 (by rw [upd_ne _ _ q4]; exact lp)
  have q4' := q4.symm
  have q5' := q5.symm
  simp (disch := first | omega | assumption | decide | (simp <;> omega) | fail) [facts, upd_ne]
  refine (cn _).mono ?_
  rintro v H2 ⟨rfl, hle2⟩
  have hle : Heap.le (dele H p) H2 := le_dele p (Heap.le_trans (le_upd _ hb4) (Heap.le_trans (le_upd _ hb5) hle2))
  have l5 := hle2 _ _ (upd_same _ _ _)
  have l4 := hle2 _ _ (upd_other hb5 (upd_same _ _ _))
  replace lp := hle2 _ _ (upd_other hb5 (upd_other hb4 lp))
  simp (disch := first | omega | assumption | decide | (simp <;> omega) | fail) [facts, l4, l5, lp]
  refine (cr _).mono ?_
  rintro v H3 ⟨rfl, hle3⟩
  replace hle := Heap.le_trans hle hle3
  replace l4 := hle3 _ _ l4
  replace l5 := hle3 _ _ l5
  replace lp := hle3 _ _ lp
  have hpn := dele_none (H := H) p
  have h4n : dele H p b4 = none := by rw [dele_ne _ q4']; exact hb4
  simp (disch := first | omega | assumption | decide | (simp <;> omega) | fail) [facts, l4, l5, lp]
  refine w_unroll 5 ?_
  simp (disch := first | omega | assumption | decide | (simp <;> omega) | fail) [facts, l4, l5, lp]
  refine w_cut (fun s => s.env 0 = .pointer (some ⟨p, 0, none⟩) ∧ s.env 4 = .pointer (some ⟨b4, 0, none⟩) ∧ s.env 5 = .pointer (some ⟨b5, 0, none⟩) ∧ s.env 7 = .int .i64 0 ∧ s.env 35 = .bool (decide (leftZ l0 g0 rr0 < n0 + r0)) ∧ Heap.le (dele H p) s.heap ∧ s.heap p = some (.row true 0 [.int .i64 d0, .int .i64 l0, .int .i64 g0, .int .i64 rr0, .int .i64 d1, .int .i64 l1, .int .i64 g1, .int .i64 rr1, .int .i64 d2, .int .i64 l2, .int .i64 g2, .int .i64 rr2, .int .i64 d3, .int .i64 l3, .int .i64 g3, .int .i64 rr3] 0) ∧ s.heap b4 = some (.row true 0 [.int .i64 n0, .int .i64 n1, .int .i64 n2, .int .i64 n3] 0) ∧ s.heap b5 = some (.row true 0 [.int .i64 r0, .int .i64 r1, .int .i64 r2, .int .i64 r3] 0)) ?_ ?_
  · refine w_plan (P := Tryz.prog) (by simp [facts]) (opsP [0,1,3,4,7,8,9,10,11,12] (.both (opsP [2] (.both (opsP [5,6,13,14] .done) (opsP [13,5,6,14] .done))) (.both (opsP [5] (.both (opsP [2,6,13,14] .done) (opsP [13,2,6,14] .done))) (opsP [13] (.both (opsP [2,5,6,14] .done) (opsP [5,2,6,14] .done)))))) ?_ ?_
    · decide +kernel
    simp (disch := first | omega | assumption | decide | (simp <;> omega) | fail) [facts, lp, l4, l5, upd_ne, upd_upd]
    try (repeat' apply And.intro)
    all_goals
      refine (cl d0 l0 g0 rr0 _).mono ?_
      rintro v G ⟨rfl, hleG⟩
      
      have m4 := hleG _ _ l4
      have m5 := hleG _ _ l5
      have mp := hleG _ _ lp
      simp (disch := first | omega | assumption | decide | (simp <;> omega) | fail) [facts, m4, m5, mp]
      exact Heap.le_trans hle hleG
  clear hle lp l4 l5
  rintro ⟨e, J0⟩ ⟨e0, e4, e5, e7, e35, hle, lp, l4, l5⟩
  simp only at e0 e4 e5 e7 e35 hle lp l4 l5
  by_cases f0 : leftZ l0 g0 rr0 < n0 + r0
  · have hno : ¬ fitS ⟨⟨d0, l0, g0, rr0⟩, ⟨d1, l1, g1, rr1⟩, ⟨d2, l2, g2, rr2⟩, ⟨d3, l3, g3, rr3⟩⟩ n0 n1 n2 n3 r0 r1 r2 r3 := fun h => by
      have := h.1; unfold fitC at this; simp only at this; omega
    simp (disch := first | omega | assumption | decide | (simp <;> omega) | fail) [facts, e0, e4, e5, e7, e35, f0, hno, lp]
    exact ⟨_, Heap.le_refl _, hle, lp⟩
  simp (disch := first | omega | assumption | decide | (simp <;> omega) | fail) [facts, e0, e4, e5, e7, e35, f0]
  refine w_cut (fun s => s.env 0 = .pointer (some ⟨p, 0, none⟩) ∧ s.env 4 = .pointer (some ⟨b4, 0, none⟩) ∧ s.env 5 = .pointer (some ⟨b5, 0, none⟩) ∧ s.env 7 = .int .i64 1 ∧ s.env 35 = .bool (decide (leftZ l1 g1 rr1 < n1 + r1)) ∧ Heap.le (dele H p) s.heap ∧ s.heap p = some (.row true 0 [.int .i64 d0, .int .i64 l0, .int .i64 g0, .int .i64 rr0, .int .i64 d1, .int .i64 l1, .int .i64 g1, .int .i64 rr1, .int .i64 d2, .int .i64 l2, .int .i64 g2, .int .i64 rr2, .int .i64 d3, .int .i64 l3, .int .i64 g3, .int .i64 rr3] 0) ∧ s.heap b4 = some (.row true 0 [.int .i64 n0, .int .i64 n1, .int .i64 n2, .int .i64 n3] 0) ∧ s.heap b5 = some (.row true 0 [.int .i64 r0, .int .i64 r1, .int .i64 r2, .int .i64 r3] 0)) ?_ ?_
  · refine w_plan (P := Tryz.prog) (by simp [facts]) (opsP [0,1,3,4,7,8,9,10,11,12] (.both (opsP [2] (.both (opsP [5,6,13,14] .done) (opsP [13,5,6,14] .done))) (.both (opsP [5] (.both (opsP [2,6,13,14] .done) (opsP [13,2,6,14] .done))) (opsP [13] (.both (opsP [2,5,6,14] .done) (opsP [5,2,6,14] .done)))))) ?_ ?_
    · decide +kernel
    simp (disch := first | omega | assumption | decide | (simp <;> omega) | fail) [facts, e0, e4, e5, e7, lp, l4, l5, upd_ne, upd_upd]
    try (repeat' apply And.intro)
    all_goals
      refine (cl d1 l1 g1 rr1 _).mono ?_
      rintro v G ⟨rfl, hleG⟩
      
      have m4 := hleG _ _ l4
      have m5 := hleG _ _ l5
      have mp := hleG _ _ lp
      simp (disch := first | omega | assumption | decide | (simp <;> omega) | fail) [facts, e0, e4, e5, e7, m4, m5, mp]
      exact Heap.le_trans hle hleG
  clear hle lp l4 l5
  rintro ⟨e, J1⟩ ⟨e0, e4, e5, e7, e35, hle, lp, l4, l5⟩
  simp only at e0 e4 e5 e7 e35 hle lp l4 l5
  by_cases f1 : leftZ l1 g1 rr1 < n1 + r1
  · have hno : ¬ fitS ⟨⟨d0, l0, g0, rr0⟩, ⟨d1, l1, g1, rr1⟩, ⟨d2, l2, g2, rr2⟩, ⟨d3, l3, g3, rr3⟩⟩ n0 n1 n2 n3 r0 r1 r2 r3 := fun h => by
      have := h.2.1; unfold fitC at this; simp only at this; omega
    simp (disch := first | omega | assumption | decide | (simp <;> omega) | fail) [facts, e0, e4, e5, e7, e35, f1, hno, lp]
    exact ⟨_, Heap.le_refl _, hle, lp⟩
  simp (disch := first | omega | assumption | decide | (simp <;> omega) | fail) [facts, e0, e4, e5, e7, e35, f1]
  refine w_cut (fun s => s.env 0 = .pointer (some ⟨p, 0, none⟩) ∧ s.env 4 = .pointer (some ⟨b4, 0, none⟩) ∧ s.env 5 = .pointer (some ⟨b5, 0, none⟩) ∧ s.env 7 = .int .i64 2 ∧ s.env 35 = .bool (decide (leftZ l2 g2 rr2 < n2 + r2)) ∧ Heap.le (dele H p) s.heap ∧ s.heap p = some (.row true 0 [.int .i64 d0, .int .i64 l0, .int .i64 g0, .int .i64 rr0, .int .i64 d1, .int .i64 l1, .int .i64 g1, .int .i64 rr1, .int .i64 d2, .int .i64 l2, .int .i64 g2, .int .i64 rr2, .int .i64 d3, .int .i64 l3, .int .i64 g3, .int .i64 rr3] 0) ∧ s.heap b4 = some (.row true 0 [.int .i64 n0, .int .i64 n1, .int .i64 n2, .int .i64 n3] 0) ∧ s.heap b5 = some (.row true 0 [.int .i64 r0, .int .i64 r1, .int .i64 r2, .int .i64 r3] 0)) ?_ ?_
  · refine w_plan (P := Tryz.prog) (by simp [facts]) (opsP [0,1,3,4,7,8,9,10,11,12] (.both (opsP [2] (.both (opsP [5,6,13,14] .done) (opsP [13,5,6,14] .done))) (.both (opsP [5] (.both (opsP [2,6,13,14] .done) (opsP [13,2,6,14] .done))) (opsP [13] (.both (opsP [2,5,6,14] .done) (opsP [5,2,6,14] .done)))))) ?_ ?_
    · decide +kernel
    simp (disch := first | omega | assumption | decide | (simp <;> omega) | fail) [facts, e0, e4, e5, e7, lp, l4, l5, upd_ne, upd_upd]
    try (repeat' apply And.intro)
    all_goals
      refine (cl d2 l2 g2 rr2 _).mono ?_
      rintro v G ⟨rfl, hleG⟩
      
      have m4 := hleG _ _ l4
      have m5 := hleG _ _ l5
      have mp := hleG _ _ lp
      simp (disch := first | omega | assumption | decide | (simp <;> omega) | fail) [facts, e0, e4, e5, e7, m4, m5, mp]
      exact Heap.le_trans hle hleG
  clear hle lp l4 l5
  rintro ⟨e, J2⟩ ⟨e0, e4, e5, e7, e35, hle, lp, l4, l5⟩
  simp only at e0 e4 e5 e7 e35 hle lp l4 l5
  by_cases f2 : leftZ l2 g2 rr2 < n2 + r2
  · have hno : ¬ fitS ⟨⟨d0, l0, g0, rr0⟩, ⟨d1, l1, g1, rr1⟩, ⟨d2, l2, g2, rr2⟩, ⟨d3, l3, g3, rr3⟩⟩ n0 n1 n2 n3 r0 r1 r2 r3 := fun h => by
      have := h.2.2.1; unfold fitC at this; simp only at this; omega
    simp (disch := first | omega | assumption | decide | (simp <;> omega) | fail) [facts, e0, e4, e5, e7, e35, f2, hno, lp]
    exact ⟨_, Heap.le_refl _, hle, lp⟩
  simp (disch := first | omega | assumption | decide | (simp <;> omega) | fail) [facts, e0, e4, e5, e7, e35, f2]
  refine w_cut (fun s => s.env 0 = .pointer (some ⟨p, 0, none⟩) ∧ s.env 4 = .pointer (some ⟨b4, 0, none⟩) ∧ s.env 5 = .pointer (some ⟨b5, 0, none⟩) ∧ s.env 7 = .int .i64 3 ∧ s.env 35 = .bool (decide (leftZ l3 g3 rr3 < n3 + r3)) ∧ Heap.le (dele H p) s.heap ∧ s.heap p = some (.row true 0 [.int .i64 d0, .int .i64 l0, .int .i64 g0, .int .i64 rr0, .int .i64 d1, .int .i64 l1, .int .i64 g1, .int .i64 rr1, .int .i64 d2, .int .i64 l2, .int .i64 g2, .int .i64 rr2, .int .i64 d3, .int .i64 l3, .int .i64 g3, .int .i64 rr3] 0) ∧ s.heap b4 = some (.row true 0 [.int .i64 n0, .int .i64 n1, .int .i64 n2, .int .i64 n3] 0) ∧ s.heap b5 = some (.row true 0 [.int .i64 r0, .int .i64 r1, .int .i64 r2, .int .i64 r3] 0)) ?_ ?_
  · refine w_plan (P := Tryz.prog) (by simp [facts]) (opsP [0,1,3,4,7,8,9,10,11,12] (.both (opsP [2] (.both (opsP [5,6,13,14] .done) (opsP [13,5,6,14] .done))) (.both (opsP [5] (.both (opsP [2,6,13,14] .done) (opsP [13,2,6,14] .done))) (opsP [13] (.both (opsP [2,5,6,14] .done) (opsP [5,2,6,14] .done)))))) ?_ ?_
    · decide +kernel
    simp (disch := first | omega | assumption | decide | (simp <;> omega) | fail) [facts, e0, e4, e5, e7, lp, l4, l5, upd_ne, upd_upd]
    try (repeat' apply And.intro)
    all_goals
      refine (cl d3 l3 g3 rr3 _).mono ?_
      rintro v G ⟨rfl, hleG⟩
      
      have m4 := hleG _ _ l4
      have m5 := hleG _ _ l5
      have mp := hleG _ _ lp
      simp (disch := first | omega | assumption | decide | (simp <;> omega) | fail) [facts, e0, e4, e5, e7, m4, m5, mp]
      exact Heap.le_trans hle hleG
  clear hle lp l4 l5
  rintro ⟨e, J3⟩ ⟨e0, e4, e5, e7, e35, hle, lp, l4, l5⟩
  simp only at e0 e4 e5 e7 e35 hle lp l4 l5
  by_cases f3 : leftZ l3 g3 rr3 < n3 + r3
  · have hno : ¬ fitS ⟨⟨d0, l0, g0, rr0⟩, ⟨d1, l1, g1, rr1⟩, ⟨d2, l2, g2, rr2⟩, ⟨d3, l3, g3, rr3⟩⟩ n0 n1 n2 n3 r0 r1 r2 r3 := fun h => by
      have := h.2.2.2; unfold fitC at this; simp only at this; omega
    simp (disch := first | omega | assumption | decide | (simp <;> omega) | fail) [facts, e0, e4, e5, e7, e35, f3, hno, lp]
    exact ⟨_, Heap.le_refl _, hle, lp⟩
  simp (disch := first | omega | assumption | decide | (simp <;> omega) | fail) [facts, e0, e4, e5, e7, e35, f3]
  have hyes : fitS ⟨⟨d0, l0, g0, rr0⟩, ⟨d1, l1, g1, rr1⟩, ⟨d2, l2, g2, rr2⟩, ⟨d3, l3, g3, rr3⟩⟩ n0 n1 n2 n3 r0 r1 r2 r3 := ⟨Int.not_lt.1 f0, Int.not_lt.1 f1, Int.not_lt.1 f2, Int.not_lt.1 f3⟩
  have k0 : leftZ l0 g0 rr0 ≤ 10000 ∧ leftZ l1 g1 rr1 ≤ 10000 ∧ leftZ l2 g2 rr2 ≤ 10000 ∧ leftZ l3 g3 rr3 ≤ 10000 := by unfold leftZ fewIn; refine ⟨?_, ?_, ?_, ?_⟩ <;> split <;> omega
  refine w_unroll 5 ?_
  simp (disch := first | omega | assumption | decide | (simp <;> omega) | fail) [facts, e0, e4, e5, lp, l4, l5, upd_ne]
  refine w_plan (P := Tryz.prog) (by simp [facts]) (opsP [0,1,2,3,4,5,6,7,8,9,10,11,12,13,14,15] .done) ?_ ?_
  · decide +kernel
  simp (disch := first | omega | assumption | decide | (simp <;> omega) | fail) [facts, e0, e4, e5, lp, l4, l5, upd_ne, upd_upd]
  refine w_plan (P := Tryz.prog) (by simp [facts]) (opsP [0,1,2,3,4,5,6,7,8,9,10,11,12,13,14,15] .done) ?_ ?_
  · decide +kernel
  simp (disch := first | omega | assumption | decide | (simp <;> omega) | fail) [facts, e0, e4, e5, lp, l4, l5, upd_ne, upd_upd]
  refine w_plan (P := Tryz.prog) (by simp [facts]) (opsP [0,1,2,3,4,5,6,7,8,9,10,11,12,13,14,15] .done) ?_ ?_
  · decide +kernel
  simp (disch := first | omega | assumption | decide | (simp <;> omega) | fail) [facts, e0, e4, e5, lp, l4, l5, upd_ne, upd_upd]
  refine w_plan (P := Tryz.prog) (by simp [facts]) (opsP [0,1,2,3,4,5,6,7,8,9,10,11,12,13,14,15] .done) ?_ ?_
  · decide +kernel
  simp (disch := first | omega | assumption | decide | (simp <;> omega) | fail) [facts, e0, e4, e5, lp, l4, l5, upd_ne, upd_upd]
  refine w_plan (P := Tryz.prog) (by simp [facts]) (opsP [0,1,2,3,4,5,6,7,8,9,10,11,12,13,14,15] .done) ?_ ?_
  · decide +kernel
  simp (disch := first | omega | assumption | decide | (simp <;> omega) | fail) [facts, e0, e4, e5, lp, l4, l5, upd_ne, upd_upd]
  refine w_plan (P := Tryz.prog) (by simp [facts]) (opsP [0,1,2,3,4,5,6,7,8,9,10,11,12,13,14,15] .done) ?_ ?_
  · decide +kernel
  simp (disch := first | omega | assumption | decide | (simp <;> omega) | fail) [facts, e0, e4, e5, lp, l4, l5, upd_ne, upd_upd]
  refine w_plan (P := Tryz.prog) (by simp [facts]) (opsP [0,1,2,3,4,5,6,7,8,9,10,11,12,13,14,15] .done) ?_ ?_
  · decide +kernel
  simp (disch := first | omega | assumption | decide | (simp <;> omega) | fail) [facts, e0, e4, e5, lp, l4, l5, upd_ne, upd_upd]
  refine w_plan (P := Tryz.prog) (by simp [facts]) (opsP [0,1,2,3,4,5,6,7,8,9,10,11,12,13,14,15] .done) ?_ ?_
  · decide +kernel
  simp (disch := first | omega | assumption | decide | (simp <;> omega) | fail) [facts, e0, e4, e5, lp, l4, l5, upd_ne, upd_upd, hyes, addS, addC]
  refine ⟨_, Heap.le_refl _, ?_, by simp⟩
  repeat' (first | exact hle | exact Heap.le_refl _ | assumption | (refine le_of_none hle ?_; assumption) | apply le_updN)

end Go.Proofs.YtfpighmafofoeaaGreatDoor.GL.Ca

namespace Go.Proofs.YtfpighmafofoeaaGreatDoor.GL.Ca
open Go Go.RowKit Go.Proofs.YtfpighmafofoeaaGreatDoor.GL
set_option maxRecDepth 10000
set_option pp.deepTerms.threshold 8
set_option pp.maxSteps 3000
set_option linter.unusedSimpArgs false
set_option linter.unusedVariables false

def smZ (w : Nat) (z : Int) : Int := if w % 8 = 7 then z else placeZ z
theorem leftZ_few {l g r : Int} (hl : fewIn l) (hg : fewIn g) (hr : fewIn r) : leftZ l g r = max (l - g - r) 0 := if_pos ⟨hl, hg, hr⟩
theorem fitC_iff {c : Cs} {n r : Int} (h : OkC c) : fitC c n r ↔ n + r ≤ c.l - c.g - c.r := by
  obtain ⟨h1, h2, h3, h4, _⟩ := h
  unfold fitC; rw [leftZ_few h1 h2 h3]; unfold fewIn at h1 h2 h3; omega
theorem ok_addC {c : Cs} {n r : Int} (h : OkC c) (hn : fewIn n) (hr : fewIn r) (hf : fitC c n r) : OkC (addC c n r) := by
  have hf := (fitC_iff h).1 hf
  obtain ⟨h1, h2, h3, h4, h5⟩ := h
  unfold OkC addC fewIn at *; simp only
  exact ⟨by omega, by omega, by omega, by omega, h5⟩
theorem ok_add {s : S4} {n0 n1 n2 n3 r0 r1 r2 r3 : Int} (hs : OkS s) (hn : fourIn n0 n1 n2 n3) (hr : fourIn r0 r1 r2 r3) (hf : fitS s n0 n1 n2 n3 r0 r1 r2 r3) : OkS (addS s n0 n1 n2 n3 r0 r1 r2 r3) :=
  ⟨ok_addC hs.1 hn.1 hr.1 hf.1, ok_addC hs.2.1 hn.2.1 hr.2.1 hf.2.1, ok_addC hs.2.2.1 hn.2.2.1 hr.2.2.1 hf.2.2.1, ok_addC hs.2.2.2 hn.2.2.2 hr.2.2.2 hf.2.2.2⟩
theorem ok_load {s : S4} {n0 n1 n2 n3 : Int} (hs : OkS s) (hf : fourIn n0 n1 n2 n3) : OkS (loadS s n0 n1 n2 n3) := by
  obtain ⟨⟨_, _, _, _, h0⟩, ⟨_, _, _, _, h1⟩, ⟨_, _, _, _, h2⟩, ⟨_, _, _, _, h3⟩⟩ := hs
  obtain ⟨f0, f1, f2, f3⟩ := hf
  unfold fewIn at f0 f1 f2 f3
  unfold OkS OkC loadS fewIn; simp only
  refine ⟨⟨?_, ?_, ?_, ?_, h0⟩, ⟨?_, ?_, ?_, ?_, h1⟩, ⟨?_, ?_, ?_, ?_, h2⟩, ⟨?_, ?_, ?_, ?_, h3⟩⟩ <;> omega
theorem ok_new {s : S4} (h0 : i64In s.a.d) (h1 : i64In s.b.d) (h2 : i64In s.c.d) (h3 : i64In s.e.d) : OkS (newS s) := by
  unfold OkS OkC newS newC fewIn; simp only
  refine ⟨⟨?_, ?_, ?_, ?_, h0⟩, ⟨?_, ?_, ?_, ?_, h1⟩, ⟨?_, ?_, ?_, ?_, h2⟩, ⟨?_, ?_, ?_, ?_, h3⟩⟩ <;> omega
def giveE (s : S4) (n0 n1 n2 n3 r0 r1 r2 r3 : Int) : Int := if fourIn n0 n1 n2 n3 ∧ fourIn r0 r1 r2 r3 then (if fitS s n0 n1 n2 n3 r0 r1 r2 r3 then 0 else 25) else 20
def giveT (s : S4) (n0 n1 n2 n3 r0 r1 r2 r3 : Int) : S4 := if fourIn n0 n1 n2 n3 ∧ fourIn r0 r1 r2 r3 then (if fitS s n0 n1 n2 n3 r0 r1 r2 r3 then addS s n0 n1 n2 n3 r0 r1 r2 r3 else s) else s
theorem ok_give {s : S4} (hs : OkS s) (n0 n1 n2 n3 r0 r1 r2 r3 : Int) : OkS (giveT s n0 n1 n2 n3 r0 r1 r2 r3) := by
  unfold giveT
  split
  · rename_i h
    split
    · rename_i hf; exact ok_add hs h.1 h.2 hf
    · exact hs
  · exact hs
def loadE (n0 n1 n2 n3 : Int) : Int := if fourIn n0 n1 n2 n3 then 0 else 20
def loadT (s : S4) (n0 n1 n2 n3 : Int) : S4 := if fourIn n0 n1 n2 n3 then loadS s n0 n1 n2 n3 else s
theorem ok_loadT {s : S4} (hs : OkS s) (n0 n1 n2 n3 : Int) : OkS (loadT s n0 n1 n2 n3) := by
  unfold loadT
  split
  · rename_i h; exact ok_load hs h
  · exact hs

theorem giveA_c (s : S4) (p : Nat) (n0 n1 n2 n3 r0 r1 r2 r3 : Int) (ob : Bool) (lo : Int) (H : Heap) (lp : H p = some (.row true 0 (flat s ++ [.bool ob, .int .i64 lo]) 0)) (hs : OkS s) :
    ECalls Tryz.prog 26 #[.pointer (some ⟨p, 0, none⟩), notesV n0 n1 n2 n3, notesV r0 r1 r2 r3] H fun v H' => v = .int .i64 (giveE s n0 n1 n2 n3 r0 r1 r2 r3) ∧ Heap.le (dele H p) H' ∧ H' p = some (.row true 0 (flat (giveT s n0 n1 n2 n3 r0 r1 r2 r3) ++ [.bool ob, .int .i64 lo]) 0) := by
  unfold giveE giveT
  by_cases h : fourIn n0 n1 n2 n3 ∧ fourIn r0 r1 r2 r3
  · rw [if_pos h, if_pos h]
    exact give_c s p n0 n1 n2 n3 r0 r1 r2 r3 ob lo H lp hs h.1 h.2
  · rw [if_neg h, if_neg h]
    refine (give_c_bad s p n0 n1 n2 n3 r0 r1 r2 r3 ob lo H lp h).mono ?_
    rintro v H' ⟨rfl, hle⟩
    exact ⟨rfl, le_dele p hle, hle _ _ lp⟩

theorem giveB_c (s : S4) (p : Nat) (n0 n1 n2 n3 r0 r1 r2 r3 : Int) (H : Heap) (lp : H p = some (.row true 0 (flat s) 0)) (hs : OkS s) :
    ECalls Tryz.prog 30 #[.pointer (some ⟨p, 0, none⟩), notesV n0 n1 n2 n3, notesV r0 r1 r2 r3] H fun v H' => v = .int .i64 (giveE s n0 n1 n2 n3 r0 r1 r2 r3) ∧ Heap.le (dele H p) H' ∧ H' p = some (.row true 0 (flat (giveT s n0 n1 n2 n3 r0 r1 r2 r3)) 0) := by
  unfold giveE giveT
  by_cases h : fourIn n0 n1 n2 n3 ∧ fourIn r0 r1 r2 r3
  · rw [if_pos h, if_pos h]
    exact giveR_c s p n0 n1 n2 n3 r0 r1 r2 r3 H lp hs h.1 h.2
  · rw [if_neg h, if_neg h]
    refine (giveR_c_bad s p n0 n1 n2 n3 r0 r1 r2 r3 H lp h).mono ?_
    rintro v H' ⟨rfl, hle⟩
    exact ⟨rfl, le_dele p hle, hle _ _ lp⟩

theorem loadA_c (s : S4) (p : Nat) (n0 n1 n2 n3 : Int) (ob : Bool) (lo : Int) (H : Heap) (lp : H p = some (.row true 0 (flat s ++ [.bool ob, .int .i64 lo]) 0)) :
    ECalls Tryz.prog 25 #[.pointer (some ⟨p, 0, none⟩), notesV n0 n1 n2 n3] H fun v H' => v = .int .i64 (loadE n0 n1 n2 n3) ∧ Heap.le (dele H p) H' ∧ H' p = some (.row true 0 (flat (loadT s n0 n1 n2 n3) ++ [.bool ob, .int .i64 lo]) 0) :=
  load_c s p n0 n1 n2 n3 ob lo H lp

theorem loadB_c (s : S4) (p : Nat) (n0 n1 n2 n3 : Int) (H : Heap) (lp : H p = some (.row true 0 (flat s) 0)) :
    ECalls Tryz.prog 29 #[.pointer (some ⟨p, 0, none⟩), notesV n0 n1 n2 n3] H fun v H' => v = .int .i64 (loadE n0 n1 n2 n3) ∧ Heap.le (dele H p) H' ∧ H' p = some (.row true 0 (flat (loadT s n0 n1 n2 n3)) 0) :=
  loadR_c s p n0 n1 n2 n3 H lp
end Go.Proofs.YtfpighmafofoeaaGreatDoor.GL.Ca
