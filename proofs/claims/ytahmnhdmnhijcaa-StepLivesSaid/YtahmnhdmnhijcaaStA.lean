/- Layer 19: the small functions on transactions and records; of what may be, alone. -/
import Derived.Test.YtahmnhdmnhijcaaGlL
import Derived.Test.YtahmnhdmnhijcaaGlT
namespace Go.Proofs.Ytahmnhdmnhijcaa.GL
open Go Go.RowKit
set_option maxRecDepth 10000
set_option pp.deepTerms.threshold 8
set_option pp.maxSteps 3000
set_option linter.unusedSimpArgs false
set_option linter.unusedVariables false

theorem mkS_lit {l : List UInt8} : (⟨l.toArray⟩ : ByteArray) = mkS l := Eq.trans rfl rfl
theorem mkS_empty : ByteArray.empty = mkS [] := Eq.trans rfl rfl
attribute [simp] mkS_lit mkS_empty mkS_size mkS_list str_beq

theorem le_updN {H H1 : Heap} {b : Nat} (o : GObj) (hl : Heap.le H H1) (hb : H b = none) : Heap.le H (upd H1 b o) := fun i p e => by
  rw [upd_ne _ _ (ne_of_fresh hb e)]; exact hl i p e

structure Txn where
  term : Int
  stan : Int
  pan : List UInt8
  amount : Int
  state : Int
  n0 : Int
  n1 : Int
  n2 : Int
  n3 : Int
  given : Int
  owed : Int
def txnL (t : Txn) : List Value := [.int .u16 t.term, .int .u32 t.stan, .string (mkS t.pan), .int .i64 t.amount, .int .i64 t.state, .int .i64 t.n0, .int .i64 t.n1, .int .i64 t.n2, .int .i64 t.n3, .int .i64 t.given, .int .i64 t.owed]
def txnV (t : Txn) : Value := .agg (txnL t).toArray
def zeroT : Txn := ⟨0, 0, [], 0, 0, 0, 0, 0, 0, 0, 0⟩
structure Rec where
  kind : Int
  term : Int
  stan : Int
  pan : List UInt8
  amount : Int
  n0 : Int
  n1 : Int
  n2 : Int
  n3 : Int
/-- A record of which nothing was rejected, loaded. -/
def recV (r : Rec) : Value := .agg [.int .i64 r.kind, .int .u16 r.term, .int .u32 r.stan, .string (mkS r.pan), .int .i64 r.amount, .int .i64 r.n0, .int .i64 r.n1, .int .i64 r.n2, .int .i64 r.n3,
  .int .i64 0, .int .i64 0, .int .i64 0, .int .i64 0, .int .i64 0, .int .i64 0, .int .i64 0, .int .i64 0].toArray

def digitB (c : UInt8) : Prop := 48 ≤ c.toNat ∧ c.toNat ≤ 57
def fewIn (z : Int) : Prop := 0 ≤ z ∧ z ≤ 10000
def owesT (t : Txn) : Prop := 0 ≤ t.given ∧ 0 < t.owed ∧ t.given ≤ t.amount ∧ t.owed ≤ t.amount ∧ t.given + t.owed = t.amount
def noT (t : Txn) : Prop := t.n0 = 0 ∧ t.n1 = 0 ∧ t.n2 = 0 ∧ t.n3 = 0
/-- A transaction that may be. -/
structure OkT (t : Txn) : Prop where
  pan1 : 1 ≤ t.pan.length
  pan2 : t.pan.length ≤ 19
  pan3 : ∀ c ∈ t.pan, digitB c
  am1 : 1 ≤ t.amount
  am2 : t.amount ≤ 1000000
  few : fewIn t.n0 ∧ fewIn t.n1 ∧ fewIn t.n2 ∧ fewIn t.n3
  state : ((t.state = 1 ∨ t.state = 2 ∨ t.state = 6) ∧ noT t ∧ t.given = 0 ∧ t.owed = 0) ∨ (t.state = 3 ∧ t.given = 0 ∧ t.owed = 0) ∨ (t.state = 4 ∧ owesT t) ∨ (t.state = 5 ∧ ((t.owed = 0 ∧ t.given = t.amount) ∨ owesT t))
def RightT (t : Txn) : Prop := t = zeroT ∨ OkT t
structure RightR (r : Rec) : Prop where
  kind : 1 ≤ r.kind ∧ r.kind ≤ 7
  pan2 : r.pan.length ≤ 19
  pan3 : ∀ c ∈ r.pan, digitB c
  am : 0 ≤ r.amount ∧ r.amount ≤ 1000000
  few : fewIn r.n0 ∧ fewIn r.n1 ∧ fewIn r.n2 ∧ fewIn r.n3

theorem digits_c (l : List UInt8) (H : Heap) (h : ∀ c ∈ l, digitB c) (hl : l.length ≤ 1000) : ECalls Try.prog 18 #[.string (mkS l)] H fun r H' => r = .bool true ∧ H' = H := by
  refine ecalls_of_ewp (args := [_]) Try.func18 rfl rfl rfl (by simp [Try.ntmps18]) (by kernel_rfl) ?_
  simp (disch := first | omega | assumption | decide | (simp <;> omega) | fail) [facts, ]
  refine w_loop (fun s => ∃ k : Nat, k ≤ l.length ∧ s.env 0 = .string (mkS l) ∧ s.env 5 = .int .i64 l.length ∧ s.env 6 = .int .i64 k ∧ s.heap = H) (fun s => l.length - (intOf (s.env 6)).toNat) ?_ ?_
  · exact ⟨0, Nat.zero_le _, by simp, by simp, by simp, rfl⟩
  · rintro ⟨e, H1⟩ ⟨k, hk, e0, e5, e6, hH⟩
    simp only at e0 e5 e6 hH
    subst hH
    by_cases hlt : (k : Int) < l.length
    · obtain ⟨c, hc⟩ : ∃ c, l[k]? = some c := ⟨_, List.getElem?_eq_getElem (by omega)⟩
      obtain ⟨hkl, hc'⟩ := List.getElem?_eq_some_iff.1 hc
      obtain ⟨d1, d2⟩ := h c (List.mem_of_getElem? hc)
      simp (disch := first | omega | assumption | decide | (simp <;> omega) | fail) [facts, e0, e5, e6, hlt, hc, hc', show ¬ (c.toNat : Int) < 48 by omega, show ¬ (57 : Int) < (c.toNat : Int) by omega]
      exact ⟨_, Heap.le_refl _, ⟨k + 1, by omega, by simp [e0], by simp [e5], by simp, rfl⟩, by simp [intOf, e6]; omega⟩
    · simp (disch := first | omega | assumption | decide | (simp <;> omega) | fail) [facts, e0, e5, e6, hlt]

theorem notes_c (a b c d : Int) (H : Heap) (h : fewIn a ∧ fewIn b ∧ fewIn c ∧ fewIn d) : ECalls Try.prog 19 #[.agg #[.int .i64 a, .int .i64 b, .int .i64 c, .int .i64 d]] H fun r H' => r = .bool true ∧ Heap.le H H' := by
  refine ecalls_of_ewp (args := [_]) Try.func19 rfl rfl rfl (by simp [Try.ntmps19]) (by kernel_rfl) ?_
  simp (disch := first | omega | assumption | decide | (simp <;> omega) | fail) [facts, ]
  refine fresh_intro fun b1 hb1 => ?_
  simp (disch := first | omega | assumption | decide | (simp <;> omega) | fail) [facts, ]
  refine w_loop (fun s => ∃ k : Nat, k ≤ 4 ∧ s.env 5 = .agg #[.int .i64 a, .int .i64 b, .int .i64 c, .int .i64 d] ∧ s.env 6 = .int .i64 k ∧ Heap.le H s.heap) (fun s => 4 - (intOf (s.env 6)).toNat) ?_ ?_
  · exact ⟨0, by decide, by simp, by simp, by simpa using le_upd _ hb1⟩
  · rintro ⟨e, H1⟩ ⟨k, hk, e5, e6, hle⟩
    simp only at e5 e6 hle
    unfold fewIn at h
    match k, hk with
    | 0, _ =>
      simp (disch := first | omega | assumption | decide | (simp <;> omega) | fail) [facts, e5, e6, show ¬ a < 0 by omega, show ¬ 10000 < a by omega]
      exact ⟨_, Heap.le_refl _, ⟨1, by omega, by simp [e5], by simp, hle⟩, by simp [intOf, e6]⟩
    | 1, _ =>
      simp (disch := first | omega | assumption | decide | (simp <;> omega) | fail) [facts, e5, e6, show ¬ b < 0 by omega, show ¬ 10000 < b by omega]
      exact ⟨_, Heap.le_refl _, ⟨2, by omega, by simp [e5], by simp, hle⟩, by simp [intOf, e6]⟩
    | 2, _ =>
      simp (disch := first | omega | assumption | decide | (simp <;> omega) | fail) [facts, e5, e6, show ¬ c < 0 by omega, show ¬ 10000 < c by omega]
      exact ⟨_, Heap.le_refl _, ⟨3, by omega, by simp [e5], by simp, hle⟩, by simp [intOf, e6]⟩
    | 3, _ =>
      simp (disch := first | omega | assumption | decide | (simp <;> omega) | fail) [facts, e5, e6, show ¬ d < 0 by omega, show ¬ 10000 < d by omega]
      exact ⟨_, Heap.le_refl _, ⟨4, by omega, by simp [e5], by simp, hle⟩, by simp [intOf, e6]⟩
    | 4, _ =>
      simp (disch := first | omega | assumption | decide | (simp <;> omega) | fail) [facts, e5, e6]
      exact ⟨_, Heap.le_refl _, hle⟩
theorem noughts_c (H : Heap) : ECalls Try.prog 20 #[.agg #[.int .i64 0, .int .i64 0, .int .i64 0, .int .i64 0]] H fun r H' => r = .bool true ∧ Heap.le H H' := by
  refine ecalls_of_ewp (args := [_]) Try.func20 rfl rfl rfl (by simp [Try.ntmps20]) (by kernel_rfl) ?_
  simp (disch := first | omega | assumption | decide | (simp <;> omega) | fail) [facts, ]
  refine fresh_intro fun b1 hb1 => ?_
  simp (disch := first | omega | assumption | decide | (simp <;> omega) | fail) [facts, ]
  exact ⟨_, Heap.le_refl _, le_upd _ hb1⟩
theorem owes_c (t : Txn) (H : Heap) (ha : t.amount ≤ 1000000) (h : owesT t) : ECalls Try.prog 21 #[txnV t] H fun r H' => r = .bool true ∧ Heap.le H H' := by
  refine ecalls_of_ewp (args := [_]) Try.func21 rfl rfl rfl (by simp [Try.ntmps21]) (by kernel_rfl) ?_
  obtain ⟨te, st, pan, am, sta, n0, n1, n2, n3, gi, ow⟩ := t
  obtain ⟨h1, h2, h3, h4, h5⟩ := h
  simp only at h1 h2 h3 h4 h5 ha
  simp only [txnV, txnL]
  simp (disch := first | omega | assumption | decide | (simp <;> omega) | fail) [facts, ]
  refine fresh_intro fun b1 hb1 => ?_
  simp (disch := first | omega | assumption | decide | (simp <;> omega) | fail) [facts, h1, h2, h3, h4, h5]
  exact ⟨_, Heap.le_refl _, le_upd _ hb1⟩
theorem due_c (t : Txn) (H : Heap) : ECalls Try.prog 10 #[txnV t] H fun r H' => r = .int .i64 (if t.state = 5 ∨ t.state = 4 then t.given else if t.state = 0 ∨ t.state = 6 then 0 else -1) ∧ Heap.le H H' := by
  refine ecalls_of_ewp (args := [_]) Try.func10 rfl rfl rfl (by simp [Try.ntmps10]) (by kernel_rfl) ?_
  obtain ⟨te, st, pan, am, sta, n0, n1, n2, n3, gi, ow⟩ := t
  simp only [txnV, txnL]
  simp (disch := first | omega | assumption | decide | (simp <;> omega) | fail) [facts, ]
  refine fresh_intro fun b1 hb1 => ?_
  by_cases h5 : sta = 5
  · simp (disch := first | omega | assumption | decide | (simp <;> omega) | fail) [facts, h5]
    exact ⟨_, Heap.le_refl _, le_upd _ hb1⟩
  by_cases h4 : sta = 4
  · simp (disch := first | omega | assumption | decide | (simp <;> omega) | fail) [facts, h5, h4]
    exact ⟨_, Heap.le_refl _, le_upd _ hb1⟩
  by_cases h0 : sta = 0
  · simp (disch := first | omega | assumption | decide | (simp <;> omega) | fail) [facts, h5, h4, h0]
    exact ⟨_, Heap.le_refl _, le_upd _ hb1⟩
  by_cases h6 : sta = 6
  · simp (disch := first | omega | assumption | decide | (simp <;> omega) | fail) [facts, h5, h4, h0, h6]
    exact ⟨_, Heap.le_refl _, le_upd _ hb1⟩
  simp (disch := first | omega | assumption | decide | (simp <;> omega) | fail) [facts, h5, h4, h0, h6]
  exact ⟨_, Heap.le_refl _, le_upd _ hb1⟩
theorem open_c (t : Txn) (H : Heap) : ECalls Try.prog 8 #[txnV t] H fun r H' => r = .bool (decide (1 ≤ t.state ∧ t.state ≤ 4)) ∧ Heap.le H H' := by
  refine ecalls_of_ewp (args := [_]) Try.func8 rfl rfl rfl (by simp [Try.ntmps8]) (by kernel_rfl) ?_
  obtain ⟨te, st, pan, am, sta, n0, n1, n2, n3, gi, ow⟩ := t
  simp only [txnV, txnL]
  simp (disch := first | omega | assumption | decide | (simp <;> omega) | fail) [facts, ]
  refine fresh_intro fun b1 hb1 => ?_
  by_cases h1 : 1 ≤ sta
  · by_cases h4 : sta ≤ 4
    · simp (disch := first | omega | assumption | decide | (simp <;> omega) | fail) [facts, h1, h4]
      exact ⟨_, Heap.le_refl _, le_upd _ hb1⟩
    · simp (disch := first | omega | assumption | decide | (simp <;> omega) | fail) [facts, h1, h4]
      exact ⟨_, Heap.le_refl _, le_upd _ hb1⟩
  · simp (disch := first | omega | assumption | decide | (simp <;> omega) | fail) [facts, h1]
    exact ⟨_, Heap.le_refl _, le_upd _ hb1⟩
theorem reverse_c (t : Txn) (g : Int) (H : Heap) (h : -9223372036854775808 ≤ t.amount - g ∧ t.amount - g ≤ 9223372036854775807) :
    ECalls Try.prog 16 #[txnV t, .int .i64 g] H fun r H' => r = txnV { t with state := 4, given := g, owed := t.amount - g } ∧ Heap.le H H' := by
  refine ecalls_of_ewp (args := [_, _]) Try.func16 rfl rfl rfl (by simp [Try.ntmps16]) (by kernel_rfl) ?_
  obtain ⟨te, st, pan, am, sta, n0, n1, n2, n3, gi, ow⟩ := t
  simp only at h
  simp only [txnV, txnL]
  simp (disch := first | omega | assumption | decide | (simp <;> omega) | fail) [facts, ]
  refine fresh_intro fun b1 hb1 => ?_
  simp (disch := first | omega | assumption | decide | (simp <;> omega) | fail) [facts, ]
  refine fresh_intro fun b2 hb2 => ?_
  have hne : b1 ≠ b2 := ne_of_fresh hb2 (upd_same _ _ _)
  have hne' := hne.symm
  have hb2' : H b2 = none := le_of_none (le_upd _ hb1) hb2
  simp (disch := first | omega | assumption | decide | (simp <;> omega) | fail) [facts, upd_ne]
  refine ⟨_, Heap.le_refl _, ?_⟩
  repeat' (first | exact Heap.le_refl _ | exact hb1 | exact hb2' | apply le_updN)
end Go.Proofs.Ytahmnhdmnhijcaa.GL
