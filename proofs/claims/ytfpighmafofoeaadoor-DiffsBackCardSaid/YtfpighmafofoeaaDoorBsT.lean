/- Layer 19: the small functions on transactions and records; of what may be, alone.; Layer 19: which states go on, counts, the records and transactions that may be.; Layer 19: what a record makes of a transaction.; Layer 20: the reference's transactions. -/
import Derived.Test.YtfpighmafofoeaaDoorBkS
namespace Go.Proofs.YtfpighmafofoeaaDoor.GL.St
open Go Go.RowKit Go.Proofs.YtfpighmafofoeaaDoor.GL
set_option maxRecDepth 10000
set_option pp.deepTerms.threshold 8
set_option pp.maxSteps 3000
set_option linter.unusedSimpArgs false
set_option linter.unusedVariables false

theorem mkS_lit {l : List UInt8} : (⟨l.toArray⟩ : ByteArray) = mkS l := Eq.trans rfl rfl
theorem mkS_empty : ByteArray.empty = mkS [] := Eq.trans rfl rfl
attribute [simp] mkS_lit mkS_empty mkS_size mkS_list str_beq

theorem le_updN {H H1 : Heap} {b : Nat} (o : GObj) (hl : Heap.le H H1) (hb : H b = none) : Heap.le H (upd H1 b o) := fun i p e => by
  rw [upd_ne _ _ (ne_of_fresh hb e)]; exact hl i p e
structure Txn where
  term : Int
  stan : Int
  pan : List UInt8
  amount : Int
  state : Int
  n0 : Int
  n1 : Int
  n2 : Int
  n3 : Int
  given : Int
  owed : Int
def txnL (t : Txn) : List Value := [.int .u16 t.term, .int .u32 t.stan, .string (mkS t.pan), .int .i64 t.amount, .int .i64 t.state, .int .i64 t.n0, .int .i64 t.n1, .int .i64 t.n2, .int .i64 t.n3, .int .i64 t.given, .int .i64 t.owed]
def txnV (t : Txn) : Value := .agg (txnL t).toArray
def zeroT : Txn := ⟨0, 0, [], 0, 0, 0, 0, 0, 0, 0, 0⟩
structure Rec where
  kind : Int
  term : Int
  stan : Int
  pan : List UInt8
  amount : Int
  n0 : Int
  n1 : Int
  n2 : Int
  n3 : Int
  x0 : Int
  x1 : Int
  x2 : Int
  x3 : Int
  x4 : Int
  x5 : Int
  x6 : Int
  x7 : Int

def recV (r : Rec) : Value := .agg [.int .i64 r.kind, .int .u16 r.term, .int .u32 r.stan, .string (mkS r.pan), .int .i64 r.amount, .int .i64 r.n0, .int .i64 r.n1, .int .i64 r.n2, .int .i64 r.n3, .int .i64 r.x0, .int .i64 r.x1, .int .i64 r.x2, .int .i64 r.x3, .int .i64 r.x4, .int .i64 r.x5, .int .i64 r.x6, .int .i64 r.x7].toArray
def Rec.rz (r : Rec) : RZ := ⟨r.kind, r.term, r.stan, mkS r.pan, r.amount, ⟨r.n0, r.n1, r.n2, r.n3⟩, ⟨r.x0, r.x1, r.x2, r.x3⟩, ⟨r.x4, r.x5, r.x6, r.x7⟩⟩

def digitB (c : UInt8) : Prop := 48 ≤ c.toNat ∧ c.toNat ≤ 57
def fewIn (z : Int) : Prop := 0 ≤ z ∧ z ≤ 10000
def owesT (t : Txn) : Prop := 0 ≤ t.given ∧ 0 < t.owed ∧ t.given ≤ t.amount ∧ t.owed ≤ t.amount ∧ t.given + t.owed = t.amount
def noT (t : Txn) : Prop := t.n0 = 0 ∧ t.n1 = 0 ∧ t.n2 = 0 ∧ t.n3 = 0
/-- A transaction that may be. -/
structure OkT (t : Txn) : Prop where
  pan1 : 1 ≤ t.pan.length
  pan2 : t.pan.length ≤ 19
  pan3 : ∀ c ∈ t.pan, digitB c
  am1 : 1 ≤ t.amount
  am2 : t.amount ≤ 1000000
  few : fewIn t.n0 ∧ fewIn t.n1 ∧ fewIn t.n2 ∧ fewIn t.n3
  state : ((t.state = 1 ∨ t.state = 2 ∨ t.state = 6) ∧ noT t ∧ t.given = 0 ∧ t.owed = 0) ∨ (t.state = 3 ∧ t.given = 0 ∧ t.owed = 0) ∨ (t.state = 4 ∧ owesT t) ∨ (t.state = 5 ∧ ((t.owed = 0 ∧ t.given = t.amount) ∨ owesT t))
def RightT (t : Txn) : Prop := t = zeroT ∨ OkT t
structure RightR (r : Rec) : Prop where
  kind : 1 ≤ r.kind ∧ r.kind ≤ 7
  right : r.rz.right = true
theorem RightR.am {r : Rec} (h : RightR r) : 0 ≤ r.amount ∧ r.amount ≤ 1000000 := by
  have := h.right
  simp only [RZ.right, Rec.rz, Bool.and_eq_true, decide_eq_true_eq] at this
  exact ⟨of_decide_eq_true this.1.1.1.1.2, of_decide_eq_true this.1.1.1.2⟩
theorem RightR.len {r : Rec} (h : RightR r) : r.pan.length ≤ 19 := by
  have := h.right
  simp only [RZ.right, Rec.rz, mkS_sz, Bool.and_eq_true, decide_eq_true_eq] at this
  exact this.1.1.1.1.1.1.2

theorem digits_c (l : List UInt8) (H : Heap) (h : ∀ c ∈ l, digitB c) (hl : l.length ≤ 1000) : ECalls Tryd.prog 42 #[.string (mkS l)] H fun r H' => r = .bool true ∧ H' = H := by
  refine ecalls_of_ewp (args := [_]) Tryd.func42 rfl rfl rfl (by simp [Tryd.ntmps42]) (by kernel_rfl) ?_
  simp (disch := first | omega | assumption | decide | (simp <;> omega) | fail) [facts, ]
  refine w_loop (fun s => ∃ k : Nat, k ≤ l.length ∧ s.env 0 = .string (mkS l) ∧ s.env 5 = .int .i64 l.length ∧ s.env 6 = .int .i64 k ∧ s.heap = H) (fun s => l.length - (intOf (s.env 6)).toNat) ?_ ?_
  · exact ⟨0, Nat.zero_le _, by simp, by simp, by simp, rfl⟩
  · rintro ⟨e, H1⟩ ⟨k, hk, e0, e5, e6, hH⟩
    simp only at e0 e5 e6 hH
    subst hH
    by_cases hlt : (k : Int) < l.length
    · obtain ⟨c, hc⟩ : ∃ c, l[k]? = some c := ⟨_, List.getElem?_eq_getElem (by omega)⟩
      obtain ⟨hkl, hc'⟩ := List.getElem?_eq_some_iff.1 hc
      obtain ⟨d1, d2⟩ := h c (List.mem_of_getElem? hc)
      simp (disch := first | omega | assumption | decide | (simp <;> omega) | fail) [facts, e0, e5, e6, hlt, hc, hc', show ¬ (c.toNat : Int) < 48 by omega, show ¬ (57 : Int) < (c.toNat : Int) by omega]
      exact ⟨_, Heap.le_refl _, ⟨k + 1, by omega, by simp [e0], by simp [e5], by simp, rfl⟩, by simp [intOf, e6]; omega⟩
    · simp (disch := first | omega | assumption | decide | (simp <;> omega) | fail) [facts, e0, e5, e6, hlt]

theorem open_c (t : Txn) (H : Heap) : ECalls Tryd.prog 36 #[txnV t] H fun r H' => r = .bool (decide (1 ≤ t.state ∧ t.state ≤ 4)) ∧ Heap.le H H' := by
  refine ecalls_of_ewp (args := [_]) Tryd.func36 rfl rfl rfl (by simp [Tryd.ntmps36]) (by kernel_rfl) ?_
  obtain ⟨te, st, pan, am, sta, n0, n1, n2, n3, gi, ow⟩ := t
  simp only [txnV, txnL]
  simp (disch := first | omega | assumption | decide | (simp <;> omega) | fail) [facts, ]
  refine fresh_intro fun b1 hb1 => ?_
  by_cases h1 : 1 ≤ sta
  · by_cases h4 : sta ≤ 4
    · simp (disch := first | omega | assumption | decide | (simp <;> omega) | fail) [facts, h1, h4]
      exact ⟨_, Heap.le_refl _, le_upd _ hb1⟩
    · simp (disch := first | omega | assumption | decide | (simp <;> omega) | fail) [facts, h1, h4]
      exact ⟨_, Heap.le_refl _, le_upd _ hb1⟩
  · simp (disch := first | omega | assumption | decide | (simp <;> omega) | fail) [facts, h1]
    exact ⟨_, Heap.le_refl _, le_upd _ hb1⟩
end Go.Proofs.YtfpighmafofoeaaDoor.GL.St

namespace Go.Proofs.YtfpighmafofoeaaDoor.GL.St
open Go Go.RowKit Go.Proofs.YtfpighmafofoeaaDoor.GL
set_option maxRecDepth 10000
set_option pp.deepTerms.threshold 8
set_option pp.maxSteps 3000
set_option linter.unusedSimpArgs false
set_option linter.unusedVariables false

def fromL (k : Int) : List Int := if k = 1 then [0] else if k = 4 then [1, 2] else if k = 5 then [2] else if k = 6 then [3] else if k = 7 then [4] else [1]
theorem row_i64 {H : Heap} {b : Nat} (xs : List Int) : SlA (upd H b (.row true 0 (xs.map i64V) 0)) (some ⟨b, 0, none⟩) xs.length 1 (xs.map i64V) :=
  SlA.row (upd_same _ _ _) (Nat.le_refl _) (by simp) (by simp) (by rw [Nat.sub_self, List.drop_zero, Nat.mul_one, List.take_of_length_le (by simp)])
end Go.Proofs.YtfpighmafofoeaaDoor.GL.St

namespace Go.Proofs.YtfpighmafofoeaaDoor.GL.St
open Go Go.RowKit Go.Proofs.YtfpighmafofoeaaDoor.GL
set_option maxRecDepth 10000
set_option pp.deepTerms.threshold 8
set_option pp.maxSteps 3000
set_option linter.unusedSimpArgs false
set_option linter.unusedVariables false

def revT (t : Txn) (g : Int) : Txn := { t with state := 4, given := g, owed := t.amount - g }
/-- What a record that may be makes of a transaction that may be, of the same key. -/
def stepF (t : Txn) (r : Rec) : Txn × Int :=
  if t.state ∈ fromL r.kind then
    if r.kind = 1 then (if r.pan = [] then (zeroT, 27) else if r.amount = 0 then (zeroT, 34) else (⟨r.term, r.stan, r.pan, r.amount, 1, 0, 0, 0, 0, 0, 0⟩, 0))
    else if r.kind = 2 then ({ t with state := 2 }, 0)
    else if r.kind = 3 then ({ t with state := 6 }, 0)
    else if r.kind = 4 then (revT t 0, 0)
    else if r.kind = 5 then ({ t with state := 3, n0 := r.n0, n1 := r.n1, n2 := r.n2, n3 := r.n3 }, 0)
    else if r.kind = 6 then (if t.amount < r.amount then (zeroT, 34) else if t.amount - r.amount = 0 then ({ revT t r.amount with state := 5 }, 0) else (revT t r.amount, 0))
    else ({ t with state := 5 }, 0)
  else (zeroT, 30)
def pairV (x : Txn × Int) : Value := .tuple #[txnV x.1, .int .i64 x.2]

theorem fromL_len (k : Int) : (fromL k).length ≤ 1000 := by
  unfold fromL; repeat' split
  all_goals simp
end Go.Proofs.YtfpighmafofoeaaDoor.GL.St

namespace Go.Proofs.YtfpighmafofoeaaDoor.GL.St
open Go Go.RowKit Go.Proofs.YtfpighmafofoeaaDoor.GL
set_option maxRecDepth 10000
set_option pp.deepTerms.threshold 8
set_option pp.maxSteps 3000
set_option linter.unusedSimpArgs false
set_option linter.unusedVariables false

theorem allD_of {l : List UInt8} (h : ∀ c ∈ l, digitB c) : allD (mkS l) = true := by
  unfold allD
  rw [mkS_list, List.all_eq_true]
  intro c hc
  have := h c hc
  unfold digitB at this
  simp [isD, this]
theorem nz_few {a b c d : Int} (h : fewIn a ∧ fewIn b ∧ fewIn c ∧ fewIn d) : (NZ.mk a b c d).ok = true := by
  unfold fewIn at h
  exact nz_ok h.1 h.2.1 h.2.2.1 h.2.2.2
end Go.Proofs.YtfpighmafofoeaaDoor.GL.St
