/- Layer 19: the small functions on transactions and records; of what may be, alone.; Layer 19: which states go on, counts, the records and transactions that may be.; Layer 19: what a record makes of a transaction.; Layer 20: the reference's transactions. -/
import Derived.Test.YtfpighmafofoeaaGreatDoorBkS
import Derived.Test.YtfpighmafofoeaaGreatDoorSoG
namespace Go.Proofs.YtfpighmafofoeaaGreatDoor.GL.St
open Go Go.RowKit Go.Proofs.YtfpighmafofoeaaGreatDoor.GL
set_option maxRecDepth 10000
set_option pp.deepTerms.threshold 8
set_option pp.maxSteps 3000
set_option linter.unusedSimpArgs false
set_option linter.unusedVariables false

theorem mkS_lit {l : List UInt8} : (⟨l.toArray⟩ : ByteArray) = mkS l := Eq.trans rfl rfl
theorem mkS_empty : ByteArray.empty = mkS [] := Eq.trans rfl rfl
attribute [simp] mkS_lit mkS_empty mkS_size mkS_list str_beq

theorem le_updN {H H1 : Heap} {b : Nat} (o : GObj) (hl : Heap.le H H1) (hb : H b = none) : Heap.le H (upd H1 b o) := fun i p e => by
  rw [upd_ne _ _ (ne_of_fresh hb e)]; exact hl i p e
structure Txn where
  term : Int
  stan : Int
  pan : List UInt8
  amount : Int
  state : Int
  n0 : Int
  n1 : Int
  n2 : Int
  n3 : Int
  given : Int
  owed : Int
def txnL (t : Txn) : List Value := [.int .u16 t.term, .int .u32 t.stan, .string (mkS t.pan), .int .i64 t.amount, .int .i64 t.state, .int .i64 t.n0, .int .i64 t.n1, .int .i64 t.n2, .int .i64 t.n3, .int .i64 t.given, .int .i64 t.owed]
def txnV (t : Txn) : Value := .agg (txnL t).toArray
def zeroT : Txn := ⟨0, 0, [], 0, 0, 0, 0, 0, 0, 0, 0⟩
structure Rec where
  kind : Int
  term : Int
  stan : Int
  pan : List UInt8
  amount : Int
  n0 : Int
  n1 : Int
  n2 : Int
  n3 : Int
  x0 : Int
  x1 : Int
  x2 : Int
  x3 : Int
  x4 : Int
  x5 : Int
  x6 : Int
  x7 : Int

def recV (r : Rec) : Value := .agg [.int .i64 r.kind, .int .u16 r.term, .int .u32 r.stan, .string (mkS r.pan), .int .i64 r.amount, .int .i64 r.n0, .int .i64 r.n1, .int .i64 r.n2, .int .i64 r.n3, .int .i64 r.x0, .int .i64 r.x1, .int .i64 r.x2, .int .i64 r.x3, .int .i64 r.x4, .int .i64 r.x5, .int .i64 r.x6, .int .i64 r.x7].toArray
def Rec.rz (r : Rec) : RZ := ⟨r.kind, r.term, r.stan, mkS r.pan, r.amount, ⟨r.n0, r.n1, r.n2, r.n3⟩, ⟨r.x0, r.x1, r.x2, r.x3⟩, ⟨r.x4, r.x5, r.x6, r.x7⟩⟩

def digitB (c : UInt8) : Prop := 48 ≤ c.toNat ∧ c.toNat ≤ 57
def fewIn (z : Int) : Prop := 0 ≤ z ∧ z ≤ 10000
def owesT (t : Txn) : Prop := 0 ≤ t.given ∧ 0 < t.owed ∧ t.given ≤ t.amount ∧ t.owed ≤ t.amount ∧ t.given + t.owed = t.amount
def noT (t : Txn) : Prop := t.n0 = 0 ∧ t.n1 = 0 ∧ t.n2 = 0 ∧ t.n3 = 0
/-- A transaction that may be. -/
structure OkT (t : Txn) : Prop where
  pan1 : 1 ≤ t.pan.length
  pan2 : t.pan.length ≤ 19
  pan3 : ∀ c ∈ t.pan, digitB c
  am1 : 1 ≤ t.amount
  am2 : t.amount ≤ 1000000
  few : fewIn t.n0 ∧ fewIn t.n1 ∧ fewIn t.n2 ∧ fewIn t.n3
  state : ((t.state = 1 ∨ t.state = 2 ∨ t.state = 6) ∧ noT t ∧ t.given = 0 ∧ t.owed = 0) ∨ (t.state = 3 ∧ t.given = 0 ∧ t.owed = 0) ∨ (t.state = 4 ∧ owesT t) ∨ (t.state = 5 ∧ ((t.owed = 0 ∧ t.given = t.amount) ∨ owesT t))
def RightT (t : Txn) : Prop := t = zeroT ∨ OkT t
structure RightR (r : Rec) : Prop where
  kind : 1 ≤ r.kind ∧ r.kind ≤ 7
  right : r.rz.right = true
theorem RightR.am {r : Rec} (h : RightR r) : 0 ≤ r.amount ∧ r.amount ≤ 1000000 := by
  have := h.right
  simp only [RZ.right, Rec.rz, Bool.and_eq_true, decide_eq_true_eq] at this
  exact ⟨of_decide_eq_true this.1.1.1.1.2, of_decide_eq_true this.1.1.1.2⟩
theorem RightR.len {r : Rec} (h : RightR r) : r.pan.length ≤ 19 := by
  have := h.right
  simp only [RZ.right, Rec.rz, mkS_sz, Bool.and_eq_true, decide_eq_true_eq] at this
  exact this.1.1.1.1.1.1.2

theorem digits_c (l : List UInt8) (H : Heap) (h : ∀ c ∈ l, digitB c) (hl : l.length ≤ 1000) : ECalls Tryz.prog 45 #[.string (mkS l)] H fun r H' => r = .bool true ∧ H' = H := by
  refine ecalls_of_ewp (args := [_]) Tryz.func45 rfl rfl rfl (by simp [Tryz.ntmps45]) (by kernel_rfl) ?_
  simp (disch := first | omega | assumption | decide | (simp <;> omega) | fail) [facts, ]
  refine w_loop (fun s => ∃ k : Nat, k ≤ l.length ∧ s.env 0 = .string (mkS l) ∧ s.env 5 = .int .i64 l.length ∧ s.env 6 = .int .i64 k ∧ s.heap = H) (fun s => l.length - (intOf (s.env 6)).toNat) ?_ ?_
  · exact ⟨0, Nat.zero_le _, by simp, by simp, by simp, rfl⟩
  · rintro ⟨e, H1⟩ ⟨k, hk, e0, e5, e6, hH⟩
    simp only at e0 e5 e6 hH
    subst hH
    by_cases hlt : (k : Int) < l.length
    · obtain ⟨c, hc⟩ : ∃ c, l[k]? = some c := ⟨_, List.getElem?_eq_getElem (by omega)⟩
      obtain ⟨hkl, hc'⟩ := List.getElem?_eq_some_iff.1 hc
      obtain ⟨d1, d2⟩ := h c (List.mem_of_getElem? hc)
      simp (disch := first | omega | assumption | decide | (simp <;> omega) | fail) [facts, e0, e5, e6, hlt, hc, hc', show ¬ (c.toNat : Int) < 48 by omega, show ¬ (57 : Int) < (c.toNat : Int) by omega]
      exact ⟨_, Heap.le_refl _, ⟨k + 1, by omega, by simp [e0], by simp [e5], by simp, rfl⟩, by simp [intOf, e6]; omega⟩
    · simp (disch := first | omega | assumption | decide | (simp <;> omega) | fail) [facts, e0, e5, e6, hlt]

theorem notes_c (a b c d : Int) (H : Heap) (h : fewIn a ∧ fewIn b ∧ fewIn c ∧ fewIn d) : ECalls Tryz.prog 86 #[.agg #[.int .i64 a, .int .i64 b, .int .i64 c, .int .i64 d]] H fun r H' => r = .bool true ∧ Heap.le H H' := by
  refine ecalls_of_ewp (args := [_]) Tryz.func86 rfl rfl rfl (by simp [Tryz.ntmps86]) (by kernel_rfl) ?_
  simp (disch := first | omega | assumption | decide | (simp <;> omega) | fail) [facts, ]
  refine fresh_intro fun b1 hb1 => ?_
  simp (disch := first | omega | assumption | decide | (simp <;> omega) | fail) [facts, ]
  refine w_loop (fun s => ∃ k : Nat, k ≤ 4 ∧ s.env 5 = .agg #[.int .i64 a, .int .i64 b, .int .i64 c, .int .i64 d] ∧ s.env 6 = .int .i64 k ∧ Heap.le H s.heap) (fun s => 4 - (intOf (s.env 6)).toNat) ?_ ?_
  · exact ⟨0, by decide, by simp, by simp, by simpa using le_upd _ hb1⟩
  · rintro ⟨e, H1⟩ ⟨k, hk, e5, e6, hle⟩
    simp only at e5 e6 hle
    unfold fewIn at h
    match k, hk with
    | 0, _ =>
      simp (disch := first | omega | assumption | decide | (simp <;> omega) | fail) [facts, e5, e6, show ¬ a < 0 by omega, show ¬ 10000 < a by omega]
      exact ⟨_, Heap.le_refl _, ⟨1, by omega, by simp [e5], by simp, hle⟩, by simp [intOf, e6]⟩
    | 1, _ =>
      simp (disch := first | omega | assumption | decide | (simp <;> omega) | fail) [facts, e5, e6, show ¬ b < 0 by omega, show ¬ 10000 < b by omega]
      exact ⟨_, Heap.le_refl _, ⟨2, by omega, by simp [e5], by simp, hle⟩, by simp [intOf, e6]⟩
    | 2, _ =>
      simp (disch := first | omega | assumption | decide | (simp <;> omega) | fail) [facts, e5, e6, show ¬ c < 0 by omega, show ¬ 10000 < c by omega]
      exact ⟨_, Heap.le_refl _, ⟨3, by omega, by simp [e5], by simp, hle⟩, by simp [intOf, e6]⟩
    | 3, _ =>
      simp (disch := first | omega | assumption | decide | (simp <;> omega) | fail) [facts, e5, e6, show ¬ d < 0 by omega, show ¬ 10000 < d by omega]
      exact ⟨_, Heap.le_refl _, ⟨4, by omega, by simp [e5], by simp, hle⟩, by simp [intOf, e6]⟩
    | 4, _ =>
      simp (disch := first | omega | assumption | decide | (simp <;> omega) | fail) [facts, e5, e6]
      exact ⟨_, Heap.le_refl _, hle⟩
theorem noughts_c (H : Heap) : ECalls Tryz.prog 87 #[.agg #[.int .i64 0, .int .i64 0, .int .i64 0, .int .i64 0]] H fun r H' => r = .bool true ∧ Heap.le H H' := by
  refine ecalls_of_ewp (args := [_]) Tryz.func87 rfl rfl rfl (by simp [Tryz.ntmps87]) (by kernel_rfl) ?_
  simp (disch := first | omega | assumption | decide | (simp <;> omega) | fail) [facts, ]
  refine fresh_intro fun b1 hb1 => ?_
  simp (disch := first | omega | assumption | decide | (simp <;> omega) | fail) [facts, ]
  exact ⟨_, Heap.le_refl _, le_upd _ hb1⟩
theorem owes_c (t : Txn) (H : Heap) (ha : t.amount ≤ 1000000) (h : owesT t) : ECalls Tryz.prog 88 #[txnV t] H fun r H' => r = .bool true ∧ Heap.le H H' := by
  refine ecalls_of_ewp (args := [_]) Tryz.func88 rfl rfl rfl (by simp [Tryz.ntmps88]) (by kernel_rfl) ?_
  obtain ⟨te, st, pan, am, sta, n0, n1, n2, n3, gi, ow⟩ := t
  obtain ⟨h1, h2, h3, h4, h5⟩ := h
  simp only at h1 h2 h3 h4 h5 ha
  simp only [txnV, txnL]
  simp (disch := first | omega | assumption | decide | (simp <;> omega) | fail) [facts, ]
  refine fresh_intro fun b1 hb1 => ?_
  simp (disch := first | omega | assumption | decide | (simp <;> omega) | fail) [facts, h1, h2, h3, h4, h5]
  exact ⟨_, Heap.le_refl _, le_upd _ hb1⟩
theorem open_c (t : Txn) (H : Heap) : ECalls Tryz.prog 57 #[txnV t] H fun r H' => r = .bool (decide (1 ≤ t.state ∧ t.state ≤ 4)) ∧ Heap.le H H' := by
  refine ecalls_of_ewp (args := [_]) Tryz.func57 rfl rfl rfl (by simp [Tryz.ntmps57]) (by kernel_rfl) ?_
  obtain ⟨te, st, pan, am, sta, n0, n1, n2, n3, gi, ow⟩ := t
  simp only [txnV, txnL]
  simp (disch := first | omega | assumption | decide | (simp <;> omega) | fail) [facts, ]
  refine fresh_intro fun b1 hb1 => ?_
  by_cases h1 : 1 ≤ sta
  · by_cases h4 : sta ≤ 4
    · simp (disch := first | omega | assumption | decide | (simp <;> omega) | fail) [facts, h1, h4]
      exact ⟨_, Heap.le_refl _, le_upd _ hb1⟩
    · simp (disch := first | omega | assumption | decide | (simp <;> omega) | fail) [facts, h1, h4]
      exact ⟨_, Heap.le_refl _, le_upd _ hb1⟩
  · simp (disch := first | omega | assumption | decide | (simp <;> omega) | fail) [facts, h1]
    exact ⟨_, Heap.le_refl _, le_upd _ hb1⟩
theorem reverse_c (t : Txn) (g : Int) (H : Heap) (h : -9223372036854775808 ≤ t.amount - g ∧ t.amount - g ≤ 9223372036854775807) :
    ECalls Tryz.prog 75 #[txnV t, .int .i64 g] H fun r H' => r = txnV { t with state := 4, given := g, owed := t.amount - g } ∧ Heap.le H H' := by
  refine ecalls_of_ewp (args := [_, _]) Tryz.func75 rfl rfl rfl (by simp [Tryz.ntmps75]) (by kernel_rfl) ?_
  obtain ⟨te, st, pan, am, sta, n0, n1, n2, n3, gi, ow⟩ := t
  simp only at h
  simp only [txnV, txnL]
  simp (disch := first | omega | assumption | decide | (simp <;> omega) | fail) [facts, ]
  refine fresh_intro fun b1 hb1 => ?_
  simp (disch := first | omega | assumption | decide | (simp <;> omega) | fail) [facts, ]
  refine fresh_intro fun b2 hb2 => ?_
  have hne : b1 ≠ b2 := ne_of_fresh hb2 (upd_same _ _ _)
  have hne' := hne.symm
  have hb2' : H b2 = none := le_of_none (le_upd _ hb1) hb2
  simp (disch := first | omega | assumption | decide | (simp <;> omega) | fail) [facts, upd_ne]
  refine ⟨_, Heap.le_refl _, ?_⟩
  repeat' (first | exact Heap.le_refl _ | exact hb1 | exact hb2' | apply le_updN)
end Go.Proofs.YtfpighmafofoeaaGreatDoor.GL.St

namespace Go.Proofs.YtfpighmafofoeaaGreatDoor.GL.St
open Go Go.RowKit Go.Proofs.YtfpighmafofoeaaGreatDoor.GL
set_option maxRecDepth 10000
set_option pp.deepTerms.threshold 8
set_option pp.maxSteps 3000
set_option linter.unusedSimpArgs false
set_option linter.unusedVariables false

def fromL (k : Int) : List Int := if k = 1 then [0] else if k = 4 then [1, 2] else if k = 5 then [2] else if k = 6 then [3] else if k = 7 then [4] else [1]
theorem row_i64 {H : Heap} {b : Nat} (xs : List Int) : SlA (upd H b (.row true 0 (xs.map i64V) 0)) (some ⟨b, 0, none⟩) xs.length 1 (xs.map i64V) :=
  SlA.row (upd_same _ _ _) (Nat.le_refl _) (by simp) (by simp) (by rw [Nat.sub_self, List.drop_zero, Nat.mul_one, List.take_of_length_le (by simp)])
theorem from_c (k : Int) (H : Heap) : ECalls Tryz.prog 73 #[.int .i64 k] H fun r H' => Heap.le H H' ∧ ∃ a c, r = .slice a (fromL k).length c ∧ SlA H' a (fromL k).length 1 ((fromL k).map i64V) := by
  refine ecalls_of_ewp (args := [_]) Tryz.func73 rfl rfl rfl (by simp [Tryz.ntmps73]) (by kernel_rfl) ?_
  unfold fromL
  by_cases h1 : k = 1
  · simp (disch := first | omega | assumption | decide | (simp <;> omega) | fail) [facts, h1]
    refine fresh_intro fun b hb => ?_
    simp (disch := first | omega | assumption | decide | (simp <;> omega) | fail) [facts, ]
    exact ⟨_, Heap.le_refl _, le_upd _ hb, row_i64 [0]⟩
  by_cases h4 : k = 4
  · simp (disch := first | omega | assumption | decide | (simp <;> omega) | fail) [facts, h1, h4]
    refine fresh_intro fun b hb => ?_
    simp (disch := first | omega | assumption | decide | (simp <;> omega) | fail) [facts, ]
    exact ⟨_, Heap.le_refl _, le_upd _ hb, row_i64 [1, 2]⟩
  by_cases h5 : k = 5
  · simp (disch := first | omega | assumption | decide | (simp <;> omega) | fail) [facts, h1, h4, h5]
    refine fresh_intro fun b hb => ?_
    simp (disch := first | omega | assumption | decide | (simp <;> omega) | fail) [facts, ]
    exact ⟨_, Heap.le_refl _, le_upd _ hb, row_i64 [2]⟩
  by_cases h6 : k = 6
  · simp (disch := first | omega | assumption | decide | (simp <;> omega) | fail) [facts, h1, h4, h5, h6]
    refine fresh_intro fun b hb => ?_
    simp (disch := first | omega | assumption | decide | (simp <;> omega) | fail) [facts, ]
    exact ⟨_, Heap.le_refl _, le_upd _ hb, row_i64 [3]⟩
  by_cases h7 : k = 7
  · simp (disch := first | omega | assumption | decide | (simp <;> omega) | fail) [facts, h1, h4, h5, h6, h7]
    refine fresh_intro fun b hb => ?_
    simp (disch := first | omega | assumption | decide | (simp <;> omega) | fail) [facts, ]
    exact ⟨_, Heap.le_refl _, le_upd _ hb, row_i64 [4]⟩
  simp (disch := first | omega | assumption | decide | (simp <;> omega) | fail) [facts, h1, h4, h5, h6, h7]
  refine fresh_intro fun b hb => ?_
  simp (disch := first | omega | assumption | decide | (simp <;> omega) | fail) [facts, ]
  exact ⟨_, Heap.le_refl _, le_upd _ hb, row_i64 [1]⟩

theorem in_c (x : Int) (a : Option Addr) (n c : Nat) (zs : List Int) (H : Heap) (h : SlA H a n 1 (zs.map i64V)) (hn : n ≤ 1000) : ECalls Tryz.prog 72 #[.int .i64 x, .slice a n c] H fun r H' => r = .bool (decide (x ∈ zs)) ∧ H' = H := by
  refine ecalls_of_ewp (args := [_, _]) Tryz.func72 rfl rfl rfl (by simp [Tryz.ntmps72]) (by kernel_rfl) ?_
  have hl : zs.length = n := by simpa using h.len
  simp (disch := first | omega | assumption | decide | (simp <;> omega) | fail) [facts, ]
  refine w_loop (fun s => ∃ k : Nat, k ≤ n ∧ s.env 0 = .int .i64 x ∧ s.env 7 = .slice a n c ∧ s.env 8 = .int .i64 n ∧ s.env 9 = .int .i64 k ∧ s.heap = H ∧ ¬ x ∈ zs.take k) (fun s => n - (intOf (s.env 9)).toNat) ?_ ?_
  · exact ⟨0, Nat.zero_le _, by simp, by simp, by simp, by simp, rfl, by simp⟩
  · rintro ⟨e, H1⟩ ⟨k, hk, e0, e7, e8, e9, hH, hno⟩
    simp only at e0 e7 e8 e9 hH
    subst hH
    by_cases hlt : (k : Int) < n
    · obtain ⟨y, hy⟩ : ∃ y, zs[k]? = some y := ⟨_, List.getElem?_eq_getElem (by omega)⟩
      have gx := h.at hy
      rw [i64V_def] at gx
      have px := h.plain
      have tx := h.there (by omega)
      by_cases hxy : y = x
      · have hin : x ∈ zs := by rw [← hxy]; exact List.mem_of_getElem? hy
        simp (disch := first | omega | assumption | decide | (simp <;> omega) | fail) [facts, e0, e7, e8, e9, hlt, gx, hxy, hin]
      · simp (disch := first | omega | assumption | decide | (simp <;> omega) | fail) [facts, e0, e7, e8, e9, hlt, gx, hxy]
        refine ⟨_, Heap.le_refl _, ⟨k + 1, by omega, by simp [e0], by simp [e7], by simp [e8], by simp, rfl, ?_⟩, by simp [intOf, e9]; omega⟩
        rw [take_snoc hy]; simp only [List.mem_append, List.mem_singleton]
        rintro (h1 | h1)
        · exact hno h1
        · exact hxy h1.symm
    · have hkn : k = n := by omega
      subst hkn
      rw [List.take_of_length_le (by omega)] at hno
      simp (disch := first | omega | assumption | decide | (simp <;> omega) | fail) [facts, e0, e7, e8, e9, hlt, hno]

theorem rightR_c (r : Rec) (H : Heap) (h : RightR r) : ECalls Tryz.prog 24 #[recV r] H fun v H' => v = .bool true ∧ Heap.le H H' := by
  have := right_c r.rz H (by have := h.len; show (mkS r.pan).size ≤ _; rw [mkS_sz]; omega)
  rw [h.right] at this
  exact this
theorem rightT_c (t : Txn) (H : Heap) (h : RightT t) : ECalls Tryz.prog 71 #[txnV t] H fun v H' => v = .bool true ∧ Heap.le H H' := by
  refine ecalls_of_ewp (args := [_]) Tryz.func71 rfl rfl rfl (by simp [Tryz.ntmps71]) (by kernel_rfl) ?_
  rcases h with rfl | h
  · simp only [txnV, txnL, zeroT]
    simp (disch := first | omega | assumption | decide | (simp <;> omega) | fail) [facts, ]
    refine fresh_intro fun b1 hb1 => ?_
    simp (disch := first | omega | assumption | decide | (simp <;> omega) | fail) [facts, ]
    exact ⟨_, Heap.le_refl _, le_upd _ hb1⟩
  have howes := fun H (ho : owesT t) => owes_c t H h.am2 ho
  obtain ⟨te, st, pan, am, sta, n0, n1, n2, n3, gi, ow⟩ := t
  obtain ⟨p1, p2, p3, a1, a2, few, hst⟩ := h
  simp only at p1 p2 p3 a1 a2 few hst
  have hdig := fun H => digits_c pan H p3 (by omega)
  have hnot := fun H => notes_c n0 n1 n2 n3 H few
  simp only [txnV, txnL] at howes ⊢
  have s0 : ¬ sta = 0 := by omega
  simp (disch := first | omega | assumption | decide | (simp <;> omega) | fail) [facts, ]
  refine fresh_intro fun b1 hb1 => ?_
  simp (disch := first | omega | assumption | decide | (simp <;> omega) | fail) [facts, s0, show ¬ (pan.length : Int) < 1 by omega, show ¬ (19 : Int) < pan.length by omega]
  refine (hdig _).mono ?_
  rintro v H2 ⟨rfl, rfl⟩
  simp (disch := first | omega | assumption | decide | (simp <;> omega) | fail) [facts, show ¬ am < 1 by omega, show ¬ 1000000 < am by omega]
  refine (hnot _).mono ?_
  rintro v H3 ⟨rfl, hle3⟩
  have hb3 := hle3 _ _ (upd_same _ _ _)
  have hleH := Heap.le_trans (le_upd _ hb1) hle3
  rcases hst with ⟨hs, hno, hg, ho⟩ | ⟨rfl, hg, ho⟩ | ⟨rfl, how⟩ | ⟨rfl, how⟩
  · obtain ⟨z0, z1, z2, z3⟩ := hno
    simp only at z0 z1 z2 z3 hg ho
    subst z0 z1 z2 z3 hg ho
    rcases hs with rfl | rfl | rfl
    all_goals
      simp (disch := first | omega | assumption | decide | (simp <;> omega) | fail) [facts, hb3]
      refine (noughts_c _).mono ?_
      rintro v H4 ⟨rfl, hle4⟩
      have hb4 := hle4 _ _ hb3
      simp (disch := first | omega | assumption | decide | (simp <;> omega) | fail) [facts, hb4]
      exact ⟨_, Heap.le_refl _, Heap.le_trans hleH hle4⟩
  · subst hg ho
    simp (disch := first | omega | assumption | decide | (simp <;> omega) | fail) [facts, hb3]
    exact ⟨_, Heap.le_refl _, hleH⟩
  · simp (disch := first | omega | assumption | decide | (simp <;> omega) | fail) [facts, hb3]
    refine (howes _ how).mono ?_
    rintro v H4 ⟨rfl, hle4⟩
    simp (disch := first | omega | assumption | decide | (simp <;> omega) | fail) [facts, ]
    exact ⟨_, Heap.le_refl _, Heap.le_trans hleH hle4⟩
  · rcases how with ⟨ho, hg⟩ | how
    · subst ho hg
      simp (disch := first | omega | assumption | decide | (simp <;> omega) | fail) [facts, hb3]
      exact ⟨_, Heap.le_refl _, hleH⟩
    · have h0 : ¬ ow = 0 := by have := how.2.1; simp only at this; omega
      simp (disch := first | omega | assumption | decide | (simp <;> omega) | fail) [facts, hb3, h0]
      refine (howes _ how).mono ?_
      rintro v H4 ⟨rfl, hle4⟩
      simp (disch := first | omega | assumption | decide | (simp <;> omega) | fail) [facts, ]
      exact ⟨_, Heap.le_refl _, Heap.le_trans hleH hle4⟩
end Go.Proofs.YtfpighmafofoeaaGreatDoor.GL.St

namespace Go.Proofs.YtfpighmafofoeaaGreatDoor.GL.St
open Go Go.RowKit Go.Proofs.YtfpighmafofoeaaGreatDoor.GL
set_option maxRecDepth 10000
set_option pp.deepTerms.threshold 8
set_option pp.maxSteps 3000
set_option linter.unusedSimpArgs false
set_option linter.unusedVariables false

def revT (t : Txn) (g : Int) : Txn := { t with state := 4, given := g, owed := t.amount - g }
/-- What a record that may be makes of a transaction that may be, of the same key. -/
def stepF (t : Txn) (r : Rec) : Txn × Int :=
  if t.state ∈ fromL r.kind then
    if r.kind = 1 then (if r.pan = [] then (zeroT, 27) else if r.amount = 0 then (zeroT, 34) else (⟨r.term, r.stan, r.pan, r.amount, 1, 0, 0, 0, 0, 0, 0⟩, 0))
    else if r.kind = 2 then ({ t with state := 2 }, 0)
    else if r.kind = 3 then ({ t with state := 6 }, 0)
    else if r.kind = 4 then (revT t 0, 0)
    else if r.kind = 5 then ({ t with state := 3, n0 := r.n0, n1 := r.n1, n2 := r.n2, n3 := r.n3 }, 0)
    else if r.kind = 6 then (if t.amount < r.amount then (zeroT, 34) else if t.amount - r.amount = 0 then ({ revT t r.amount with state := 5 }, 0) else (revT t r.amount, 0))
    else ({ t with state := 5 }, 0)
  else (zeroT, 30)
def pairV (x : Txn × Int) : Value := .tuple #[txnV x.1, .int .i64 x.2]

theorem begin_c (r : Rec) (H : Heap) : ECalls Tryz.prog 74 #[recV r] H fun v H' => v = pairV (if r.pan = [] then (zeroT, 27) else if r.amount = 0 then (zeroT, 34) else (⟨r.term, r.stan, r.pan, r.amount, 1, 0, 0, 0, 0, 0, 0⟩, 0)) ∧ Heap.le H H' := by
  refine ecalls_of_ewp (args := [_]) Tryz.func74 rfl rfl rfl (by simp [Tryz.ntmps74]) (by kernel_rfl) ?_
  obtain ⟨k, te, st, pan, am, n0, n1, n2, n3, x0, x1, x2, x3, x4, x5, x6, x7⟩ := r
  simp only [recV]
  simp (disch := first | omega | assumption | decide | (simp <;> omega) | fail) [facts, ]
  refine fresh_intro fun b1 hb1 => ?_
  simp (disch := first | omega | assumption | decide | (simp <;> omega) | fail) [facts, ]
  refine fresh_intro fun b2 hb2 => ?_
  have hne : b1 ≠ b2 := ne_of_fresh hb2 (upd_same _ _ _)
  have hb2' : H b2 = none := le_of_none (le_upd _ hb1) hb2
  by_cases hp : pan = []
  · simp (disch := first | omega | assumption | decide | (simp <;> omega) | fail) [facts, upd_ne, hp, pairV, zeroT, txnV, txnL]
    refine ⟨_, Heap.le_refl _, ?_⟩
    repeat' (first | exact Heap.le_refl _ | exact hb1 | exact hb2' | apply le_updN)
  · by_cases ha : am = 0
    · simp (disch := first | omega | assumption | decide | (simp <;> omega) | fail) [facts, upd_ne, hp, ha, pairV, zeroT, txnV, txnL]
      refine ⟨_, Heap.le_refl _, ?_⟩
      repeat' (first | exact Heap.le_refl _ | exact hb1 | exact hb2' | apply le_updN)
    · simp (disch := first | omega | assumption | decide | (simp <;> omega) | fail) [facts, upd_ne, hp, ha, pairV, zeroT, txnV, txnL]
      refine ⟨_, Heap.le_refl _, ?_⟩
      repeat' (first | exact Heap.le_refl _ | exact hb1 | exact hb2' | apply le_updN)

theorem fromL_len (k : Int) : (fromL k).length ≤ 1000 := by
  unfold fromL; repeat' split
  all_goals simp
set_option maxHeartbeats 8000000 in
theorem step_c (t : Txn) (r : Rec) (H : Heap) (ht : RightT t) (hr : RightR r) (hk : t = zeroT ∨ (r.term = t.term ∧ r.stan = t.stan)) :
    ECalls Tryz.prog 50 #[txnV t, recV r] H fun v H' => v = pairV (stepF t r) ∧ Heap.le H H' := by
  refine ecalls_of_ewp (args := [_, _]) Tryz.func50 rfl rfl rfl (by simp [Tryz.ntmps50]) (by kernel_rfl) ?_
  have cR := fun H => rightR_c r H hr
  have cT := fun H => rightT_c t H ht
  have cB := fun H => begin_c r H
  have cV0 := fun (g : Int) (H : Heap) (h : -9223372036854775808 ≤ t.amount - g ∧ t.amount - g ≤ 9223372036854775807) => reverse_c t g H h
  have hkk : t.state = 0 ∨ (r.term = t.term ∧ r.stan = t.stan) := by
    rcases hk with rfl | h
    · exact .inl rfl
    · exact .inr h
  have ham : 0 ≤ t.amount ∧ t.amount ≤ 1000000 := by
    rcases ht with rfl | h
    · exact ⟨by decide, by decide⟩
    · exact ⟨by have := h.am1; omega, h.am2⟩
  obtain ⟨a1, a2⟩ := hr.am
  obtain ⟨⟨k1, k7⟩, _⟩ := hr
  clear ht hk
  obtain ⟨tte, tst, tpan, tam, sta, m0, m1, m2, m3, gi, ow⟩ := t
  obtain ⟨k, te, st, pan, am, n0, n1, n2, n3, x0, x1, x2, x3, x4, x5, x6, x7⟩ := r
  simp only at k1 k7 a1 a2 hkk ham
  simp only [txnV, txnL, recV] at cR cT cB cV0 ⊢
  simp (disch := first | omega | assumption | decide | (simp <;> omega) | fail) [facts, ]
  refine fresh_intro fun b2 hb2 => ?_
  simp (disch := first | omega | assumption | decide | (simp <;> omega) | fail) [facts, ]
  refine fresh_intro fun b3 hb3 => ?_
  simp (disch := first | omega | assumption | decide | (simp <;> omega) | fail) [facts, ]
  refine fresh_intro fun b4 hb4 => ?_
  have q23 : b2 ≠ b3 := ne_of_fresh hb3 (upd_same _ _ _)
  have q34 : b3 ≠ b4 := ne_of_fresh hb4 (upd_same _ _ _)
  have q24 : b2 ≠ b4 := ne_of_fresh hb4 (by rw [upd_ne _ _ q23]; exact upd_same _ _ _)
  have hb3' : H b3 = none := le_of_none (le_upd _ hb2) hb3
  have hb4' : H b4 = none := le_of_none (le_upd _ hb2) (le_of_none (le_upd _ hb3) hb4)
  obtain ⟨tr, htr⟩ : ∃ tr : List Value, tr = [.int .u16 tte, .int .u32 tst, .string (mkS tpan), .int .i64 tam, .int .i64 sta, .int .i64 m0, .int .i64 m1, .int .i64 m2, .int .i64 m3, .int .i64 gi, .int .i64 ow] := ⟨_, rfl⟩
  obtain ⟨rr, hrr⟩ : ∃ rr : List Value, rr = [.int .i64 k, .int .u16 te, .int .u32 st, .string (mkS pan), .int .i64 am, .int .i64 n0, .int .i64 n1, .int .i64 n2, .int .i64 n3, .int .i64 x0, .int .i64 x1, .int .i64 x2, .int .i64 x3, .int .i64 x4, .int .i64 x5, .int .i64 x6, .int .i64 x7] := ⟨_, rfl⟩
  obtain ⟨zr, hzr⟩ : ∃ zr : List Value, zr = [.int .u16 0, .int .u32 0, .string (mkS []), .int .i64 0, .int .i64 0, .int .i64 0, .int .i64 0, .int .i64 0, .int .i64 0, .int .i64 0, .int .i64 0] := ⟨_, rfl⟩
  rw [← htr, ← hrr] at hb4
  rw [← htr] at hb3
  rw [← htr, ← hrr, ← hzr]
  have l2 : upd (upd (upd H b2 (.row true 0 tr 0)) b3 (.row true 0 rr 0)) b4 (.row true 0 zr 0) b2 = some (.row true 0 tr 0) := by rw [upd_ne _ _ q24, upd_ne _ _ q23, upd_same]
  have l3 : upd (upd (upd H b2 (.row true 0 tr 0)) b3 (.row true 0 rr 0)) b4 (.row true 0 zr 0) b3 = some (.row true 0 rr 0) := by rw [upd_ne _ _ q34, upd_same]
  have l4 : upd (upd (upd H b2 (.row true 0 tr 0)) b3 (.row true 0 rr 0)) b4 (.row true 0 zr 0) b4 = some (.row true 0 zr 0) := upd_same _ _ _
  have hle0 : Heap.le H (upd (upd (upd H b2 (.row true 0 tr 0)) b3 (.row true 0 rr 0)) b4 (.row true 0 zr 0)) := le_updN _ (le_updN _ (le_upd _ hb2) hb3') hb4'
  generalize upd (upd (upd H b2 (.row true 0 tr 0)) b3 (.row true 0 rr 0)) b4 (.row true 0 zr 0) = H0 at l2 l3 l4 hle0 ⊢
  subst htr hrr hzr
  simp (disch := first | omega | assumption | decide | (simp <;> omega) | fail) [facts, l2, l3, l4]
  refine (cR _).mono ?_
  rintro v H1 ⟨rfl, hle1⟩
  replace l2 := hle1 _ _ l2
  replace l3 := hle1 _ _ l3
  replace l4 := hle1 _ _ l4
  simp (disch := first | omega | assumption | decide | (simp <;> omega) | fail) [facts, l2, l3, l4]
  refine (cT _).mono ?_
  rintro v H2 ⟨rfl, hle2⟩
  replace l2 := hle2 _ _ l2
  replace l3 := hle2 _ _ l3
  replace l4 := hle2 _ _ l4
  have hle := Heap.le_trans hle0 (Heap.le_trans hle1 hle2)
  clear hle0 hle1 hle2 cR cT
  by_cases s0 : sta = 0
  · subst s0
    simp (disch := first | omega | assumption | decide | (simp <;> omega) | fail) [facts, l2, l3, l4, show ¬ 7 < k by omega]
    refine w_cut (fun s => s.env 2 = .pointer (some ⟨b2, 0, none⟩) ∧ s.env 3 = .pointer (some ⟨b3, 0, none⟩) ∧ s.env 4 = .pointer (some ⟨b4, 0, none⟩) ∧ s.env 33 = .bool (!decide (0 ∈ fromL k)) ∧ Heap.le H s.heap ∧
      s.heap b2 = some (.row true 0 [.int .u16 tte, .int .u32 tst, .string (mkS tpan), .int .i64 tam, .int .i64 0, .int .i64 m0, .int .i64 m1, .int .i64 m2, .int .i64 m3, .int .i64 gi, .int .i64 ow] 0) ∧ s.heap b3 = some (.row true 0 [.int .i64 k, .int .u16 te, .int .u32 st, .string (mkS pan), .int .i64 am, .int .i64 n0, .int .i64 n1, .int .i64 n2, .int .i64 n3, .int .i64 x0, .int .i64 x1, .int .i64 x2, .int .i64 x3, .int .i64 x4, .int .i64 x5, .int .i64 x6, .int .i64 x7] 0) ∧ s.heap b4 = some (.row true 0 [.int .u16 0, .int .u32 0, .string (mkS []), .int .i64 0, .int .i64 0, .int .i64 0, .int .i64 0, .int .i64 0, .int .i64 0, .int .i64 0, .int .i64 0] 0)) ?_ ?_
    · refine w_plan (P := Tryz.prog) (by simp [facts]) (opsP [0,2] (.both (opsP [1,3,4,5,6,7] .done) (opsP [3] (.both (opsP [1,4,5,6,7] .done) (opsP [4,1,5,6,7] .done))))) ?_ ?_
      · decide +kernel
      simp (disch := first | omega | assumption | decide | (simp <;> omega) | fail) [facts, l2, l3, l4]
      try (repeat' apply And.intro)
      all_goals
        refine (from_c k _).mono ?_
        rintro v H5 ⟨hle5, a5, c5, rfl, hs5⟩
        have g2 := hle5 _ _ l2
        simp (disch := first | omega | assumption | decide | (simp <;> omega) | fail) [facts, g2]
        refine (in_c 0 a5 _ c5 (fromL k) _ hs5 (fromL_len k)).mono ?_
        rintro v H6 ⟨rfl, rfl⟩
        simp (disch := first | omega | assumption | decide | (simp <;> omega) | fail) [facts, g2]
        exact ⟨Heap.le_trans hle hle5, hle5 _ _ l3, hle5 _ _ l4⟩
    · rintro ⟨e, H5⟩ ⟨e2, e3, e4, e33, hle, l2, l3, l4⟩
      simp only at e2 e3 e4 e33 hle l2 l3 l4
      by_cases hin : 0 ∈ fromL k
      · have hk7 : k = 1 ∨ k = 2 ∨ k = 3 ∨ k = 4 ∨ k = 5 ∨ k = 6 ∨ k = 7 := by omega
        rcases hk7 with rfl | rfl | rfl | rfl | rfl | rfl | rfl
        · simp (disch := first | omega | assumption | decide | (simp <;> omega) | fail) [facts, e2, e3, e4, e33, l2, l3, l4, upd_ne, hin]
          refine (cB _).mono ?_
          rintro v H6 ⟨rfl, hle6⟩
          replace hle := Heap.le_trans hle hle6
          replace l4 := hle6 _ _ l4
          by_cases hp : pan = []
          · simp (disch := first | omega | assumption | decide | (simp <;> omega) | fail) [facts, e2, e3, e4, e33, l2, l3, l4, upd_ne, pairV, revT, zeroT, txnV, txnL, stepF, hin, hp]
            refine ⟨_, Heap.le_refl _, ?_⟩
            repeat' (first | exact hle | exact hb2 | exact hb3' | exact hb4' | apply le_updN)
          · by_cases ha : am = 0
            · simp (disch := first | omega | assumption | decide | (simp <;> omega) | fail) [facts, e2, e3, e4, e33, l2, l3, l4, upd_ne, pairV, revT, zeroT, txnV, txnL, stepF, hin, hp, ha]
              refine ⟨_, Heap.le_refl _, ?_⟩
              repeat' (first | exact hle | exact hb2 | exact hb3' | exact hb4' | apply le_updN)
            · simp (disch := first | omega | assumption | decide | (simp <;> omega) | fail) [facts, e2, e3, e4, e33, l2, l3, l4, upd_ne, pairV, revT, zeroT, txnV, txnL, stepF, hin, hp, ha]
              refine ⟨_, Heap.le_refl _, ?_⟩
              repeat' (first | exact hle | exact hb2 | exact hb3' | exact hb4' | apply le_updN)
        · simp (disch := first | omega | assumption | decide | (simp <;> omega) | fail) [facts, e2, e3, e4, e33, l2, l3, l4, upd_ne, pairV, revT, zeroT, txnV, txnL, stepF, hin]
          refine ⟨_, Heap.le_refl _, ?_⟩
          repeat' (first | exact hle | exact hb2 | exact hb3' | exact hb4' | apply le_updN)
        · simp (disch := first | omega | assumption | decide | (simp <;> omega) | fail) [facts, e2, e3, e4, e33, l2, l3, l4, upd_ne, pairV, revT, zeroT, txnV, txnL, stepF, hin]
          refine ⟨_, Heap.le_refl _, ?_⟩
          repeat' (first | exact hle | exact hb2 | exact hb3' | exact hb4' | apply le_updN)
        · simp (disch := first | omega | assumption | decide | (simp <;> omega) | fail) [facts, e2, e3, e4, e33, l2, l3, l4, upd_ne, hin]
          refine (cV0 0 _ (by omega)).mono ?_
          rintro v H6 ⟨rfl, hle6⟩
          replace hle := Heap.le_trans hle hle6
          replace l2 := hle6 _ _ l2
          replace l4 := hle6 _ _ l4
          simp (disch := first | omega | assumption | decide | (simp <;> omega) | fail) [facts, e2, e3, e4, e33, l2, l3, l4, upd_ne, pairV, revT, zeroT, txnV, txnL, stepF, hin]
          refine ⟨_, Heap.le_refl _, ?_⟩
          repeat' (first | exact hle | exact hb2 | exact hb3' | exact hb4' | apply le_updN)
        · simp (disch := first | omega | assumption | decide | (simp <;> omega) | fail) [facts, e2, e3, e4, e33, l2, l3, l4, upd_ne, hin]
          refine w_plan (P := Tryz.prog) (by simp [facts]) (opsP [0,2] (.both (opsP [1,3,4,5] .done) (opsP [3,1,4,5] .done))) ?_ ?_
          · decide +kernel
          simp (disch := first | omega | assumption | decide | (simp <;> omega) | fail) [facts, e2, e3, e4, e33, l2, l3, l4, upd_ne, pairV, revT, zeroT, txnV, txnL, stepF, hin]
          try (repeat' apply And.intro)
          all_goals
            refine ⟨_, Heap.le_refl _, ?_⟩
            repeat' (first | exact hle | exact hb2 | exact hb3' | exact hb4' | apply le_updN)
        · by_cases hlt : tam < am
          · simp (disch := first | omega | assumption | decide | (simp <;> omega) | fail) [facts, e2, e3, e4, e33, l2, l3, l4, upd_ne, pairV, revT, zeroT, txnV, txnL, stepF, hin, hlt]
            refine ⟨_, Heap.le_refl _, ?_⟩
            repeat' (first | exact hle | exact hb2 | exact hb3' | exact hb4' | apply le_updN)
          · simp (disch := first | omega | assumption | decide | (simp <;> omega) | fail) [facts, e2, e3, e4, e33, l2, l3, l4, upd_ne, hin, hlt]
            refine (cV0 am _ (by omega)).mono ?_
            rintro v H6 ⟨rfl, hle6⟩
            replace hle := Heap.le_trans hle hle6
            replace l2 := hle6 _ _ l2
            replace l4 := hle6 _ _ l4
            by_cases hz : tam - am = 0
            · simp (disch := first | omega | assumption | decide | (simp <;> omega) | fail) [facts, e2, e3, e4, e33, l2, l3, l4, upd_ne, pairV, revT, zeroT, txnV, txnL, stepF, hin, hlt, hz]
              refine ⟨_, Heap.le_refl _, ?_⟩
              repeat' (first | exact hle | exact hb2 | exact hb3' | exact hb4' | apply le_updN)
            · simp (disch := first | omega | assumption | decide | (simp <;> omega) | fail) [facts, e2, e3, e4, e33, l2, l3, l4, upd_ne, pairV, revT, zeroT, txnV, txnL, stepF, hin, hlt, hz]
              refine ⟨_, Heap.le_refl _, ?_⟩
              repeat' (first | exact hle | exact hb2 | exact hb3' | exact hb4' | apply le_updN)
        · simp (disch := first | omega | assumption | decide | (simp <;> omega) | fail) [facts, e2, e3, e4, e33, l2, l3, l4, upd_ne, pairV, revT, zeroT, txnV, txnL, stepF, hin]
          refine ⟨_, Heap.le_refl _, ?_⟩
          repeat' (first | exact hle | exact hb2 | exact hb3' | exact hb4' | apply le_updN)
      · simp (disch := first | omega | assumption | decide | (simp <;> omega) | fail) [facts, e2, e3, e4, e33, l2, l3, l4, upd_ne, pairV, revT, zeroT, txnV, txnL, stepF, hin]
        refine ⟨_, Heap.le_refl _, ?_⟩
        repeat' (first | exact hle | exact hb2 | exact hb3' | exact hb4' | apply le_updN)
  · obtain ⟨rfl, rfl⟩ : te = tte ∧ st = tst := by
      rcases hkk with h | h
      · exact absurd h s0
      · exact h
    simp (disch := first | omega | assumption | decide | (simp <;> omega) | fail) [facts, l2, l3, l4, s0, show ¬ 7 < k by omega]
    refine w_cut (fun s => s.env 2 = .pointer (some ⟨b2, 0, none⟩) ∧ s.env 3 = .pointer (some ⟨b3, 0, none⟩) ∧ s.env 4 = .pointer (some ⟨b4, 0, none⟩) ∧ s.env 33 = .bool (!decide (sta ∈ fromL k)) ∧ Heap.le H s.heap ∧
      s.heap b2 = some (.row true 0 [.int .u16 te, .int .u32 st, .string (mkS tpan), .int .i64 tam, .int .i64 sta, .int .i64 m0, .int .i64 m1, .int .i64 m2, .int .i64 m3, .int .i64 gi, .int .i64 ow] 0) ∧ s.heap b3 = some (.row true 0 [.int .i64 k, .int .u16 te, .int .u32 st, .string (mkS pan), .int .i64 am, .int .i64 n0, .int .i64 n1, .int .i64 n2, .int .i64 n3, .int .i64 x0, .int .i64 x1, .int .i64 x2, .int .i64 x3, .int .i64 x4, .int .i64 x5, .int .i64 x6, .int .i64 x7] 0) ∧ s.heap b4 = some (.row true 0 [.int .u16 0, .int .u32 0, .string (mkS []), .int .i64 0, .int .i64 0, .int .i64 0, .int .i64 0, .int .i64 0, .int .i64 0, .int .i64 0, .int .i64 0] 0)) ?_ ?_
    · refine w_plan (P := Tryz.prog) (by simp [facts]) (opsP [0,2] (.both (opsP [1,3,4,5,6,7] .done) (opsP [3] (.both (opsP [1,4,5,6,7] .done) (opsP [4,1,5,6,7] .done))))) ?_ ?_
      · decide +kernel
      simp (disch := first | omega | assumption | decide | (simp <;> omega) | fail) [facts, l2, l3, l4]
      try (repeat' apply And.intro)
      all_goals
        refine (from_c k _).mono ?_
        rintro v H5 ⟨hle5, a5, c5, rfl, hs5⟩
        have g2 := hle5 _ _ l2
        simp (disch := first | omega | assumption | decide | (simp <;> omega) | fail) [facts, g2]
        refine (in_c sta a5 _ c5 (fromL k) _ hs5 (fromL_len k)).mono ?_
        rintro v H6 ⟨rfl, rfl⟩
        simp (disch := first | omega | assumption | decide | (simp <;> omega) | fail) [facts, g2]
        exact ⟨Heap.le_trans hle hle5, hle5 _ _ l3, hle5 _ _ l4⟩
    · rintro ⟨e, H5⟩ ⟨e2, e3, e4, e33, hle, l2, l3, l4⟩
      simp only at e2 e3 e4 e33 hle l2 l3 l4
      by_cases hin : sta ∈ fromL k
      · have hk7 : k = 1 ∨ k = 2 ∨ k = 3 ∨ k = 4 ∨ k = 5 ∨ k = 6 ∨ k = 7 := by omega
        rcases hk7 with rfl | rfl | rfl | rfl | rfl | rfl | rfl
        · simp (disch := first | omega | assumption | decide | (simp <;> omega) | fail) [facts, e2, e3, e4, e33, l2, l3, l4, upd_ne, hin]
          refine (cB _).mono ?_
          rintro v H6 ⟨rfl, hle6⟩
          replace hle := Heap.le_trans hle hle6
          replace l4 := hle6 _ _ l4
          by_cases hp : pan = []
          · simp (disch := first | omega | assumption | decide | (simp <;> omega) | fail) [facts, e2, e3, e4, e33, l2, l3, l4, upd_ne, pairV, revT, zeroT, txnV, txnL, stepF, hin, hp]
            refine ⟨_, Heap.le_refl _, ?_⟩
            repeat' (first | exact hle | exact hb2 | exact hb3' | exact hb4' | apply le_updN)
          · by_cases ha : am = 0
            · simp (disch := first | omega | assumption | decide | (simp <;> omega) | fail) [facts, e2, e3, e4, e33, l2, l3, l4, upd_ne, pairV, revT, zeroT, txnV, txnL, stepF, hin, hp, ha]
              refine ⟨_, Heap.le_refl _, ?_⟩
              repeat' (first | exact hle | exact hb2 | exact hb3' | exact hb4' | apply le_updN)
            · simp (disch := first | omega | assumption | decide | (simp <;> omega) | fail) [facts, e2, e3, e4, e33, l2, l3, l4, upd_ne, pairV, revT, zeroT, txnV, txnL, stepF, hin, hp, ha]
              refine ⟨_, Heap.le_refl _, ?_⟩
              repeat' (first | exact hle | exact hb2 | exact hb3' | exact hb4' | apply le_updN)
        · simp (disch := first | omega | assumption | decide | (simp <;> omega) | fail) [facts, e2, e3, e4, e33, l2, l3, l4, upd_ne, pairV, revT, zeroT, txnV, txnL, stepF, hin]
          refine ⟨_, Heap.le_refl _, ?_⟩
          repeat' (first | exact hle | exact hb2 | exact hb3' | exact hb4' | apply le_updN)
        · simp (disch := first | omega | assumption | decide | (simp <;> omega) | fail) [facts, e2, e3, e4, e33, l2, l3, l4, upd_ne, pairV, revT, zeroT, txnV, txnL, stepF, hin]
          refine ⟨_, Heap.le_refl _, ?_⟩
          repeat' (first | exact hle | exact hb2 | exact hb3' | exact hb4' | apply le_updN)
        · simp (disch := first | omega | assumption | decide | (simp <;> omega) | fail) [facts, e2, e3, e4, e33, l2, l3, l4, upd_ne, hin]
          refine (cV0 0 _ (by omega)).mono ?_
          rintro v H6 ⟨rfl, hle6⟩
          replace hle := Heap.le_trans hle hle6
          replace l2 := hle6 _ _ l2
          replace l4 := hle6 _ _ l4
          simp (disch := first | omega | assumption | decide | (simp <;> omega) | fail) [facts, e2, e3, e4, e33, l2, l3, l4, upd_ne, pairV, revT, zeroT, txnV, txnL, stepF, hin]
          refine ⟨_, Heap.le_refl _, ?_⟩
          repeat' (first | exact hle | exact hb2 | exact hb3' | exact hb4' | apply le_updN)
        · simp (disch := first | omega | assumption | decide | (simp <;> omega) | fail) [facts, e2, e3, e4, e33, l2, l3, l4, upd_ne, hin]
          refine w_plan (P := Tryz.prog) (by simp [facts]) (opsP [0,2] (.both (opsP [1,3,4,5] .done) (opsP [3,1,4,5] .done))) ?_ ?_
          · decide +kernel
          simp (disch := first | omega | assumption | decide | (simp <;> omega) | fail) [facts, e2, e3, e4, e33, l2, l3, l4, upd_ne, pairV, revT, zeroT, txnV, txnL, stepF, hin]
          try (repeat' apply And.intro)
          all_goals
            refine ⟨_, Heap.le_refl _, ?_⟩
            repeat' (first | exact hle | exact hb2 | exact hb3' | exact hb4' | apply le_updN)
        · by_cases hlt : tam < am
          · simp (disch := first | omega | assumption | decide | (simp <;> omega) | fail) [facts, e2, e3, e4, e33, l2, l3, l4, upd_ne, pairV, revT, zeroT, txnV, txnL, stepF, hin, hlt]
            refine ⟨_, Heap.le_refl _, ?_⟩
            repeat' (first | exact hle | exact hb2 | exact hb3' | exact hb4' | apply le_updN)
          · simp (disch := first | omega | assumption | decide | (simp <;> omega) | fail) [facts, e2, e3, e4, e33, l2, l3, l4, upd_ne, hin, hlt]
            refine (cV0 am _ (by omega)).mono ?_
            rintro v H6 ⟨rfl, hle6⟩
            replace hle := Heap.le_trans hle hle6
            replace l2 := hle6 _ _ l2
            replace l4 := hle6 _ _ l4
            by_cases hz : tam - am = 0
            · simp (disch := first | omega | assumption | decide | (simp <;> omega) | fail) [facts, e2, e3, e4, e33, l2, l3, l4, upd_ne, pairV, revT, zeroT, txnV, txnL, stepF, hin, hlt, hz]
              refine ⟨_, Heap.le_refl _, ?_⟩
              repeat' (first | exact hle | exact hb2 | exact hb3' | exact hb4' | apply le_updN)
            · simp (disch := first | omega | assumption | decide | (simp <;> omega) | fail) [facts, e2, e3, e4, e33, l2, l3, l4, upd_ne, pairV, revT, zeroT, txnV, txnL, stepF, hin, hlt, hz]
              refine ⟨_, Heap.le_refl _, ?_⟩
              repeat' (first | exact hle | exact hb2 | exact hb3' | exact hb4' | apply le_updN)
        · simp (disch := first | omega | assumption | decide | (simp <;> omega) | fail) [facts, e2, e3, e4, e33, l2, l3, l4, upd_ne, pairV, revT, zeroT, txnV, txnL, stepF, hin]
          refine ⟨_, Heap.le_refl _, ?_⟩
          repeat' (first | exact hle | exact hb2 | exact hb3' | exact hb4' | apply le_updN)
      · simp (disch := first | omega | assumption | decide | (simp <;> omega) | fail) [facts, e2, e3, e4, e33, l2, l3, l4, upd_ne, pairV, revT, zeroT, txnV, txnL, stepF, hin]
        refine ⟨_, Heap.le_refl _, ?_⟩
        repeat' (first | exact hle | exact hb2 | exact hb3' | exact hb4' | apply le_updN)
end Go.Proofs.YtfpighmafofoeaaGreatDoor.GL.St

namespace Go.Proofs.YtfpighmafofoeaaGreatDoor.GL.St
open Go Go.RowKit Go.Proofs.YtfpighmafofoeaaGreatDoor.GL
set_option maxRecDepth 10000
set_option pp.deepTerms.threshold 8
set_option pp.maxSteps 3000
set_option linter.unusedSimpArgs false
set_option linter.unusedVariables false

theorem allD_of {l : List UInt8} (h : ∀ c ∈ l, digitB c) : allD (mkS l) = true := by
  unfold allD
  rw [mkS_list, List.all_eq_true]
  intro c hc
  have := h c hc
  unfold digitB at this
  simp [isD, this]
theorem panR_c (l : List UInt8) (H : Heap) (h : ∀ c ∈ l, digitB c) (h1 : 1 ≤ l.length) (h2 : l.length ≤ 19) : ECalls Tryz.prog 46 #[.string (mkS l)] H fun v H' => v = .bool true ∧ H' = H := by
  refine ecalls_of_ewp (args := [_]) Tryz.func46 rfl rfl rfl (by simp [Tryz.ntmps46]) (by kernel_rfl) ?_
  have hd := digitsR_c (mkS l) H (by rw [mkS_sz]; omega)
  rw [allD_of h] at hd
  have e1 : (1 : Int) ≤ l.length := by omega
  have e2 : (l.length : Int) ≤ 19 := by omega
  simp (disch := first | omega | assumption | decide | (simp <;> omega) | fail) [facts, e1, e2]
  refine hd.mono ?_
  rintro v H' ⟨rfl, rfl⟩
  simp (disch := first | omega | assumption | decide | (simp <;> omega) | fail) [facts, ]
theorem openR_c (t : Txn) (H : Heap) : ECalls Tryz.prog 37 #[txnV t] H fun r H' => r = .bool (decide (1 ≤ t.state ∧ t.state ≤ 4)) ∧ Heap.le H H' := by
  refine ecalls_of_ewp (args := [_]) Tryz.func37 rfl rfl rfl (by simp [Tryz.ntmps37]) (by kernel_rfl) ?_
  obtain ⟨te, st, pan, am, sta, n0, n1, n2, n3, gi, ow⟩ := t
  simp only [txnV, txnL]
  simp (disch := first | omega | assumption | decide | (simp <;> omega) | fail) [facts, ]
  refine fresh_intro fun b1 hb1 => ?_
  by_cases h1 : 1 ≤ sta
  · by_cases h4 : sta ≤ 4
    · simp (disch := first | omega | assumption | decide | (simp <;> omega) | fail) [facts, h1, h4]
      exact ⟨_, Heap.le_refl _, le_upd _ hb1⟩
    · simp (disch := first | omega | assumption | decide | (simp <;> omega) | fail) [facts, h1, h4]
      exact ⟨_, Heap.le_refl _, le_upd _ hb1⟩
  · simp (disch := first | omega | assumption | decide | (simp <;> omega) | fail) [facts, h1]
    exact ⟨_, Heap.le_refl _, le_upd _ hb1⟩
theorem less_c (x y : KZ) (H : Heap) : ECalls Tryz.prog 54 #[encK x, encK y] H fun v H' => v = .bool (decide (KZ.lt x y)) ∧ Heap.le H H' := by
  refine ecalls_of_ewp (args := [_, _]) Tryz.func54 rfl rfl rfl (by simp [Tryz.ntmps54]) (by kernel_rfl) ?_
  obtain ⟨a, b⟩ := x
  obtain ⟨c, d⟩ := y
  simp only [encK, KZ.lt]
  simp (disch := first | omega | assumption | decide | (simp <;> omega) | fail) [facts, ]
  refine fresh_intro fun b2 hb2 => ?_
  simp (disch := first | omega | assumption | decide | (simp <;> omega) | fail) [facts, ]
  refine fresh_intro fun b3 hb3 => ?_
  have q : b2 ≠ b3 := ne_of_fresh hb3 (upd_same _ _ _)
  have hle := Heap.le_trans (le_upd _ hb2) (le_upd (.row true 0 [.int .u16 c, .int .u32 d] 0) hb3)
  by_cases h1 : a < c
  · simp (disch := first | omega | assumption | decide | (simp <;> omega) | fail) [facts, h1, upd_ne]
    exact ⟨_, Heap.le_refl _, hle⟩
  by_cases h2 : a = c
  · subst h2
    by_cases h3 : b < d
    · simp (disch := first | omega | assumption | decide | (simp <;> omega) | fail) [facts, h3, upd_ne]
      exact ⟨_, Heap.le_refl _, hle⟩
    · simp (disch := first | omega | assumption | decide | (simp <;> omega) | fail) [facts, h3, upd_ne]
      exact ⟨_, Heap.le_refl _, hle⟩
  · simp (disch := first | omega | assumption | decide | (simp <;> omega) | fail) [facts, h1, h2, upd_ne]
    exact ⟨_, Heap.le_refl _, hle⟩
theorem nz_few {a b c d : Int} (h : fewIn a ∧ fewIn b ∧ fewIn c ∧ fewIn d) : (NZ.mk a b c d).ok = true := by
  unfold fewIn at h
  exact nz_ok h.1 h.2.1 h.2.2.1 h.2.2.2
theorem rightT17_c (t : Txn) (H : Heap) (h : RightT t) : ECalls Tryz.prog 55 #[txnV t] H fun v H' => v = .bool true ∧ Heap.le H H' := by
  refine ecalls_of_ewp (args := [_]) Tryz.func55 rfl rfl rfl (by simp [Tryz.ntmps55]) (by kernel_rfl) ?_
  rcases h with rfl | h
  · simp only [txnV, txnL, zeroT]
    simp (disch := first | omega | assumption | decide | (simp <;> omega) | fail) [facts, ]
    refine fresh_intro fun b1 hb1 => ?_
    simp (disch := first | omega | assumption | decide | (simp <;> omega) | fail) [facts, ]
    exact ⟨_, Heap.le_refl _, le_upd _ hb1⟩
  obtain ⟨te, st, pan, am, sta, n0, n1, n2, n3, gi, ow⟩ := t
  obtain ⟨p1, p2, p3, a1, a2, few, hst⟩ := h
  simp only at p1 p2 p3 a1 a2 few hst
  have hpan := fun H => panR_c pan H p3 p1 p2
  have hfew := fun H => few_c ⟨n0, n1, n2, n3⟩ H
  simp only [nz_few few] at hfew
  simp only [txnV, txnL]
  have s0 : ¬ sta = 0 := by omega
  have s1 : ¬ sta < 1 := by omega
  have s6 : ¬ 6 < sta := by omega
  simp (disch := first | omega | assumption | decide | (simp <;> omega) | fail) [facts, ]
  refine fresh_intro fun b1 hb1 => ?_
  simp (disch := first | omega | assumption | decide | (simp <;> omega) | fail) [facts, s0, s1, s6]
  refine (hpan _).mono ?_
  rintro v H2 ⟨rfl, rfl⟩
  simp (disch := first | omega | assumption | decide | (simp <;> omega) | fail) [facts, show ¬ am < 1 by omega, show ¬ 1000000 < am by omega]
  refine (hfew _).mono ?_
  rintro v H3 ⟨rfl, hle3⟩
  have hb3 := hle3 _ _ (upd_same _ _ _)
  have hleH := Heap.le_trans (le_upd _ hb1) hle3
  rcases hst with ⟨hs, hno, hg, ho⟩ | ⟨rfl, hg, ho⟩ | ⟨rfl, how⟩ | ⟨rfl, how⟩
  · obtain ⟨z0, z1, z2, z3⟩ := hno
    simp only at z0 z1 z2 z3 hg ho
    subst z0 z1 z2 z3 hg ho
    rcases hs with rfl | rfl | rfl
    all_goals
      simp (disch := first | omega | assumption | decide | (simp <;> omega) | fail) [facts, hb3]
      exact ⟨_, Heap.le_refl _, hleH⟩
  · subst hg ho
    simp (disch := first | omega | assumption | decide | (simp <;> omega) | fail) [facts, hb3]
    exact ⟨_, Heap.le_refl _, hleH⟩
  · obtain ⟨w1, w2, w3, w4, w5⟩ := how
    simp only at w1 w2 w3 w4 w5
    simp (disch := first | omega | assumption | decide | (simp <;> omega) | fail) [facts, hb3, w1, w2, w3, w4, w5]
    exact ⟨_, Heap.le_refl _, hleH⟩
  · rcases how with ⟨ho, hg⟩ | how
    · subst ho hg
      simp (disch := first | omega | assumption | decide | (simp <;> omega) | fail) [facts, hb3, show (0 : Int) ≤ gi by omega]
      exact ⟨_, Heap.le_refl _, hleH⟩
    · obtain ⟨w1, w2, w3, w4, w5⟩ := how
      simp only at w1 w2 w3 w4 w5
      simp (disch := first | omega | assumption | decide | (simp <;> omega) | fail) [facts, hb3, w1, w2, w3, w4, w5]
      exact ⟨_, Heap.le_refl _, hleH⟩
theorem rightRR_c (r : Rec) (H : Heap) (h : RightR r) : ECalls Tryz.prog 28 #[recV r] H fun v H' => v = .bool true ∧ Heap.le H H' := by
  have := GL.rightR_c r.rz H (by have := h.len; show (mkS r.pan).size ≤ _; rw [mkS_sz]; omega)
  rw [h.right] at this
  exact this
set_option maxHeartbeats 8000000 in
theorem step17_c (t : Txn) (r : Rec) (H : Heap) (ht : RightT t) (hr : RightR r) (hk : t = zeroT ∨ (r.term = t.term ∧ r.stan = t.stan)) :
    ECalls Tryz.prog 32 #[txnV t, recV r] H fun v H' => v = pairV (stepF t r) ∧ Heap.le H H' := by
  refine ecalls_of_ewp (args := [_, _]) Tryz.func32 rfl rfl rfl (by simp [Tryz.ntmps32]) (by kernel_rfl) ?_
  have cR := fun H => rightRR_c r H hr
  have cT := fun H => rightT17_c t H ht
  have hkk : t.state = 0 ∨ (r.term = t.term ∧ r.stan = t.stan) := by
    rcases hk with rfl | h
    · exact .inl rfl
    · exact .inr h
  have hsr : 0 ≤ t.state ∧ t.state ≤ 6 := by
    rcases ht with rfl | h
    · exact ⟨by decide, by decide⟩
    · have := h.state; omega
  have ham : 0 ≤ t.amount ∧ t.amount ≤ 1000000 := by
    rcases ht with rfl | h
    · exact ⟨by decide, by decide⟩
    · exact ⟨by have := h.am1; omega, h.am2⟩
  have hg0 : t.state = 1 ∨ t.state = 2 → t.given = 0 := by
    intro hst
    rcases ht with rfl | h
    · rfl
    · rcases h.state with ⟨_, _, h3, _⟩ | ⟨h3, _⟩ | ⟨h3, _⟩ | ⟨h3, _⟩
      · exact h3
      all_goals omega
  obtain ⟨a1, a2⟩ := hr.am
  obtain ⟨⟨k1, k7⟩, _⟩ := hr
  clear ht hk
  obtain ⟨tte, tst, tpan, tam, sta, m0, m1, m2, m3, gi, ow⟩ := t
  obtain ⟨k, te, st, pan, am, n0, n1, n2, n3, x0, x1, x2, x3, x4, x5, x6, x7⟩ := r
  simp only at k1 k7 a1 a2 hkk ham hsr hg0
  simp only [txnV, txnL, recV] at cR cT ⊢
  simp (disch := first | omega | assumption | decide | (simp <;> omega) | fail) [facts, ]
  refine fresh_intro fun b2 hb2 => ?_
  simp (disch := first | omega | assumption | decide | (simp <;> omega) | fail) [facts, ]
  refine fresh_intro fun b3 hb3 => ?_
  simp (disch := first | omega | assumption | decide | (simp <;> omega) | fail) [facts, ]
  refine fresh_intro fun b4 hb4 => ?_
  have q23 : b2 ≠ b3 := ne_of_fresh hb3 (upd_same _ _ _)
  have q34 : b3 ≠ b4 := ne_of_fresh hb4 (upd_same _ _ _)
  have q24 : b2 ≠ b4 := ne_of_fresh hb4 (by rw [upd_ne _ _ q23]; exact upd_same _ _ _)
  have hb3' : H b3 = none := le_of_none (le_upd _ hb2) hb3
  have hb4' : H b4 = none := le_of_none (le_upd _ hb2) (le_of_none (le_upd _ hb3) hb4)
  obtain ⟨tr, htr⟩ : ∃ tr : List Value, tr = [.int .u16 tte, .int .u32 tst, .string (mkS tpan), .int .i64 tam, .int .i64 sta, .int .i64 m0, .int .i64 m1, .int .i64 m2, .int .i64 m3, .int .i64 gi, .int .i64 ow] := ⟨_, rfl⟩
  obtain ⟨rr, hrr⟩ : ∃ rr : List Value, rr = [.int .i64 k, .int .u16 te, .int .u32 st, .string (mkS pan), .int .i64 am, .int .i64 n0, .int .i64 n1, .int .i64 n2, .int .i64 n3, .int .i64 x0, .int .i64 x1, .int .i64 x2, .int .i64 x3, .int .i64 x4, .int .i64 x5, .int .i64 x6, .int .i64 x7] := ⟨_, rfl⟩
  obtain ⟨zr, hzr⟩ : ∃ zr : List Value, zr = [.int .u16 0, .int .u32 0, .string (mkS []), .int .i64 0, .int .i64 0, .int .i64 0, .int .i64 0, .int .i64 0, .int .i64 0, .int .i64 0, .int .i64 0] := ⟨_, rfl⟩
  rw [← htr, ← hrr] at hb4
  rw [← htr] at hb3
  rw [← htr, ← hrr, ← hzr]
  have l2 : upd (upd (upd H b2 (.row true 0 tr 0)) b3 (.row true 0 rr 0)) b4 (.row true 0 zr 0) b2 = some (.row true 0 tr 0) := by rw [upd_ne _ _ q24, upd_ne _ _ q23, upd_same]
  have l3 : upd (upd (upd H b2 (.row true 0 tr 0)) b3 (.row true 0 rr 0)) b4 (.row true 0 zr 0) b3 = some (.row true 0 rr 0) := by rw [upd_ne _ _ q34, upd_same]
  have l4 : upd (upd (upd H b2 (.row true 0 tr 0)) b3 (.row true 0 rr 0)) b4 (.row true 0 zr 0) b4 = some (.row true 0 zr 0) := upd_same _ _ _
  have hle0 : Heap.le H (upd (upd (upd H b2 (.row true 0 tr 0)) b3 (.row true 0 rr 0)) b4 (.row true 0 zr 0)) := le_updN _ (le_updN _ (le_upd _ hb2) hb3') hb4'
  generalize upd (upd (upd H b2 (.row true 0 tr 0)) b3 (.row true 0 rr 0)) b4 (.row true 0 zr 0) = H0 at l2 l3 l4 hle0 ⊢
  subst htr hrr hzr
  simp (disch := first | omega | assumption | decide | (simp <;> omega) | fail) [facts, l2, l3, l4]
  refine (cR _).mono ?_
  rintro v H1 ⟨rfl, hle1⟩
  replace l2 := hle1 _ _ l2
  replace l3 := hle1 _ _ l3
  replace l4 := hle1 _ _ l4
  simp (disch := first | omega | assumption | decide | (simp <;> omega) | fail) [facts, l2, l3, l4]
  refine (cT _).mono ?_
  rintro v H2 ⟨rfl, hle2⟩
  replace l2 := hle2 _ _ l2
  replace l3 := hle2 _ _ l3
  replace l4 := hle2 _ _ l4
  have hle := Heap.le_trans hle0 (Heap.le_trans hle1 hle2)
  clear hle0 hle1 hle2 cR cT
  have hk7 : ¬ 7 < k := by omega
  by_cases s0 : sta = 0
  · subst s0
    simp (disch := first | omega | assumption | decide | (simp <;> omega) | fail) [facts, l2, l3, l4, hk7]
    refine fresh_intro fun b5 hb5 => ?_
    have l5 := upd_same H2 b5 (.row true 0 [.int .i64 0, .int .i64 1, .int .i64 1, .int .i64 1, .int .i64 2, .int .i64 3, .int .i64 4] 0)
    replace l2 := upd_other (o := .row true 0 [.int .i64 0, .int .i64 1, .int .i64 1, .int .i64 1, .int .i64 2, .int .i64 3, .int .i64 4] 0) hb5 l2
    replace l3 := upd_other (o := .row true 0 [.int .i64 0, .int .i64 1, .int .i64 1, .int .i64 1, .int .i64 2, .int .i64 3, .int .i64 4] 0) hb5 l3
    replace l4 := upd_other (o := .row true 0 [.int .i64 0, .int .i64 1, .int .i64 1, .int .i64 1, .int .i64 2, .int .i64 3, .int .i64 4] 0) hb5 l4
    replace hle := Heap.le_trans hle (le_upd (.row true 0 [.int .i64 0, .int .i64 1, .int .i64 1, .int .i64 1, .int .i64 2, .int .i64 3, .int .i64 4] 0) hb5)
    generalize upd H2 b5 (.row true 0 [.int .i64 0, .int .i64 1, .int .i64 1, .int .i64 1, .int .i64 2, .int .i64 3, .int .i64 4] 0) = H3 at *
    have hk8 : k = 1 ∨ k = 2 ∨ k = 3 ∨ k = 4 ∨ k = 5 ∨ k = 6 ∨ k = 7 := by omega
    rcases hk8 with rfl | rfl | rfl | rfl | rfl | rfl | rfl
    · by_cases hp : pan = []
      · simp (disch := first | omega | assumption | decide | (simp <;> omega) | fail) [facts, l2, l3, l4, l5, upd_ne, pairV, revT, zeroT, txnV, txnL, stepF, fromL, hp]
        refine ⟨_, Heap.le_refl _, ?_⟩
        repeat' (first | exact hle | exact hb2 | exact hb3' | exact hb4' | apply le_updN)
      by_cases ha : am = 0
      · simp (disch := first | omega | assumption | decide | (simp <;> omega) | fail) [facts, l2, l3, l4, l5, upd_ne, pairV, revT, zeroT, txnV, txnL, stepF, fromL, hp, ha]
        refine ⟨_, Heap.le_refl _, ?_⟩
        repeat' (first | exact hle | exact hb2 | exact hb3' | exact hb4' | apply le_updN)
      simp (disch := first | omega | assumption | decide | (simp <;> omega) | fail) [facts, l2, l3, l4, l5, upd_ne, pairV, revT, zeroT, txnV, txnL, stepF, fromL, hp, ha]
      refine ⟨_, Heap.le_refl _, ?_⟩
      repeat' (first | exact hle | exact hb2 | exact hb3' | exact hb4' | apply le_updN)
    · simp (disch := first | omega | assumption | decide | (simp <;> omega) | fail) [facts, l2, l3, l4, l5, upd_ne, pairV, revT, zeroT, txnV, txnL, stepF, fromL]
      refine ⟨_, Heap.le_refl _, ?_⟩
      repeat' (first | exact hle | exact hb2 | exact hb3' | exact hb4' | apply le_updN)
    · simp (disch := first | omega | assumption | decide | (simp <;> omega) | fail) [facts, l2, l3, l4, l5, upd_ne, pairV, revT, zeroT, txnV, txnL, stepF, fromL]
      refine ⟨_, Heap.le_refl _, ?_⟩
      repeat' (first | exact hle | exact hb2 | exact hb3' | exact hb4' | apply le_updN)
    · simp (disch := first | omega | assumption | decide | (simp <;> omega) | fail) [facts, l2, l3, l4, l5, upd_ne, pairV, revT, zeroT, txnV, txnL, stepF, fromL]
      refine ⟨_, Heap.le_refl _, ?_⟩
      repeat' (first | exact hle | exact hb2 | exact hb3' | exact hb4' | apply le_updN)
    · simp (disch := first | omega | assumption | decide | (simp <;> omega) | fail) [facts, l2, l3, l4, l5, upd_ne, pairV, revT, zeroT, txnV, txnL, stepF, fromL]
      refine ⟨_, Heap.le_refl _, ?_⟩
      repeat' (first | exact hle | exact hb2 | exact hb3' | exact hb4' | apply le_updN)
    · simp (disch := first | omega | assumption | decide | (simp <;> omega) | fail) [facts, l2, l3, l4, l5, upd_ne, pairV, revT, zeroT, txnV, txnL, stepF, fromL]
      refine ⟨_, Heap.le_refl _, ?_⟩
      repeat' (first | exact hle | exact hb2 | exact hb3' | exact hb4' | apply le_updN)
    · simp (disch := first | omega | assumption | decide | (simp <;> omega) | fail) [facts, l2, l3, l4, l5, upd_ne, pairV, revT, zeroT, txnV, txnL, stepF, fromL]
      refine ⟨_, Heap.le_refl _, ?_⟩
      repeat' (first | exact hle | exact hb2 | exact hb3' | exact hb4' | apply le_updN)
  · obtain ⟨rfl, rfl⟩ : te = tte ∧ st = tst := by
      rcases hkk with h | h
      · exact absurd h s0
      · exact h
    simp (disch := first | omega | assumption | decide | (simp <;> omega) | fail) [facts, l2, l3, l4, hk7, s0]
    refine fresh_intro fun b5 hb5 => ?_
    have l5 := upd_same H2 b5 (.row true 0 [.int .i64 0, .int .i64 1, .int .i64 1, .int .i64 1, .int .i64 2, .int .i64 3, .int .i64 4] 0)
    replace l2 := upd_other (o := .row true 0 [.int .i64 0, .int .i64 1, .int .i64 1, .int .i64 1, .int .i64 2, .int .i64 3, .int .i64 4] 0) hb5 l2
    replace l3 := upd_other (o := .row true 0 [.int .i64 0, .int .i64 1, .int .i64 1, .int .i64 1, .int .i64 2, .int .i64 3, .int .i64 4] 0) hb5 l3
    replace l4 := upd_other (o := .row true 0 [.int .i64 0, .int .i64 1, .int .i64 1, .int .i64 1, .int .i64 2, .int .i64 3, .int .i64 4] 0) hb5 l4
    replace hle := Heap.le_trans hle (le_upd (.row true 0 [.int .i64 0, .int .i64 1, .int .i64 1, .int .i64 1, .int .i64 2, .int .i64 3, .int .i64 4] 0) hb5)
    generalize upd H2 b5 (.row true 0 [.int .i64 0, .int .i64 1, .int .i64 1, .int .i64 1, .int .i64 2, .int .i64 3, .int .i64 4] 0) = H3 at *
    have hk8 : k = 1 ∨ k = 2 ∨ k = 3 ∨ k = 4 ∨ k = 5 ∨ k = 6 ∨ k = 7 := by omega
    rcases hk8 with rfl | rfl | rfl | rfl | rfl | rfl | rfl
    · simp (disch := first | omega | assumption | decide | (simp <;> omega) | fail) [facts, l2, l3, l4, l5, upd_ne, pairV, revT, zeroT, txnV, txnL, stepF, fromL, s0]
      refine ⟨_, Heap.le_refl _, ?_⟩
      repeat' (first | exact hle | exact hb2 | exact hb3' | exact hb4' | apply le_updN)
    · by_cases hs : sta = 1
      · subst hs
        simp (disch := first | omega | assumption | decide | (simp <;> omega) | fail) [facts, l2, l3, l4, l5, upd_ne, pairV, revT, zeroT, txnV, txnL, stepF, fromL]
        refine ⟨_, Heap.le_refl _, ?_⟩
        repeat' (first | exact hle | exact hb2 | exact hb3' | exact hb4' | apply le_updN)
      simp (disch := first | omega | assumption | decide | (simp <;> omega) | fail) [facts, l2, l3, l4, l5, upd_ne, pairV, revT, zeroT, txnV, txnL, stepF, fromL, hs]
      refine ⟨_, Heap.le_refl _, ?_⟩
      repeat' (first | exact hle | exact hb2 | exact hb3' | exact hb4' | apply le_updN)
    · by_cases hs : sta = 1
      · subst hs
        simp (disch := first | omega | assumption | decide | (simp <;> omega) | fail) [facts, l2, l3, l4, l5, upd_ne, pairV, revT, zeroT, txnV, txnL, stepF, fromL]
        refine ⟨_, Heap.le_refl _, ?_⟩
        repeat' (first | exact hle | exact hb2 | exact hb3' | exact hb4' | apply le_updN)
      simp (disch := first | omega | assumption | decide | (simp <;> omega) | fail) [facts, l2, l3, l4, l5, upd_ne, pairV, revT, zeroT, txnV, txnL, stepF, fromL, hs]
      refine ⟨_, Heap.le_refl _, ?_⟩
      repeat' (first | exact hle | exact hb2 | exact hb3' | exact hb4' | apply le_updN)
    · by_cases hs : sta = 1
      · subst hs
        obtain rfl : gi = 0 := hg0 (by decide)
        simp (disch := first | omega | assumption | decide | (simp <;> omega) | fail) [facts, l2, l3, l4, l5, upd_ne, pairV, revT, zeroT, txnV, txnL, stepF, fromL]
        refine ⟨_, Heap.le_refl _, ?_⟩
        repeat' (first | exact hle | exact hb2 | exact hb3' | exact hb4' | apply le_updN)
      by_cases hs2 : sta = 2
      · subst hs2
        obtain rfl : gi = 0 := hg0 (by decide)
        simp (disch := first | omega | assumption | decide | (simp <;> omega) | fail) [facts, l2, l3, l4, l5, upd_ne, pairV, revT, zeroT, txnV, txnL, stepF, fromL]
        refine ⟨_, Heap.le_refl _, ?_⟩
        repeat' (first | exact hle | exact hb2 | exact hb3' | exact hb4' | apply le_updN)
      simp (disch := first | omega | assumption | decide | (simp <;> omega) | fail) [facts, l2, l3, l4, l5, upd_ne, pairV, revT, zeroT, txnV, txnL, stepF, fromL, hs, hs2]
      refine ⟨_, Heap.le_refl _, ?_⟩
      repeat' (first | exact hle | exact hb2 | exact hb3' | exact hb4' | apply le_updN)
    · by_cases hs : sta = 2
      · subst hs
        simp (disch := first | omega | assumption | decide | (simp <;> omega) | fail) [facts, l2, l3, l4, l5, upd_ne]
        refine w_plan (P := Tryz.prog) (by simp [facts]) (opsP [0,2] (.both (opsP [1,3,4,5] .done) (opsP [3,1,4,5] .done))) ?_ ?_
        · decide +kernel
        simp (disch := first | omega | assumption | decide | (simp <;> omega) | fail) [facts, l2, l3, l4, l5, upd_ne, pairV, revT, zeroT, txnV, txnL, stepF, fromL]
        try (repeat' apply And.intro)
        all_goals
          refine ⟨_, Heap.le_refl _, ?_⟩
          repeat' (first | exact hle | exact hb2 | exact hb3' | exact hb4' | apply le_updN)
      simp (disch := first | omega | assumption | decide | (simp <;> omega) | fail) [facts, l2, l3, l4, l5, upd_ne, pairV, revT, zeroT, txnV, txnL, stepF, fromL, hs]
      refine ⟨_, Heap.le_refl _, ?_⟩
      repeat' (first | exact hle | exact hb2 | exact hb3' | exact hb4' | apply le_updN)
    · by_cases hs : sta = 3
      · subst hs
        by_cases hlt : tam < am
        · simp (disch := first | omega | assumption | decide | (simp <;> omega) | fail) [facts, l2, l3, l4, l5, upd_ne, pairV, revT, zeroT, txnV, txnL, stepF, fromL, hlt]
          refine ⟨_, Heap.le_refl _, ?_⟩
          repeat' (first | exact hle | exact hb2 | exact hb3' | exact hb4' | apply le_updN)
        simp (disch := first | omega | assumption | decide | (simp <;> omega) | fail) [facts, l2, l3, l4, l5, upd_ne, hlt]
        refine w_plan (P := Tryz.prog) (by simp [facts]) (opsP [0,2,3,4,7] (.both (opsP [1] (.both (opsP [5,6,8,9,10,11,12] .done) (opsP [8,9] (.both (opsP [5,6,10,11,12] .done) (opsP [10,5,6,11,12] .done))))) (.both (opsP [5,6] (.both (opsP [1,8,9,10,11,12] .done) (opsP [8,1,9,10,11,12] .done))) (opsP [8] (.both (opsP [1,9] (.both (opsP [5,6,10,11,12] .done) (opsP [10,5,6,11,12] .done))) (opsP [5,6,1,9,10,11,12] .done)))))) ?_ ?_
        · decide +kernel
        by_cases hz : tam - am = 0
        · simp (disch := first | omega | assumption | decide | (simp <;> omega) | fail) [facts, l2, l3, l4, l5, upd_ne, pairV, revT, zeroT, txnV, txnL, stepF, fromL, hlt, hz]
          try (repeat' apply And.intro)
          all_goals
            refine ⟨_, Heap.le_refl _, ?_⟩
            repeat' (first | exact hle | exact hb2 | exact hb3' | exact hb4' | apply le_updN)
        · simp (disch := first | omega | assumption | decide | (simp <;> omega) | fail) [facts, l2, l3, l4, l5, upd_ne, pairV, revT, zeroT, txnV, txnL, stepF, fromL, hlt, hz]
          try (repeat' apply And.intro)
          all_goals
            refine ⟨_, Heap.le_refl _, ?_⟩
            repeat' (first | exact hle | exact hb2 | exact hb3' | exact hb4' | apply le_updN)
      simp (disch := first | omega | assumption | decide | (simp <;> omega) | fail) [facts, l2, l3, l4, l5, upd_ne, pairV, revT, zeroT, txnV, txnL, stepF, fromL, hs]
      refine ⟨_, Heap.le_refl _, ?_⟩
      repeat' (first | exact hle | exact hb2 | exact hb3' | exact hb4' | apply le_updN)
    · by_cases hs : sta = 4
      · subst hs
        simp (disch := first | omega | assumption | decide | (simp <;> omega) | fail) [facts, l2, l3, l4, l5, upd_ne, pairV, revT, zeroT, txnV, txnL, stepF, fromL]
        refine ⟨_, Heap.le_refl _, ?_⟩
        repeat' (first | exact hle | exact hb2 | exact hb3' | exact hb4' | apply le_updN)
      simp (disch := first | omega | assumption | decide | (simp <;> omega) | fail) [facts, l2, l3, l4, l5, upd_ne, pairV, revT, zeroT, txnV, txnL, stepF, fromL, hs]
      refine ⟨_, Heap.le_refl _, ?_⟩
      repeat' (first | exact hle | exact hb2 | exact hb3' | exact hb4' | apply le_updN)
end Go.Proofs.YtfpighmafofoeaaGreatDoor.GL.St
