/- Cells of like elements, one behind another. -/
import Derived.Test.YtfpighmafofoeaaDoorGlY
namespace Go.Proofs.YtfpighmafofoeaaDoor.GL
open Go Go.RowKit
set_option linter.unusedSimpArgs false
set_option linter.unusedVariables false

def rowsC {α : Type} (f : α → List Value) (xs : List α) : List Value := (xs.map f).flatten
section
variable {α : Type} {f : α → List Value} {s : Nat}
theorem rowsC_nil : rowsC f [] = [] := rfl
theorem rowsC_cons (x : α) (xs : List α) : rowsC f (x :: xs) = f x ++ rowsC f xs := rfl
theorem rowsC_app (xs ys : List α) : rowsC f (xs ++ ys) = rowsC f xs ++ rowsC f ys := by simp [rowsC]
theorem rowsC_single (x : α) : rowsC f [x] = f x := by simp [rowsC]
theorem rowsC_len (hf : ∀ x, (f x).length = s) : ∀ xs : List α, (rowsC f xs).length = xs.length * s
  | [] => by simp [rowsC]
  | x :: xs => by rw [rowsC_cons, List.length_append, rowsC_len hf xs, List.length_cons, Nat.succ_mul, hf]; omega
theorem rowsC_drop (hf : ∀ x, (f x).length = s) : ∀ (xs : List α) (k : Nat), (rowsC f xs).drop (k * s) = rowsC f (xs.drop k)
  | xs, 0 => by simp
  | [], k + 1 => by simp [rowsC]
  | x :: xs, k + 1 => by
    rw [rowsC_cons, List.drop_succ_cons, ← rowsC_drop hf xs k, show (k + 1) * s = (f x).length + k * s by rw [hf, Nat.succ_mul]; omega, List.drop_append, List.drop_of_length_le (by omega)]
    simp
theorem rowsC_take (hf : ∀ x, (f x).length = s) : ∀ (xs : List α) (k : Nat), (rowsC f xs).take (k * s) = rowsC f (xs.take k)
  | xs, 0 => by simp [rowsC]
  | [], k + 1 => by simp [rowsC]
  | x :: xs, k + 1 => by
    rw [rowsC_cons, List.take_succ_cons, rowsC_cons, ← rowsC_take hf xs k, show (k + 1) * s = (f x).length + k * s by rw [hf, Nat.succ_mul]; omega, List.take_append, List.take_of_length_le (by omega)]
    simp
theorem rowsC_at (hf : ∀ x, (f x).length = s) {xs : List α} {k : Nat} {x : α} (h : xs[k]? = some x) : ((rowsC f xs).drop (k * s)).take s = f x := by
  rw [rowsC_drop hf]
  obtain ⟨hk, hx⟩ := List.getElem?_eq_some_iff.1 h
  rw [List.drop_eq_getElem_cons hk, hx, rowsC_cons, List.take_append_of_le_length (by rw [hf]; exact Nat.le_refl _), ← hf x, List.take_length]
theorem rowsC_one (h1 : ∀ x, (f x).all (·.oneCell') = true) (xs : List α) : (rowsC f xs).all (·.oneCell') = true := by
  rw [List.all_eq_true]
  intro v hv
  unfold rowsC at hv
  obtain ⟨l, hl, hvl⟩ := List.mem_flatten.1 hv
  obtain ⟨x, _, rfl⟩ := List.mem_map.1 hl
  exact List.all_eq_true.1 (h1 x) v hvl
theorem rowsC_set (hf : ∀ x, (f x).length = s) (xs : List α) (k : Nat) (x : α) (hk : k < xs.length) : splice (rowsC f xs) (k * s) (f x) = rowsC f (xs.set k x) := by
  unfold splice
  rw [rowsC_take hf, hf, show k * s + s = (k + 1) * s by rw [Nat.succ_mul], rowsC_drop hf, List.set_eq_take_append_cons_drop, if_pos hk, rowsC_app, rowsC_cons, List.append_assoc]
/-- Cells of which each part is an element's. -/
theorem rows_list {Q : α → Prop} (hf : ∀ x, (f x).length = s) : ∀ {n : Nat} {xs : List Value}, xs.length = n * s → (∀ i, i < n → ∃ x, Q x ∧ (xs.drop (i * s)).take s = f x) → ∃ L : List α, xs = rowsC f L ∧ L.length = n ∧ ∀ x ∈ L, Q x
  | 0, xs, hl, _ => ⟨[], List.eq_nil_of_length_eq_zero (by omega), rfl, fun x hx => (by cases hx)⟩
  | n + 1, xs, hl, h => by
    obtain ⟨x, hq, hx⟩ := h 0 (by omega)
    rw [Nat.zero_mul, List.drop_zero] at hx
    obtain ⟨L, e, hL, hQ⟩ := rows_list (Q := Q) hf (n := n) (xs := xs.drop s) (by rw [List.length_drop, hl, Nat.succ_mul]; omega) fun i hi => by
      obtain ⟨y, h1, h2⟩ := h (i + 1) (by omega)
      refine ⟨y, h1, ?_⟩
      rw [List.drop_drop, show s + i * s = (i + 1) * s by rw [Nat.succ_mul]; omega]; exact h2
    refine ⟨x :: L, ?_, by simp [hL], fun y hy => ?_⟩
    · rw [rowsC_cons, ← hx, ← e, List.take_append_drop]
    · rcases List.mem_cons.1 hy with rfl | hy
      · exact hq
      · exact hQ y hy
/-- The cells of one element in a slice. -/
theorem SlA.els {H : Heap} {a : Option Addr} {n : Nat} {xs : List α} (hf : ∀ x, (f x).length = s) (hs : 0 < s) (h : SlA H a n s (rowsC f xs)) : xs.length = n := by
  have hl := h.len
  rw [rowsC_len hf] at hl
  exact Nat.eq_of_mul_eq_mul_right hs hl
theorem SlA.el {H : Heap} {b o n : Nat} {xs : List α} (hf : ∀ x, (f x).length = s) (h : SlA H (some ⟨b, o, none⟩) n s (rowsC f xs)) {k : Nat} {x : α} (hx : xs[k]? = some x) {j r : Nat} (hr : 0 < r) (hj : j + r ≤ s) : rdNU (H b) (o + k * s + j) r = some (((f x).drop j).take r) := by
  have hk : k < xs.length := (List.getElem?_eq_some_iff.1 hx).1
  have hn := h.els hf (by omega)
  exact h.part (by omega) (rowsC_at hf hx) hj hr
theorem SlA.el1 {H : Heap} {b o n : Nat} {xs : List α} (hf : ∀ x, (f x).length = s) (h : SlA H (some ⟨b, o, none⟩) n s (rowsC f xs)) {k : Nat} {x : α} (hx : xs[k]? = some x) {j : Nat} (hj : j < s) : rd1U (H b) (o + k * s + j) = (f x)[j]? := by
  have hk : k < xs.length := (List.getElem?_eq_some_iff.1 hx).1
  have hn := h.els hf (by omega)
  exact h.part1 (by omega) (rowsC_at hf hx) hj
end
/-- The end of a slice, appended. -/
theorem src_tail {P : Program} {H : Heap} {e t1 e1 : TypeId} {a : Option Addr} {n c s l : Nat} {z : Value} {ys : List Value} (hu : und P t1 = .slice e1) (hs : sz P e = some s) (hz : zeroV P e = some z) (h : SlA H a n s ys) (hl : l ≤ n) (hc : n ≤ c) :
    srcOf P e t1 (.slice (if c = l then a else a.map (·.add (l * s))) (n - l) (c - l)) H = some (n - l, ys.drop (l * s)) := by
  by_cases h0 : c = l
  · have : n = l := by omega
    subst this
    rw [if_pos h0, Nat.sub_self, List.drop_of_length_le (by rw [h.len]; exact Nat.le_refl _)]
    have := h.take (m := 0) (Nat.zero_le _)
    exact src_sl hu hs hz (by simpa using this)
  · rw [if_neg h0]
    exact src_sl hu hs hz (h.drop hl)
/-! ### Cuts -/
theorem cond_cut3 {P : Program} {v : Value} {A B : Code} {f : St → Prop} {K : Post} {s : St} (I : St → Prop) (h1 : condK v P A B (Kseq I K) s) (h2 : ∀ s, I s → f s) : condK v P A B (Kseq f K) s := by
  unfold condK at h1 ⊢
  cases v with
  | bool t => exact ⟨fun ht => w_cut I (h1.1 ht) h2, fun ht => w_cut I (h1.2 ht) h2⟩
  | _ => exact h1
theorem cond_cutB {P : Program} {v : Value} {A B : Code} {id : Nat} {f : St → Prop} {K : Post} {s : St} (I : St → Prop) (h1 : condK v P A B (Kblock id (Kseq I K)) s) (h2 : ∀ s, I s → f s) : condK v P A B (Kblock id (Kseq f K)) s := by
  unfold condK at h1 ⊢
  cases v with
  | bool t => exact ⟨fun ht => w_cutB I (h1.1 ht) h2, fun ht => w_cutB I (h1.2 ht) h2⟩
  | _ => exact h1
theorem gd_mono {P : Program} {ops : Array Oper} {rest : List Oper} {K K' : St → Prop} {s : St} {d : Option Tmp} {op : Op} {w : Bool} {v : Value} (hk : ∀ s, K s → K' s) (h : gdK v w P ops d op rest K s) : gdK v w P ops d op rest K' s := by
  unfold gdK at h ⊢
  cases v with
  | bool b =>
    simp only at h ⊢
    by_cases hb : b = w
    · rw [if_pos hb] at h ⊢
      exact eop_mono (fun v H' => eops_mono hk _ _) h
    · rw [if_neg hb] at h ⊢
      exact eops_mono hk _ _ h
  | _ => exact eops_mono hk _ _ h
/-- A cut behind the code that follows a region, at a guarded operation of it. -/
theorem gd_cut {P : Program} {ops : Array Oper} {rest : List Oper} {A : Code} {f : St → Prop} {K K2 : Post} {s : St} {d : Option Tmp} {op : Op} {w : Bool} {v : Value} (I : St → Prop) (h1 : gdK v w P ops d op rest (Kseq (ewp P A (Kseq I K)) K2 .normal) s) (h2 : ∀ s, I s → f s) : gdK v w P ops d op rest (Kseq (ewp P A (Kseq f K)) K2 .normal) s :=
  gd_mono (fun s h => w_cut I h h2) h1
/-- A cut behind a region, at a guarded operation of it. -/
theorem gd_cut0 {P : Program} {ops : Array Oper} {rest : List Oper} {f : St → Prop} {K2 : Post} {s : St} {d : Option Tmp} {op : Op} {w : Bool} {v : Value} (I : St → Prop) (h1 : gdK v w P ops d op rest (Kseq I K2 .normal) s) (h2 : ∀ s, I s → f s) : gdK v w P ops d op rest (Kseq f K2 .normal) s :=
  gd_mono (fun s h => h2 s h) h1
end Go.Proofs.YtfpighmafofoeaaDoor.GL
