/- Layer 26: a net of messages: what it holds; a message is put. -/
import Derived.Test.YtodflnpiabhpeaaLiA
namespace Go.Proofs.Ytodflnpiabhpeaa.GL
open Go Go.RowKit
set_option maxRecDepth 10000
set_option pp.deepTerms.threshold 8
set_option pp.maxSteps 3000
set_option linter.unusedSimpArgs false
set_option linter.unusedVariables false

structure MsgZ where
  f : Int
  t : Int
  b : List UInt8
  a : Option Addr
  c : Nat
def MsgZ.cells (m : MsgZ) : List Value := [.int .i64 m.f, .int .i64 m.t, .slice m.a m.b.length m.c]
def cellsM (ms : List MsgZ) : List Value := (ms.map MsgZ.cells).flatten
theorem cellsM_nil : cellsM [] = [] := rfl
theorem cellsM_cons (m : MsgZ) (ms : List MsgZ) : cellsM (m :: ms) = m.cells ++ cellsM ms := rfl
theorem cellsM_app (ms ns : List MsgZ) : cellsM (ms ++ ns) = cellsM ms ++ cellsM ns := by simp [cellsM]
theorem cellsM_len : ∀ (ms : List MsgZ), (cellsM ms).length = ms.length * 3
  | [] => rfl
  | m :: ms => by rw [cellsM_cons, List.length_append, cellsM_len ms, List.length_cons, Nat.succ_mul]; simp [MsgZ.cells]; omega
theorem cellsM_drop : ∀ (ms : List MsgZ) (k : Nat), (cellsM ms).drop (k * 3) = cellsM (ms.drop k)
  | ms, 0 => by simp
  | [], k + 1 => by simp [cellsM]
  | m :: ms, k + 1 => by
    rw [cellsM_cons, List.drop_succ_cons, ← cellsM_drop ms k, show (k + 1) * 3 = m.cells.length + k * 3 by simp [MsgZ.cells]; omega, List.drop_append, List.drop_of_length_le (by omega)]
    simp
theorem cellsM_take : ∀ (ms : List MsgZ) (k : Nat), (cellsM ms).take (k * 3) = cellsM (ms.take k)
  | ms, 0 => by simp [cellsM]
  | [], k + 1 => by simp [cellsM]
  | m :: ms, k + 1 => by
    rw [cellsM_cons, List.take_succ_cons, cellsM_cons, ← cellsM_take ms k, show (k + 1) * 3 = m.cells.length + k * 3 by simp [MsgZ.cells]; omega, List.take_append, List.take_of_length_le (by omega)]
    simp
theorem cellsM_at {ms : List MsgZ} {k : Nat} {m : MsgZ} (h : ms[k]? = some m) : ((cellsM ms).drop (k * 3)).take 3 = m.cells := by
  rw [cellsM_drop]
  obtain ⟨hk, hm⟩ := List.getElem?_eq_some_iff.1 h
  rw [List.drop_eq_getElem_cons hk, hm, cellsM_cons, List.take_append_of_le_length (by simp [MsgZ.cells])]
  rfl
theorem cellsM_one (ms : List MsgZ) : (cellsM ms).all (·.oneCell') = true := by
  rw [List.all_eq_true]
  intro v hv
  unfold cellsM at hv
  obtain ⟨l, hl, hvl⟩ := List.mem_flatten.1 hv
  obtain ⟨m, _, rfl⟩ := List.mem_map.1 hl
  simp only [MsgZ.cells, List.mem_cons, List.not_mem_nil, or_false] at hvl
  rcases hvl with rfl | rfl | rfl <;> rfl

/-- The list's slice and its row, whatever stands behind. -/
def ListAt (D H : Heap) (p : Nat) (ms : List MsgZ) : Prop :=
  (ms = [] ∧ H p = some (.row true 0 [.slice none 0 0] 0)) ∨
  ∃ q o cap tail room, D q = none ∧ q ≠ p ∧ H p = some (.row true 0 [.slice (some ⟨q, o, none⟩) ms.length cap] 0) ∧ H q = some (.row true o (cellsM ms ++ tail) room) ∧ ms.length ≤ cap ∧ cap * 3 ≤ ms.length * 3 + tail.length + room
structure Net (D H : Heap) (p : Nat) (ms : List MsgZ) : Prop where
  le : Heap.le D H
  here : D p = none
  data : ∀ m ∈ ms, SlA D m.a m.b.length 1 (m.b.map u8V) ∧ m.b.length ≤ m.c ∧ m.b.length ≤ 1000
  list : ListAt D H p ms
theorem Net.row {D H : Heap} {p : Nat} {ms : List MsgZ} (h : Net D H p ms) : ∃ a cap, H p = some (.row true 0 [.slice a ms.length cap] 0) ∧ SlA H a ms.length 3 (cellsM ms) ∧ ms.length ≤ cap := by
  rcases h.list with ⟨rfl, h1⟩ | ⟨q, o, cap, tail, room, _, _, h1, h2, h3, _⟩
  · exact ⟨none, 0, h1, SlA.nil _ _, Nat.le_refl _⟩
  · exact ⟨_, cap, h1, SlA.row h2 (Nat.le_refl _) (cellsM_len ms) (by simp [cellsM_len]) (by rw [Nat.sub_self, List.drop_zero, List.take_append_of_le_length (by rw [cellsM_len]; exact Nat.le_refl _), ← cellsM_len ms, List.take_length]), h3⟩

theorem netNew_c (H : Heap) : ECalls Try.prog 6 #[] H fun v H' => ∃ p, v = .pointer (some ⟨p, 0, none⟩) ∧ Net H H' p [] := by
  refine ecalls_of_ewp (args := []) Try.func6 rfl rfl rfl (by simp [Try.ntmps6]) (by kernel_rfl) ?_
  simp (disch := first | omega | assumption | decide | (simp <;> omega) | fail) [facts, ]
  refine fresh_intro fun p hp => ?_
  simp (disch := first | omega | assumption | decide | (simp <;> omega) | fail) [facts, ]
  exact ⟨_, Heap.le_refl _, le_upd _ hp, hp, fun m hm => (by cases hm), .inl ⟨rfl, upd_same _ _ _⟩⟩
theorem netLen_c (D H : Heap) (p : Nat) (ms : List MsgZ) (h : Net D H p ms) : ECalls Try.prog 9 #[.pointer (some ⟨p, 0, none⟩)] H fun v H' => v = .int .i64 ms.length ∧ H' = H := by
  refine ecalls_of_ewp (args := [_]) Try.func9 rfl rfl rfl (by simp [Try.ntmps9]) (by kernel_rfl) ?_
  obtain ⟨a, cap, hp, _, _⟩ := h.row
  simp (disch := first | omega | assumption | decide | (simp <;> omega) | fail) [facts, hp]
theorem netIs_c (D H : Heap) (p : Nat) (ms : List MsgZ) (i : Int) (h : Net D H p ms) : ECalls Try.prog 13 #[.pointer (some ⟨p, 0, none⟩), .int .i64 i] H fun v H' => v = .bool (decide (0 ≤ i ∧ i < ms.length)) ∧ H' = H := by
  refine ecalls_of_ewp (args := [_, _]) Try.func13 rfl rfl rfl (by simp [Try.ntmps13]) (by kernel_rfl) ?_
  obtain ⟨a, cap, hp, _, _⟩ := h.row
  by_cases h0 : 0 ≤ i
  · simp (disch := first | omega | assumption | decide | (simp <;> omega) | fail) [facts, hp, h0]
  · simp (disch := first | omega | assumption | decide | (simp <;> omega) | fail) [facts, hp, h0]
end Go.Proofs.Ytodflnpiabhpeaa.GL
