/- Layer 22: a tick; what is out; all. -/
import Derived.Test.YthejhhllpjfojaaQuC
namespace Go.Proofs.Ythejhhllpjfojaa.GL
open Go Go.RowKit
set_option maxRecDepth 10000
set_option pp.deepTerms.threshold 8
set_option pp.maxSteps 3000
set_option linter.unusedSimpArgs false
set_option linter.unusedVariables false

theorem on_cells (x : QZ) : x.on.cells = x.cells.set 3 (.bool true) := rfl
theorem no_cells (x : QZ) : x.no.cells = x.cells.set 3 (.bool false) := rfl
/-- An element's flag set, in the queue's memory. -/
theorem QAt.flag {R : Heap} {p : Nat} {l : List QZ} {k : Int} {v : Value} (h : QAt R p ⟨l, k⟩ v) {j : Nat} {x x' : QZ} (hx : l[j]? = some x) {w : Bool} (hc : x'.cells = x.cells.set 3 (.bool w)) :
    ∃ b o c tail room, v = .slice (some ⟨b, o, none⟩) l.length c ∧ p ≠ b ∧ R b = some (.row true o (rowsC QZ.cells l ++ tail) room) ∧ l.length ≤ c ∧ (rowsC QZ.cells l ++ tail).set (j * 4 + 3) (.bool w) = rowsC QZ.cells (l.set j x') ++ tail ∧ QAt (upd R b (.row true o (rowsC QZ.cells (l.set j x') ++ tail) room)) p ⟨l.set j x', k⟩ v := by
  have hlt := (List.getElem?_eq_some_iff.1 hx).1
  have h2 := h.list
  simp only at h2
  rcases h2 with ⟨_, h1, _⟩ | ⟨b, o, cap, tail, room, rfl, hr, hlen, hcap, hf⟩
  · omega
  have hpb : p ≠ b := fun e => h.off (by subst e; rfl)
  refine ⟨b, o, cap, tail, room, rfl, hpb, hr, hcap, rowsC_set1 q4 tail hx (by decide) hc, by rw [upd_ne _ _ hpb]; exact h.row, ?_, h.off⟩
  exact .inr ⟨b, o, cap, tail, room, by simp, upd_same _ _ _, rowsC_len q4 _, by simpa using hcap, by simpa using hf⟩
def tickD (q : QS) : QS := if (q.k + 1) % 4 = 0 then ⟨q.l.map QZ.on, 0⟩ else ⟨q.l, q.k + 1⟩
def tickInv (H R : Heap) (p : Nat) (l : List QZ) (v : Value) (s : St) : Prop :=
  ∃ (j : Nat) (R1 : Heap), j ≤ l.length ∧ s.env 0 = .pointer (some ⟨p, 0, none⟩) ∧ s.env 23 = .int .i64 l.length ∧ s.env 24 = .int .i64 j ∧ Own H R s.heap R1 ∧ QAt R1 p ⟨upto QZ.on l j, 0⟩ v
section
variable {H R : Heap} {p : Nat} {q : QS}
set_option maxHeartbeats 1000000 in
theorem queTick_c (hR : Heap.le R H) (h : Que R p q) (hn : q.l.length ≤ 1000000) (hk : 0 ≤ q.k ∧ q.k ≤ 1000000) : ECalls Try.prog 13 #[.pointer (some ⟨p, 0, none⟩)] H fun _ H' => ∃ R', Own H R H' R' ∧ Que R' p (tickD q) := by
  refine ecalls_of_ewp (args := [_]) Try.func13 rfl rfl rfl (by simp [Try.ntmps13]) (by kernel_rfl) ?_
  obtain ⟨v, hq⟩ := h
  have hp := hR _ _ hq.row
  have setk : ∀ k', QAt (upd R p (.row true 0 [v, .int .i64 k'] 0)) p ⟨q.l, k'⟩ v := fun k' => ⟨upd_same _ _ _, hq.list.up fun i o hi ho => by rw [upd_ne _ _ (fun e => hq.off (by rw [hi, e]))]; exact ho, hq.off⟩
  have ownk := fun k' => (Own.refl hR).set hq.row (.row true 0 [v, .int .i64 k'] 0)
  unfold tickD
  by_cases h4 : (q.k + 1) % 4 = 0
  · rw [if_pos h4]
    have q0 := setk 0
    have o0 := ownk 0
    obtain ⟨a, c, e, hsl, _⟩ := q0.list.sl o0.le
    simp only at e hsl
    subst e
    have hp0 := o0.le _ _ q0.row
    simp (disch := first | omega | assumption | decide | (simp <;> omega) | fail) [facts, hp, h4, upd_upd]
    refine w_loop (tickInv H R p q.l (.slice a q.l.length c)) (fun s => q.l.length - (intOf (s.env 24)).toNat) ?_ ?_
    · exact ⟨0, _, Nat.zero_le _, by simp, by simp, by simp, o0, by rw [upto_zero]; exact q0⟩
    clear hp hp0 hsl q0 o0 setk ownk hq
    rintro ⟨env, G⟩ ⟨j, R1, hj, e0, e23, e24, ow, hq⟩
    simp only at e0 e23 e24 ow
    have hp := ow.le _ _ hq.row
    by_cases hlt : j < q.l.length
    · have hltI : (j : Int) < (q.l.length : Int) := by omega
      obtain ⟨x, hx⟩ : ∃ x, q.l[j]? = some x := ⟨_, List.getElem?_eq_getElem hlt⟩
      obtain ⟨b, o, c', tail, room, e, hpb, hr, hc, hset, hq2⟩ := hq.flag (upto_get QZ.on hx) (x' := x.on) (on_cells x)
      rw [upto_len] at e
      simp only [Value.slice.injEq] at e
      obtain ⟨rfl, _, rfl⟩ := e
      have hb := ow.le _ _ hr
      have hll : (rowsC QZ.cells (upto QZ.on q.l j)).length = q.l.length * 4 := by rw [rowsC_len q4, upto_len]
      have hix : o + j * 4 + 3 - o = j * 4 + 3 := by omega
      have hfit : j * 4 + 3 < q.l.length * 4 + tail.length := by omega
      simp (disch := first | omega | assumption | decide | (simp <;> omega) | fail) [facts, e0, e23, e24, hltI, hp, hb, hll, hix, hset]
      rw [upto_succ QZ.on hx] at hq2 ⊢
      exact ⟨_, Heap.le_refl _, ⟨j + 1, _, by omega, by simp [e0], by simp [e23], by simp, ow.set hr _, hq2⟩, by simp [intOf, e24]; omega⟩
    · have hje : j = q.l.length := by omega
      subst hje
      rw [upto_all] at hq
      simp (disch := first | omega | assumption | decide | (simp <;> omega) | fail) [facts, e0, e23, e24]
      exact ⟨_, Heap.le_refl _, R1, ow, _, hq⟩
  · rw [if_neg h4]
    simp (disch := first | omega | assumption | decide | (simp <;> omega) | fail) [facts, hp, h4, upd_upd]
    exact ⟨_, Heap.le_refl _, _, ownk _, _, setk _⟩
end
end Go.Proofs.Ythejhhllpjfojaa.GL
