/- A list of the call's own behind whose cells others may stand: append, cut. -/
import Derived.Test.YtfpighmafofoeaaDoorGlX
namespace Go.Proofs.YtfpighmafofoeaaDoor.GL
open Go Go.RowKit
set_option linter.unusedSimpArgs false
set_option linter.unusedVariables false

/-- Its block is not of D. -/
def TailA (D H : Heap) (v : Value) (s n : Nat) (cs : List Value) : Prop :=
  (v = .slice none 0 0 ∧ n = 0 ∧ cs = []) ∨ ∃ q o cap tail room, v = .slice (some ⟨q, o, none⟩) n cap ∧ D q = none ∧ H q = some (.row true o (cs ++ tail) room) ∧ cs.length = n * s ∧ n ≤ cap ∧ cap * s ≤ n * s + tail.length + room
theorem TailA.sl {D H : Heap} {v : Value} {s n : Nat} {cs : List Value} (h : TailA D H v s n cs) : ∃ a c, v = .slice a n c ∧ SlA H a n s cs ∧ n ≤ c := by
  rcases h with ⟨rfl, rfl, rfl⟩ | ⟨q, o, cap, tail, room, rfl, _, hr, hl, hc, _⟩
  · exact ⟨none, 0, rfl, SlA.nil _ _, Nat.le_refl _⟩
  · refine ⟨_, cap, rfl, SlA.row hr (Nat.le_refl _) hl (by rw [Nat.sub_self, List.length_append, hl]; omega) ?_, hc⟩
    rw [Nat.sub_self, List.drop_zero, ← hl, List.take_left']; rfl
theorem TailA.grow {D H H' : Heap} {v : Value} {s n : Nat} {cs : List Value} (h : TailA D H v s n cs) (hl : Heap.le H H') : TailA D H' v s n cs := by
  rcases h with h | ⟨q, o, cap, tail, room, hv, hD, hr, hlen, hc, hf⟩
  · exact .inl h
  · exact .inr ⟨q, o, cap, tail, room, hv, hD, hl _ _ hr, hlen, hc, hf⟩
/-- append. -/
theorem TailA.app {P : Program} {D H : Heap} {K : Kont} {t t1 e : TypeId} {v x z : Value} {s nbs n m : Nat} {cs ys : List Value} (hu : und P t = .slice e) (hs : sz P e = some s) (hn : nb P e = some nbs) (hz : zeroV P e = some z)
    (hzs : (cellsV z).length = s) (hs0 : 0 < s) (h : TailA D H v s n cs) (hle : Heap.le D H) (hsrc : srcOf P e t1 x H = some (m, ys)) (hl : ys.length = m * s) (hone : ys.all (·.oneCell') = true) (hb : (n + m) * (nbs + 1) ≤ 35184372088832)
    (hk : ∀ v' H', Heap.le (deleV H v) H' → Heap.le D H' → TailA D H' v' s (n + m) (cs ++ ys) → K v' H') : eApp P t t1 v x H K := by
  by_cases hm : m = 0
  · subst hm
    have hys : ys = [] := List.eq_nil_of_length_eq_zero (by simpa using hl)
    subst hys
    have hK : K v H := hk v H (deleV_le _ _) hle (by simpa using h)
    rcases h with ⟨rfl, rfl, rfl⟩ | ⟨q, o, cap, tail, room, rfl, hD, hr, hlen, hc, hf⟩
    · exact app_nil hu hs hn hz hzs hs0 hsrc hl hone (by simp) (fun _ => hK) (fun _ _ _ _ h0 _ => absurd rfl h0)
    · refine .inl ?_
      unfold eApp0
      rw [hu]
      simp only [hs, hn, hz, hsrc, hr]
      exact ⟨⟨hzs, hs0, hl, hone, hc, hb⟩, fun _ => hK, fun h0 => absurd rfl h0⟩
  · rcases h with ⟨rfl, rfl, rfl⟩ | ⟨q, o, cap, tail, room, rfl, hD, hr, hlen, hc, hf⟩
    · refine app_nil hu hs hn hz hzs hs0 hsrc hl hone (by simpa using hb) (fun h0 => absurd h0 hm) (fun b cap room hb' _ hown => ?_)
      have hDb : D b = none := le_of_none hle hb'
      have := hk (.slice (some ⟨b, 0, none⟩) (0 + m) cap) (upd H b (.row true 0 ys room)) (le_upd _ hb') (Heap.le_trans hle (le_upd _ hb')) (.inr ⟨b, 0, cap, [], room, rfl, hDb, by rw [upd_same]; simp, by simpa using hl, by simpa using hown.capOk, by simpa using hown.fits⟩)
      simpa using this
    · refine .inl ?_
      unfold eApp0
      rw [hu]
      simp only [hs, hn, hz, hsrc, hr]
      refine ⟨⟨hzs, hs0, hl, hone, hc, hb⟩, fun h0 => absurd h0 hm, fun _ => ⟨⟨Nat.le_refl _, by rw [Nat.sub_self, List.length_append, hlen]; omega, by rw [Nat.sub_self, List.length_append, hlen]; omega⟩, fun b' o' cap' room' hb' hcap hfit' => ?_⟩⟩
      have hct : ((cs ++ tail).drop (o - o)).take (n * s) = cs := by rw [Nat.sub_self, List.drop_zero, ← hlen, List.take_left']; rfl
      rw [hct]
      have hdel : Heap.le D (dele H q) := fun i p hp => by
        have hi : i ≠ q := fun e' => by subst e'; rw [hD] at hp; cases hp
        rw [dele_ne _ hi]; exact hle i p hp
      exact hk _ _ (le_upd _ hb') (Heap.le_trans hdel (le_upd _ hb')) (.inr ⟨b', o', cap', [], room', rfl, le_of_none hdel hb', by rw [upd_same]; simp, by rw [List.length_append, hlen, hl, Nat.add_mul], hcap, by simpa using hfit'⟩)
/-- The first ones, with no room behind. -/
theorem TailA.cut {D H : Heap} {q o cap s n k : Nat} {cs : List Value} (h : TailA D H (.slice (some ⟨q, o, none⟩) n cap) s n cs) (hk : k ≤ n) : TailA D H (.slice (some ⟨q, o, none⟩) k k) s k (cs.take (k * s)) := by
  rcases h with ⟨h, _⟩ | ⟨q', o', cap', tail, room, hv, hD, hr, hlen, hc, hf⟩
  · cases h
  · simp only [Value.slice.injEq, Option.some.injEq, Addr.mk.injEq, true_and] at hv
    obtain ⟨⟨rfl, rfl, _⟩, rfl⟩ := hv
    have hks : k * s ≤ n * s := Nat.mul_le_mul_right _ hk
    refine .inr ⟨q, o, k, cs.drop (k * s) ++ tail, room, rfl, hD, by rw [← List.append_assoc, List.take_append_drop]; exact hr, by rw [List.length_take]; omega, Nat.le_refl _, by omega⟩
end Go.Proofs.YtfpighmafofoeaaDoor.GL
