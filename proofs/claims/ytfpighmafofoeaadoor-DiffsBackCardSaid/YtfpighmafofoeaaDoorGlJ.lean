/- Slices that a call makes and lets grow; small rules for the everyday forms. -/
import Derived.Test.YtfpighmafofoeaaDoorGlI
namespace Go.Proofs.YtfpighmafofoeaaDoor.GL
open Go Go.RowKit
set_option linter.unusedSimpArgs false
set_option linter.unusedVariables false

/-- A slice that was made since H: nil and empty, or in a block that H does not know. -/
def Out (H H' : Heap) (sv : Value) (s n : Nat) (cs : List Value) : Prop :=
  (n = 0 ∧ cs = [] ∧ sv = .slice none 0 0) ∨ ∃ b o cap room, H b = none ∧ OwnA H' sv s n b o cap cs room

def deleV (H : Heap) (v : Value) : Heap := match v with | .slice (some a) _ _ => dele H a.block | _ => H

theorem deleV_le (H : Heap) (v : Value) : Heap.le (deleV H v) H := by
  unfold deleV; split
  · exact dele_le _ _
  · exact Heap.le_refl _

theorem Out.nil (H : Heap) (s : Nat) (H' : Heap) : Out H H' (.slice none 0 0) s 0 [] := .inl ⟨rfl, rfl, rfl⟩
theorem Out.sl {H H' : Heap} {sv : Value} {s n : Nat} {cs : List Value} (h : Out H H' sv s n cs) : ∃ a c, sv = .slice a n c ∧ SlA H' a n s cs := by
  rcases h with ⟨rfl, rfl, rfl⟩ | ⟨b, o, cap, room, _, hown⟩
  · exact ⟨none, 0, rfl, SlA.nil _ _⟩
  · exact ⟨some ⟨b, o, none⟩, cap, hown.is, hown.slA⟩
theorem Out.len {H H' : Heap} {sv : Value} {s n : Nat} {cs : List Value} (h : Out H H' sv s n cs) : cs.length = n * s := by
  rcases h with ⟨rfl, rfl, rfl⟩ | ⟨b, o, cap, room, _, hown⟩
  · simp
  · exact hown.len
theorem Out.up {H H' H'' : Heap} {sv : Value} {s n : Nat} {cs : List Value} (h : Out H H' sv s n cs) (hl : Heap.le H' H'') : Out H H'' sv s n cs := by
  rcases h with h | ⟨b, o, cap, room, hb, hown⟩
  · exact .inl h
  · exact .inr ⟨b, o, cap, room, hb, hown.is, hl _ _ hown.row, hown.len, hown.capOk, hown.fits⟩
/-- What was made since more is made since less. -/
theorem Out.down {H0 H H' : Heap} {sv : Value} {s n : Nat} {cs : List Value} (h : Out H H' sv s n cs) (hl : Heap.le H0 H) : Out H0 H' sv s n cs := by
  rcases h with h | ⟨b, o, cap, room, hb, hown⟩
  · exact .inl h
  · refine .inr ⟨b, o, cap, room, ?_, hown⟩
    cases e : H0 b with
    | none => rfl
    | some p => rw [hl _ _ e] at hb; cases hb
theorem Out.fresh {H : Heap} {b n cap room s : Nat} {cs : List Value} (hb : H b = none) (hl : cs.length = n * s) (h1 : n ≤ cap) (h2 : cap * s ≤ n * s + room) : Out H (upd H b (.row true 0 cs room)) (.slice (some ⟨b, 0, none⟩) n cap) s n cs :=
  .inr ⟨b, 0, cap, room, hb, rfl, upd_same _ _ _, hl, h1, h2⟩

/-- append onto such a slice. -/
theorem Out.app {P : Program} {H H1 : Heap} {K : Kont} {t t1 e : TypeId} {sv x z : Value} {s nbs n m : Nat} {cs ys : List Value} (hu : und P t = .slice e) (hs : sz P e = some s) (hn : nb P e = some nbs) (hz : zeroV P e = some z)
    (hzs : (cellsV z).length = s) (hs0 : 0 < s) (hle : Heap.le H H1) (ho : Out H H1 sv s n cs) (hsrc : srcOf P e t1 x H1 = some (m, ys)) (hl : ys.length = m * s) (hone : ys.all (·.oneCell') = true) (hb : (n + m) * (nbs + 1) ≤ 35184372088832)
    (h : ∀ sv' H', Heap.le H H' → Heap.le (deleV H1 sv) H' → Out H H' sv' s (n + m) (cs ++ ys) → K sv' H') : eApp P t t1 sv x H1 K := by
  rcases ho with ⟨rfl, rfl, rfl⟩ | ⟨b, o, cap, room, hbn, hown⟩
  · refine app_nil hu hs hn hz hzs hs0 hsrc hl hone (by simpa using hb) (fun h0 => ?_) (fun b cap room hb' hn0 hown => ?_)
    · subst h0
      have hys : ys = [] := List.eq_nil_of_length_eq_zero (by simpa using hl)
      subst hys
      exact h _ _ hle (Heap.le_refl _) (.inl ⟨rfl, rfl, rfl⟩)
    · refine h _ _ (Heap.le_trans hle (le_upd _ hb')) (le_upd _ hb') (.inr ⟨b, 0, cap, room, ?_, ?_⟩)
      · cases e' : H b with
        | none => rfl
        | some p => rw [hle _ _ e'] at hb'; cases hb'
      · simpa using hown
  · refine app_own hu hs hn hz hzs hs0 hown hsrc hl hone hb fun b' o' cap' room' H' hb' hH' hown' => ?_
    have hdel : Heap.le H (dele H1 b) := fun i p hp => by
      have hi : i ≠ b := fun e' => by subst e'; rw [hbn] at hp; cases hp
      rw [dele_ne _ hi]; exact hle i p hp
    subst hH'
    refine h _ _ (Heap.le_trans hdel (le_upd _ hb')) ?_ (.inr ⟨b', o', cap', room', ?_, hown'⟩)
    · rw [hown.is]; exact le_upd _ hb'
    · cases e' : H b' with
      | none => rfl
      | some p => rw [hdel _ _ e'] at hb'; cases hb'

/-- 'append(x, v)': the row of one that the compiler makes, and the append. -/
theorem srcOne {P : Program} {H : Heap} {e t1 e1 : TypeId} {b s : Nat} {z : Value} {cs : List Value} (hu : und P t1 = .slice e1) (hs : sz P e = some s) (hz : zeroV P e = some z) (hl : cs.length = s) :
    srcOf P e t1 (.slice (some ⟨b, 0, none⟩) 1 1) (upd H b (.row true 0 cs 0)) = some (1, cs) :=
  src_sl hu hs hz (SlA.row (upd_same _ _ _) (Nat.le_refl _) (by omega) (by omega) (by simp [← hl]))

theorem le_of_none {H H' : Heap} (hl : Heap.le H H') {b : Nat} (h : H' b = none) : H b = none := by
  cases e : H b with
  | none => rfl
  | some p => rw [hl _ _ e] at h; cases h

/-- A store of a byte. -/
theorem store_u8 {H : Heap} {K : Kont} {bs : List UInt8} {b o i p room : Nat} {v : Int} (c' : UInt8) (hp : p = o + i) (hi : i < bs.length) (hv : v = (c'.toNat : Int)) :
    storeU (some 1) (some (.row true o (bs.map u8V) room)) b p (.int .u8 v) H K = K undef (upd H b (.row true o ((bs.set i c').map u8V) room)) := by
  subst hp
  rw [storeU_one (by omega) (by simp; omega) rfl, List.map_set]
  simp [hv]

theorem take_snoc {α : Type} {xs : List α} {k : Nat} {x : α} (h : xs[k]? = some x) : xs.take (k + 1) = xs.take k ++ [x] := by
  rw [List.take_add_one, h]; rfl

/-- An element of a slice, met in a walk. -/
theorem SlA.at {α : Type} {H : Heap} {a : Option Addr} {n : Nat} {f : α → Value} {xs : List α} (h : SlA H a n 1 (xs.map f)) {k : Nat} {x : α} (hx : xs[k]? = some x) : at1 H a k = some (f x) := by
  have hk : k < xs.length := (List.getElem?_eq_some_iff.1 hx).1
  have hl := h.len
  rw [h.get k (by simp at hl; omega), List.getElem?_map, hx]; rfl

/-- A slice's beginning. -/
theorem SlA.take {H : Heap} {a : Option Addr} {n s m : Nat} {cs : List Value} (h : SlA H a n s cs) (hm : m ≤ n) : SlA H a m s (cs.take (m * s)) := by
  have hms : m * s ≤ n * s := Nat.mul_le_mul_right s hm
  refine ⟨h.plain, fun h0 => h.there (by omega), by rw [List.length_take, h.len]; omega, fun k hk => ?_, fun k r hr hk => ?_⟩
  · rw [h.get k (by omega), List.getElem?_take_of_lt hk]
  · rw [h.getN k r hr (by omega), List.drop_take, List.take_take, Nat.min_eq_left (by omega)]

/-- A slice's end. -/
theorem SlA.drop {H : Heap} {a : Option Addr} {n s m : Nat} {cs : List Value} (h : SlA H a n s cs) (hm : m ≤ n) : SlA H (a.map (·.add (m * s))) (n - m) s (cs.drop (m * s)) := by
  have hms : m * s ≤ n * s := Nat.mul_le_mul_right s hm
  refine ⟨?_, fun h0 => by rw [Option.isSome_map]; exact h.there (by omega), by rw [List.length_drop, h.len, Nat.sub_mul], fun k hk => ?_, fun k r hr hk => ?_⟩
  · have := h.plain
    cases a with
    | none => rfl
    | some x =>
      obtain ⟨b, o, sp⟩ := x
      cases sp with
      | some y => simp [plainA] at this
      | none => simp [Addr.add_mid, plainA]
  · rw [Nat.sub_mul] at hk
    rw [at1_add h.plain, h.get _ (by omega), List.getElem?_drop]
  · rw [Nat.sub_mul] at hk
    rw [atN_add h.plain, h.getN _ r hr (by omega), List.drop_drop]

theorem sl0 (a : Option Addr) (c : Nat) : (if c = 0 then a else a.map (fun x => x.add 0)) = a := by
  split
  · rfl
  · cases a <;> simp [Addr.add]
theorem splice_cons (v : Value) (vs xs : List Value) (k : Nat) : splice (v :: vs) k xs = (v :: vs).take k ++ xs ++ (v :: vs).drop (k + xs.length) := Eq.trans rfl rfl
attribute [simp] splice_cons sl0

/-- A call that knows nothing of the heap: the law's own call. -/
theorem ECalls.top {P : Program} {f : FuncId} {args : Array Value} {K : Kont} (h : ECalls P f args (fun _ => none) K) (W : World) :
    Calls P f args W fun e W' => ∃ v H', e = .returned v ∧ K v H' ∧ Below W.heap.size W W' :=
  (h W W ⟨Below.refl _ _, fun _ _ h => by cases h⟩).mono fun _ _ ⟨v, H', he, hK, hs⟩ => ⟨v, H', he, hK, hs.below⟩
theorem u8_wf (a : Int) : (Lit.int .u8 a).wf = true ↔ 0 ≤ a ∧ a < 256 := by
  simp only [Lit.wf, Bool.and_eq_true, decide_eq_true_eq]
  have h1 : IntKind.u8.min = 0 := by decide
  have h2 : IntKind.u8.max = 255 := by decide
  rw [h1, h2]; omega
end Go.Proofs.YtfpighmafofoeaaDoor.GL
