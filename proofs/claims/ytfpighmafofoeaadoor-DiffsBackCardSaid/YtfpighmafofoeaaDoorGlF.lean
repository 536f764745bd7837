/- append and copy, told by what is known of memory. -/
import Derived.Test.YtfpighmafofoeaaDoorGlE
namespace Go.Proofs.YtfpighmafofoeaaDoor.GL
set_option linter.unusedSimpArgs false
set_option linter.unusedVariables false
open Go Go.RowKit

/-- What is appended: how many elements, their cells. -/
def srcOf (P : Program) (e t1 : TypeId) (x : Value) (H : Heap) : Option (Nat × List Value) :=
  match sz P e, zeroV P e with
  | some s, some z => match und P t1, x with
    | .slice _, .slice none 0 _ => some (0, [])
    | .slice _, .slice (some ⟨b, o, none⟩) n _ => (rdN H b o (n * s)).map fun xs => (n, xs)
    | .slice _, .slice (some ⟨_, _, some _⟩) 0 _ => some (0, [])
    | .str, .string str => if s = 1 then some (str.size, str.data.toList.map u8V) else none
    | .int _, .int _ l => if 0 ≤ l ∧ l ≤ 1099511627776 then some (l.toNat, zeros (cellsV z) l.toNat) else none
    | _, _ => none
  | _, _ => none

theorem zeroCells_zeros (z : Array Value) (n : Nat) : (Builtin.zeroCells z n).toList = zeros z.toList n := by
  rcases Nat.eq_zero_or_pos z.size with h0 | h0
  · have : z.toList = [] := by simpa using h0
    simp [Builtin.zeroCells, h0, this, zeros]
  · apply List.ext_getElem?
    intro j
    have := madeCells_getElem? z n j h0
    by_cases hj : j < n * z.size
    · have h1 := this hj
      unfold madeCells at h1
      unfold Builtin.zeroCells
      rw [Array.getElem?_toList]
      exact h1
    · rw [List.getElem?_eq_none (by simp [Builtin.zeroCells]; omega), List.getElem?_eq_none (by rw [zeros_length]; simpa using hj)]

/-- The append's operation, its source told by three facts. -/
structure SrcRuns (P : Program) (e : TypeId) (t1 : TypeId) (x : Value) (n : Nat) (ys : List Value) (W : World → Prop) : Prop where
  is : ∀ (t ty : TypeId) (s nbs : Nat) (base : Option Addr) (len cap : Nat) (w : World) (z : Value), W w → und P t = .slice e → sz P e = some s → nb P e = some nbs → zeroV P e = some z →
    (len + n) * (nbs + 1) ≤ 35184372088832 →
    (len + n ≤ cap → ∀ w', (match base with | some a => (storeCells (a.add (len * s)) ys).run P w = .ok () w' | none => w' = w) →
      (Builtin.append_ #[t, t1] ty #[.slice base len cap, x]).run P w = .ok (.slice base (len + n) cap) w') ∧
    (cap < len + n → ∀ olds : List Value, (Builtin.firstCells s len (.slice base len cap)).run P w.drew = .ok olds.toArray w.drew →
      (Builtin.append_ #[t, t1] ty #[.slice base len cap, x]).run P w = .ok (.slice (some ⟨w.heap.size, 0, none⟩) (len + n) (grownCap w (len + n) cap e))
        (w.drew.alloc (.cells (olds.toArray ++ ys.toArray ++ Builtin.zeroCells z.cells (grownCap w (len + n) cap e - (len + n))) e)))

theorem bound_need {m nbs : Nat} (h : m * (nbs + 1) ≤ 35184372088832) : m * nbs ≤ 140737488355328 ∧ m ≤ 35184372088832 := by
  rw [Nat.mul_add, Nat.mul_one] at h
  omega

theorem srcRuns_slice {P : Program} {e t1 e1 : TypeId} {x : Value} {n : Nat} {ys : List Value} {W : World → Prop} (hu1 : und P t1 = .slice e1) (hlen : ∀ w, (Builtin.lenOf x).run P w = .ok n w)
    (hf : ∀ s w, sz P e = some s → W w → (Builtin.firstCells s n x).run P w = .ok ys.toArray w ∧ (Builtin.firstCells s n x).run P w.drew = .ok ys.toArray w.drew) : SrcRuns P e t1 x n ys W := by
  refine ⟨fun t ty s nbs base len cap w z hW hu hs hn hz hb => ?_⟩
  obtain ⟨hb1, hb2⟩ := bound_need hb
  obtain ⟨i, hi, hbi, hti⟩ := run_typeBytes hn w
  have hsi : i.size = s := by unfold sz at hs; rw [hi] at hs; simpa using hs
  have hzi : i.zero = some z := by unfold zeroV at hz; rw [hi] at hz; exact hz
  obtain ⟨hf1, hf2⟩ := hf s w hs hW
  refine ⟨fun hle w' hst => ?_, fun hlt olds hold => ?_⟩
  · cases base with
    | none => subst hst; simp [Builtin.append_, run_underlying (und_slice hu), run_underlying (und_slice hu1), run_sizeOf hs, hlen, hle, hf1]
    | some a => simp [Builtin.append_, run_underlying (und_slice hu), run_underlying (und_slice hu1), run_sizeOf hs, hlen, hle, hf1, hst]
  · have h63' : ¬ (9223372036854775807 < ((len : Int) + (n : Int))) := by omega
    have hng : ¬ (len + n ≤ cap) := by omega
    have h48' : ¬ (281474976710656 < Builtin.nextslicecap (len + n) cap * nbs) := by have := growslice_fits hlt hb1; omega
    simp [Builtin.append_, run_underlying (und_slice hu), run_underlying (und_slice hu1), sizeOf, typeInfo, zeroValue, hi, hzi, hsi, hbi, hlen, hng, h63', h48', Question.forced, hf2, hold, newRow, grownCap]
    congr 2
    apply Array.ext'
    simp [List.append_assoc]

theorem srcRuns_string {P : Program} {e t1 : TypeId} {str : ByteArray} {W : World → Prop} (hu1 : und P t1 = .str) : SrcRuns P e t1 (.string str) str.size (str.data.toList.map u8V) W := by
  refine ⟨fun t ty s nbs base len cap w z hW hu hs hn hz hb => ?_⟩
  obtain ⟨hb1, hb2⟩ := bound_need hb
  obtain ⟨i, hi, hbi, hti⟩ := run_typeBytes hn w
  have hsi : i.size = s := by unfold sz at hs; rw [hi] at hs; simpa using hs
  have hzi : i.zero = some z := by unfold zeroV at hz; rw [hi] at hz; exact hz
  have hf : ∀ w, (Builtin.firstCells s str.size (.string str)).run P w = .ok (str.data.toList.map u8V).toArray w := fun w => Lib.run_firstCells_string w s str
  refine ⟨fun hle w' hst => ?_, fun hlt olds hold => ?_⟩
  · cases base with
    | none => subst hst; simp [Builtin.append_, run_underlying (und_slice hu), run_underlying (und_str hu1), run_sizeOf hs, Builtin.lenOf, hle, hf]
    | some a =>
      have hst' : (storeCells (a.add (len * s)) (str.data.toList.map u8V)).run P w = .ok () w' := hst
      simp [Builtin.append_, run_underlying (und_slice hu), run_underlying (und_str hu1), run_sizeOf hs, Builtin.lenOf, hle, hf, hst']
  · have h63' : ¬ (9223372036854775807 < ((len : Int) + (str.size : Int))) := by omega
    have hng : ¬ (len + str.size ≤ cap) := by omega
    have h48' : ¬ (281474976710656 < Builtin.nextslicecap (len + str.size) cap * nbs) := by have := growslice_fits hlt hb1; omega
    simp [Builtin.append_, run_underlying (und_slice hu), run_underlying (und_str hu1), sizeOf, typeInfo, zeroValue, hi, hzi, hsi, hbi, Builtin.lenOf, hng, h63', h48', Question.forced, hf, hold, newRow, grownCap]
    congr 2
    apply Array.ext'
    simp [List.append_assoc]

theorem srcRuns_zeros {P : Program} {e t1 : TypeId} {k kk : IntKind} {l : Int} {z : Value} {W : World → Prop} (hu1 : und P t1 = .int kk) (h0 : 0 ≤ l) (hl : l ≤ 1099511627776) (hz0 : zeroV P e = some z) (hzs : ∀ s, sz P e = some s → (cellsV z).length = s) :
    SrcRuns P e t1 (.int k l) l.toNat (zeros (cellsV z) l.toNat) W := by
  refine ⟨fun t ty s nbs base len cap w z' hW hu hs hn hz hb => ?_⟩
  rw [hz0] at hz
  cases hz
  obtain ⟨hb1, hb2⟩ := bound_need hb
  obtain ⟨i, hi, hbi, hti⟩ := run_typeBytes hn w
  have hsi : i.size = s := by unfold sz at hs; rw [hi] at hs; simpa using hs
  have hzi : i.zero = some z := by unfold zeroV at hz0; rw [hi] at hz0; exact hz0
  have wl : IntKind.i64.wrap l = l := by rw [IntKind.wrap_i64]; omega
  have n1 : ¬ l < 0 := by omega
  have hbl : l.toNat * nbs ≤ 140737488355328 := Nat.le_trans (Nat.mul_le_mul_right nbs (by omega)) hb1
  have n2 : ¬ (281474976710656 < l * (nbs : Int)) := by
    have : l * (nbs : Int) = ((l.toNat * nbs : Nat) : Int) := by rw [Int.natCast_mul, Int.toNat_of_nonneg h0]
    omega
  have hzc : Builtin.zeroCells z.cells l.toNat = (zeros (cellsV z) l.toNat).toArray := by
    apply Array.ext'
    rw [zeroCells_zeros, cells_toList]
  have hempty : l.toNat * s = 0 → zeros (cellsV z) l.toNat = [] := fun h => by
    apply List.eq_nil_of_length_eq_zero
    rw [zeros_length, hzs s hs, h]
  refine ⟨fun hle w' hst => ?_, fun hlt olds hold => ?_⟩
  · by_cases hz2 : l.toNat * s = 0
    · have he := hempty hz2
      rw [he] at hst
      cases base with
      | none => subst hst; simp [Builtin.append_, run_underlying (und_slice hu), run_underlying (und_int hu1), sizeOf, typeInfo, zeroValue, hi, hzi, hbi, asInt, asIntOf, wl, n1, n2, hle]
      | some a =>
        have hst' : (storeCells (a.add (len * s)) []).run P w = .ok () w' := hst
        simp [Builtin.append_, run_underlying (und_slice hu), run_underlying (und_int hu1), sizeOf, typeInfo, zeroValue, hi, hzi, hsi, hbi, asInt, asIntOf, wl, n1, n2, hle, hz2, hst']
    · cases base with
      | none => subst hst; simp [Builtin.append_, run_underlying (und_slice hu), run_underlying (und_int hu1), sizeOf, typeInfo, zeroValue, hi, hzi, hbi, asInt, asIntOf, wl, n1, n2, hle]
      | some a =>
        have hst' : (storeCells (a.add (len * s)) (zeros (cellsV z) l.toNat)).run P w = .ok () w' := hst
        simp [Builtin.append_, run_underlying (und_slice hu), run_underlying (und_int hu1), sizeOf, typeInfo, zeroValue, hi, hzi, hsi, hbi, asInt, asIntOf, wl, n1, n2, hle, hz2, hzc, hst']
  · have h63' : ¬ (9223372036854775807 < ((len : Int) + max l 0)) := by omega
    have hng : ¬ (len + l.toNat ≤ cap) := by omega
    have h48' : ¬ (281474976710656 < Builtin.nextslicecap (len + l.toNat) cap * nbs) := by have := growslice_fits hlt hb1; omega
    by_cases hz2 : l.toNat * s = 0
    · have he := hempty hz2
      rw [he]
      simp [Builtin.append_, run_underlying (und_slice hu), run_underlying (und_int hu1), sizeOf, typeInfo, zeroValue, hi, hzi, hsi, hbi, asInt, asIntOf, wl, n1, n2, hng, h63', h48', Question.forced, hold, newRow, grownCap, hz2]
    · simp [Builtin.append_, run_underlying (und_slice hu), run_underlying (und_int hu1), sizeOf, typeInfo, zeroValue, hi, hzi, hsi, hbi, asInt, asIntOf, wl, n1, n2, hng, h63', h48', Question.forced, hold, newRow, grownCap, hz2, hzc]
      congr 2
      apply Array.ext'
      simp [List.append_assoc]

theorem srcOf_runs {P : Program} {e t1 : TypeId} {x : Value} {n : Nat} {ys : List Value} {H : Heap} {W0 : World} (h : srcOf P e t1 x H = some (n, ys)) :
    SrcRuns P e t1 x n ys (fun w => Sat W0 w H) ∨ (∃ z s, zeroV P e = some z ∧ sz P e = some s ∧ (cellsV z).length ≠ s) := by
  unfold srcOf at h
  split at h
  case h_2 => cases h
  rename_i s z hs hz
  split at h
  · rename_i e1 c hu1
    simp only [Option.some.injEq, Prod.mk.injEq] at h
    obtain ⟨rfl, rfl⟩ := h
    exact .inl (srcRuns_slice hu1 (fun w => by simp [Builtin.lenOf]) (fun s w _ _ => by simp [Builtin.firstCells]))
  · rename_i e1 b o m c hu1
    cases hr : rdN H b o (m * s) with
    | none => rw [hr] at h; cases h
    | some xs =>
      rw [hr] at h
      simp only [Option.map_some, Option.some.injEq, Prod.mk.injEq] at h
      obtain ⟨rfl, rfl⟩ := h
      refine .inl (srcRuns_slice hu1 (fun w => by simp [Builtin.lenOf]) (fun s' w hs' hW => ?_))
      rw [hs] at hs'
      cases hs'
      obtain ⟨hrg, hl⟩ := rdN_range hW hr
      obtain ⟨hrg', _⟩ := rdN_range (hW.drawn (w.drawn + 1)) hr
      exact ⟨run_firstCells_some w s m ⟨b, o, none⟩ m c xs hl (fun j v hv => by rw [Addr.add_mid]; exact hrg j v hv),
        run_firstCells_some w.drew s m ⟨b, o, none⟩ m c xs hl (fun j v hv => by rw [Addr.add_mid]; exact hrg' j v hv)⟩
  · rename_i e1 b o y c hu1
    simp only [Option.some.injEq, Prod.mk.injEq] at h
    obtain ⟨rfl, rfl⟩ := h
    exact .inl (srcRuns_slice hu1 (fun w => by simp [Builtin.lenOf]) (fun s w _ _ => by simp [Builtin.firstCells, loadCells, loadCellsFrom]))
  · rename_i str hu1
    split at h
    · simp only [Option.some.injEq, Prod.mk.injEq] at h
      obtain ⟨rfl, rfl⟩ := h
      exact .inl (srcRuns_string hu1)
    · cases h
  · rename_i kk k l hu1
    split at h
    · rename_i hl
      simp only [Option.some.injEq, Prod.mk.injEq] at h
      obtain ⟨rfl, rfl⟩ := h
      by_cases hzs : (cellsV z).length = s
      · exact .inl (srcRuns_zeros hu1 hl.1 hl.2 hz (fun s' hs' => by rw [hs] at hs'; cases hs'; exact hzs))
      · exact .inr ⟨z, s, hz, hs, hzs⟩
    · cases h
  · cases h

def eApp0 (P : Program) (t t1 : TypeId) (v x : Value) (H : Heap) (K : Kont) : Prop :=
  match und P t, v with
  | .slice e, .slice a len cap => match sz P e, nb P e, zeroV P e, srcOf P e t1 x H with
    | some s, some nbs, some z, some (n, ys) =>
      ((cellsV z).length = s ∧ 0 < s ∧ ys.length = n * s ∧ ys.all (·.oneCell') = true ∧ len ≤ cap ∧ (len + n) * (nbs + 1) ≤ 35184372088832) ∧
      (n = 0 → K v H) ∧
      (n ≠ 0 → match a with
        | none => (len = 0 ∧ cap = 0) ∧ ∀ b cap' room, H b = none → n ≤ cap' → cap' * s = n * s + room → K (.slice (some ⟨b, 0, none⟩) n cap') (upd H b (.row true 0 ys room))
        | some ⟨b, o, none⟩ => match H b with
          | some (.row true off vs room) => (off ≤ o ∧ o - off + len * s ≤ vs.length ∧ o - off + cap * s ≤ vs.length + room) ∧
              ∀ b' o' cap' room', dele H b b' = none → len + n ≤ cap' → cap' * s ≤ (len + n) * s + room' →
                K (.slice (some ⟨b', o', none⟩) (len + n) cap') (upd (dele H b) b' (.row true o' ((vs.drop (o - off)).take (len * s) ++ ys) room'))
          | _ => False
        | _ => False)
    | _, _, _, _ => False
  | _, _ => False

theorem eApp0_ok {P : Program} {W0 w : World} {H : Heap} {K : Kont} {t t1 ty : TypeId} {v x : Value} (h : Sat W0 w H) (he : eApp0 P t t1 v x H K) :
    StepOk P W0 K ((do pure (Next.value (← Builtin.append_ #[t, t1] ty #[v, x])) : Sem Next).run P w) := by
  unfold eApp0 at he
  split at he
  case h_2 => exact he.elim
  rename_i e a len cap hu
  split at he
  case h_2 => exact he.elim
  rename_i s nbs z n ys hs hn hz hsrc
  obtain ⟨⟨h1, h2, h3, h4, h5, h6⟩, hk0, hk1⟩ := he
  rcases srcOf_runs (W0 := W0) hsrc with hsr | ⟨z', s', hz', hs', hne⟩
  case inr => rw [hz] at hz'; rw [hs] at hs'; cases hz'; cases hs'; exact absurd h1 hne
  have hrun := hsr.is t ty s nbs a len cap w z h hu hs hn hz h6
  have hone : ∀ u ∈ ys, u.oneCell' = true := fun u hu => (List.all_eq_true.1 h4) u hu
  have hzs : z.cells.size = s := by rw [← h1, ← cells_toList]; simp
  by_cases hn0 : n = 0
  · subst hn0
    have hys : ys = [] := List.eq_nil_of_length_eq_zero (by simpa using h3)
    subst hys
    have hr := hrun.1 (by omega) w (by cases a <;> first | rfl | (simp [storeCells]; done))
    simp only [Nat.add_zero] at hr
    simp only [Sem.run_bind, hr, Result.andThen_ok, Sem.run_pure, StepOk]
    exact ⟨_, hk0 rfl, h⟩
  · have hk := hk1 hn0
    split at hk
    · -- nil: a new row
      obtain ⟨⟨rfl, rfl⟩, hk⟩ := hk
      have hr := hrun.2 (by omega) [] (by simp [Builtin.firstCells])
      simp only [Nat.zero_add] at hr
      have hge := grownCap_ge w n 0 e
      simp only [Sem.run_bind, hr, Result.andThen_ok, Sem.run_pure, StepOk]
      refine ⟨_, hk w.heap.size (grownCap w n 0 e) ((grownCap w n 0 e - n) * s) h.fresh hge (by rw [← Nat.add_mul]; congr 1; omega), ?_⟩
      refine (h.drawn (w.drawn + 1)).newRow (w := w.drew) _ e ys _ (fun j u hu => ?_) ?_
      · rw [show ([] : List Value).toArray = #[] from rfl, Array.empty_append, Array.getElem?_append_left (by simpa using (List.getElem?_eq_some_iff.1 hu).1)]
        simpa using hu
      · simp [size_zeroCells, hzs]
    · rename_i b o
      split at hk
      case h_2 => exact hk.elim
      rename_i off vs room hb
      obtain ⟨⟨g1, g2, g3⟩, hk⟩ := hk
      have hrep : RowRep W0.heap.size w b true off vs room := h.rep b _ hb
      obtain ⟨hB, ht⟩ := hrep.mine rfl
      have hcl : ((vs.drop (o - off)).take (len * s)).length = len * s := by simp; omega
      by_cases hle : len + n ≤ cap
      · -- there is room
        have hle' : len * s + n * s ≤ cap * s := by rw [← Nat.add_mul]; exact Nat.mul_le_mul_right s hle
        have hst := run_storeCells_cells (P := P) b (o + len * s) ys 0 w
          (fun j hj => by
            have := (ht (o - off + len * s + j) (by omega)).1
            rwa [show off + (o - off + len * s + j) = o + len * s + 0 + j by omega] at this)
          (fun j hj => by
            have := (ht (o - off + len * s + j) (by omega)).2
            rwa [show off + (o - off + len * s + j) = o + len * s + 0 + j by omega] at this)
          hone
        simp only [Nat.add_zero] at hst
        have hr := hrun.1 hle (w.setCells b (o + len * s) ys) (by simpa [Addr.add_mid] using hst)
        simp only [Sem.run_bind, hr, Result.andThen_ok, Sem.run_pure, StepOk]
        refine ⟨_, hk b o cap (vs.length + room - (o - off) - (len * s + n * s)) (dele_same H b) hle (by rw [Nat.add_mul]; omega), ?_⟩
        rw [upd_dele]
        have hw := h.write hb (o - off + len * s) ys (by omega) (by omega)
        rw [show off + (o - off + len * s) = o + len * s by omega] at hw
        refine ⟨hw.below, fun i p hp => ?_⟩
        by_cases hi : i = b
        · subst hi
          rw [upd_same] at hp
          cases hp
          have hrow : RowRep W0.heap.size (w.setCells i (o + len * s) ys) i true off (splice vs (o - off + len * s) ys) (vs.length + room - (splice vs (o - off + len * s) ys).length) := hw.rep i _ (upd_same _ _ _)
          obtain ⟨_, ht'⟩ := hrow.mine rfl
          have hsl : (splice vs (o - off + len * s) ys).length ≤ vs.length + room := by simp [splice]; omega
          refine ⟨hrow.lt, fun j u hu => ?_, fun _ => ⟨hB, fun j hj => ?_⟩⟩
          · have := hrow.range (o - off + j) u (by
              unfold splice
              by_cases hj : j < len * s
              · rw [List.getElem?_append_left (by rw [hcl]; exact hj), List.getElem?_take_of_lt hj, List.getElem?_drop] at hu
                rw [List.append_assoc, List.getElem?_append_left (by simp; omega), List.getElem?_take_of_lt (by omega)]
                exact hu
              · rw [List.getElem?_append_right (by rw [hcl]; omega), hcl] at hu
                have hjy : j - len * s < ys.length := (List.getElem?_eq_some_iff.1 hu).1
                rw [List.append_assoc, List.getElem?_append_right (by simp; omega)]
                simp only [List.length_take, Nat.min_eq_left (show o - off + len * s ≤ vs.length by omega)]
                rw [List.getElem?_append_left (by omega), ← hu]
                congr 1
                omega)
            rwa [show off + (o - off + j) = o + j by omega] at this
          · simp only [List.length_append, hcl, h3] at hj
            have := ht' (o - off + j) (by omega)
            rwa [show off + (o - off + j) = o + j by omega] at this
        · rw [upd_ne _ _ hi] at hp
          exact hw.rep i p (by rw [upd_ne _ _ hi]; exact hp)
      · -- a new row
        have hrd : rdN H b o (len * s) = some ((vs.drop (o - off)).take (len * s)) := by
          unfold rdN
          by_cases h0 : len * s = 0
          · simp [h0]
          · rw [if_neg h0, hb]
            simp only
            rw [if_pos ⟨g1, g2⟩]
        obtain ⟨hrg, hl⟩ := rdN_range (h.drawn (w.drawn + 1)) hrd
        have hold := run_firstCells_some (P := P) w.drew s len ⟨b, o, none⟩ len cap _ hl (fun j u hu => by rw [Addr.add_mid]; exact hrg j u hu)
        have hr := hrun.2 (by omega) _ hold
        have hge := grownCap_ge w (len + n) cap e
        simp only [Sem.run_bind, hr, Result.andThen_ok, Sem.run_pure, StepOk]
        have hfr : dele H b w.heap.size = none := by unfold dele; split <;> first | rfl | exact h.fresh
        refine ⟨_, hk w.heap.size 0 (grownCap w (len + n) cap e) ((grownCap w (len + n) cap e - (len + n)) * s) hfr hge (by rw [← Nat.add_mul]; exact Nat.mul_le_mul_right s (by omega)), ?_⟩
        refine ((h.le (dele_le H b)).drawn (w.drawn + 1)).newRow (w := w.drew) _ e _ _ (fun j u hu => ?_) ?_
        · rw [Array.getElem?_append_left (by simpa using (List.getElem?_eq_some_iff.1 hu).1)]
          simpa using hu
        · simp [size_zeroCells, hzs]
    · exact hk.elim

/-- append where there is room: it is written in place. -/
def eAppIn (P : Program) (t t1 : TypeId) (v x : Value) (H : Heap) (K : Kont) : Prop :=
  match und P t, v with
  | .slice e, .slice (some ⟨b, o, none⟩) len cap => match sz P e, nb P e, zeroV P e, srcOf P e t1 x H with
    | some s, some nbs, some z, some (n, ys) => match H b with
      | some (.row true off vs room) =>
        ((cellsV z).length = s ∧ 0 < s ∧ ys.length = n * s ∧ ys.all (·.oneCell') = true ∧ len + n ≤ cap ∧ (len + n) * (nbs + 1) ≤ 35184372088832 ∧ off ≤ o ∧ o - off + (len + n) * s ≤ vs.length) ∧
          K (.slice (some ⟨b, o, none⟩) (len + n) cap) (upd H b (.row true off (splice vs (o - off + len * s) ys) room))
      | _ => False
    | _, _, _, _ => False
  | _, _ => False
theorem eAppIn_ok {P : Program} {W0 w : World} {H : Heap} {K : Kont} {t t1 ty : TypeId} {v x : Value} (h : Sat W0 w H) (he : eAppIn P t t1 v x H K) :
    StepOk P W0 K ((do pure (Next.value (← Builtin.append_ #[t, t1] ty #[v, x])) : Sem Next).run P w) := by
  unfold eAppIn at he
  split at he
  case h_2 => exact he.elim
  rename_i e b o len cap hu
  split at he
  case h_2 => exact he.elim
  rename_i s nbs z n ys hs hn hz hsrc
  split at he
  case h_2 => exact he.elim
  rename_i off vs room hb
  obtain ⟨⟨h1, h2, h3, h4, h5, h6, g1, g2⟩, hk⟩ := he
  rcases srcOf_runs (W0 := W0) hsrc with hsr | ⟨z', s', hz', hs', hne⟩
  case inr => rw [hz] at hz'; rw [hs] at hs'; cases hz'; cases hs'; exact absurd h1 hne
  have hrun := hsr.is t ty s nbs (some ⟨b, o, none⟩) len cap w z h hu hs hn hz h6
  have hone : ∀ u ∈ ys, u.oneCell' = true := fun u hu => (List.all_eq_true.1 h4) u hu
  have hrep : RowRep W0.heap.size w b true off vs room := h.rep b _ hb
  obtain ⟨hB, ht⟩ := hrep.mine rfl
  rw [Nat.add_mul] at g2
  have hst := run_storeCells_cells (P := P) b (o + len * s) ys 0 w
    (fun j hj => by
      have := (ht (o - off + len * s + j) (by omega)).1
      rwa [show off + (o - off + len * s + j) = o + len * s + 0 + j by omega] at this)
    (fun j hj => by
      have := (ht (o - off + len * s + j) (by omega)).2
      rwa [show off + (o - off + len * s + j) = o + len * s + 0 + j by omega] at this)
    hone
  simp only [Nat.add_zero] at hst
  have hr := hrun.1 h5 (w.setCells b (o + len * s) ys) (by simpa [Addr.add_mid] using hst)
  simp only [Sem.run_bind, hr, Result.andThen_ok, Sem.run_pure, StepOk]
  have hw := h.write hb (o - off + len * s) ys (by omega) (by omega)
  rw [show off + (o - off + len * s) = o + len * s by omega] at hw
  rw [show vs.length + room - (splice vs (o - off + len * s) ys).length = room by rw [splice_length _ _ _ (by omega)]; omega] at hw
  exact ⟨_, hk, hw⟩
/-- append where there is no room: a new row; what was there stays. -/
def eAppNew (P : Program) (t t1 : TypeId) (v x : Value) (H : Heap) (K : Kont) : Prop :=
  ∃ e b o len cap s nbs z n ys xs, und P t = .slice e ∧ v = .slice (some ⟨b, o, none⟩) len cap ∧ sz P e = some s ∧ nb P e = some nbs ∧ zeroV P e = some z ∧ srcOf P e t1 x H = some (n, ys) ∧ rdN H b o (len * s) = some xs ∧
    ((cellsV z).length = s ∧ 0 < s ∧ ys.length = n * s ∧ ys.all (·.oneCell') = true ∧ len ≤ cap ∧ cap < len + n ∧ (len + n) * (nbs + 1) ≤ 35184372088832) ∧
    ∀ b' cap' room, H b' = none → len + n ≤ cap' → cap' * s = (len + n) * s + room → K (.slice (some ⟨b', 0, none⟩) (len + n) cap') (upd H b' (.row true 0 (xs ++ ys) room))
theorem eAppNew_ok {P : Program} {W0 w : World} {H : Heap} {K : Kont} {t t1 ty : TypeId} {v x : Value} (h : Sat W0 w H) (he : eAppNew P t t1 v x H K) :
    StepOk P W0 K ((do pure (Next.value (← Builtin.append_ #[t, t1] ty #[v, x])) : Sem Next).run P w) := by
  obtain ⟨e, b, o, len, cap, s, nbs, z, n, ys, xs, hu, rfl, hs, hn, hz, hsrc, hrd, ⟨h1, h2, h3, h4, h5, h5', h6⟩, hk⟩ := he
  rcases srcOf_runs (W0 := W0) hsrc with hsr | ⟨z', s', hz', hs', hne⟩
  case inr => rw [hz] at hz'; rw [hs] at hs'; cases hz'; cases hs'; exact absurd h1 hne
  have hrun := hsr.is t ty s nbs (some ⟨b, o, none⟩) len cap w z h hu hs hn hz h6
  have hzs : z.cells.size = s := by rw [← h1, ← cells_toList]; simp
  obtain ⟨hrg, hl⟩ := rdN_range (h.drawn (w.drawn + 1)) hrd
  have hold := run_firstCells_some (P := P) w.drew s len ⟨b, o, none⟩ len cap _ hl (fun j u hu => by rw [Addr.add_mid]; exact hrg j u hu)
  have hr := hrun.2 (by omega) _ hold
  have hge := grownCap_ge w (len + n) cap e
  simp only [Sem.run_bind, hr, Result.andThen_ok, Sem.run_pure, StepOk]
  refine ⟨_, hk w.heap.size (grownCap w (len + n) cap e) ((grownCap w (len + n) cap e - (len + n)) * s) h.fresh hge (by rw [← Nat.add_mul]; congr 1; omega), ?_⟩
  refine (h.drawn (w.drawn + 1)).newRow (w := w.drew) _ e _ _ (fun j u hu => ?_) ?_
  · rw [Array.getElem?_append_left (by simpa using (List.getElem?_eq_some_iff.1 hu).1)]
    simpa using hu
  · simp [size_zeroCells, hzs]
def eApp (P : Program) (t t1 : TypeId) (v x : Value) (H : Heap) (K : Kont) : Prop := eApp0 P t t1 v x H K ∨ eAppIn P t t1 v x H K ∨ eAppNew P t t1 v x H K
theorem eApp_ok {P : Program} {W0 w : World} {H : Heap} {K : Kont} {t t1 ty : TypeId} {v x : Value} (h : Sat W0 w H) (he : eApp P t t1 v x H K) :
    StepOk P W0 K ((do pure (Next.value (← Builtin.append_ #[t, t1] ty #[v, x])) : Sem Next).run P w) := by
  rcases he with he | he | he
  · exact eApp0_ok h he
  · exact eAppIn_ok h he
  · exact eAppNew_ok h he

/-! ### clear -/
def eClear (P : Program) (t : TypeId) (v : Value) (H : Heap) (K : Kont) : Prop :=
  match und P t, v with
  | .slice e, .slice a len _ => match zeroV P e, sz P e with
    | some z, some s => ((cellsV z).length = s ∧ (cellsV z).all (·.oneCell') = true) ∧ (len = 0 → K (.tuple #[]) H) ∧ (len ≠ 0 → match a with
      | some ⟨b, o, none⟩ => match H b with
        | some (.row true off vs room) => (off ≤ o ∧ o - off + len * s ≤ vs.length) ∧ K (.tuple #[]) (upd H b (.row true off (splice vs (o - off) (zeros (cellsV z) len)) room))
        | _ => False
      | _ => False)
    | _, _ => False
  | .map _ _, .map (some r) => match H r with
    | some (.map es) => K (.tuple #[]) (upd H r (.mapG es.length []))
    | some (.mapG ck es) => K (.tuple #[]) (upd H r (.mapG ck []))
    | _ => False
  | _, _ => False
theorem clearMap_ok {P : Program} {W0 w : World} {H : Heap} {K : Kont} {t ty k e : TypeId} {r ck : Nat} {ents : Array MapEntry} (h : Sat W0 w H) (hu : und P t = .map k e) (hB : W0.heap.size ≤ r) (hb : w.heap[r]? = some (.map ents ck)) (hK : K (.tuple #[]) (upd H r (.mapG ck []))) :
    StepOk P W0 K ((do pure (Next.value (← Builtin.clear_ #[t] ty #[.map (some r)])) : Sem Next).run P w) := by
  have hlt : r < w.heap.size := (Array.getElem?_eq_some_iff.1 hb).1
  have hg : (getObj r).run P w = .ok (.map ents ck) w := by simp [getObj, Sem.run, hb]
  have hs : (setObj r (.map #[] ck)).run P w = .ok () { w with heap := w.heap.setIfInBounds r (.map #[] ck) } := by simp [setObj, Sem.run, hb]
  have hr : (Builtin.clear_ #[t] ty #[.map (some r)]).run P w = .ok (.tuple #[]) { w with heap := w.heap.setIfInBounds r (.map #[] ck) } := by
    simp [Builtin.clear_, run_underlying (und_map hu), hg, hs, Result.andThen]
  simp only [Sem.run_bind, hr, Result.andThen_ok, Sem.run_pure, StepOk]
  exact ⟨_, hK, h.setObj hB hlt _ _ ⟨hB, ⟨#[], by simp [hlt], rfl⟩, fun e he => (by cases he), List.nodup_nil⟩⟩
theorem eClear_ok {P : Program} {W0 w : World} {H : Heap} {K : Kont} {t ty : TypeId} {v : Value} (h : Sat W0 w H) (he : eClear P t v H K) :
    StepOk P W0 K ((do pure (Next.value (← Builtin.clear_ #[t] ty #[v])) : Sem Next).run P w) := by
  unfold eClear at he
  split at he
  case h_3 => exact he.elim
  case h_2 k0 e0 r hu =>
    split at he
    case h_3 => exact he.elim
    case h_1 es hr =>
      have hm : MapRep _ _ _ _ := h.rep r _ hr
      obtain ⟨hB, ents, hb, hes, _⟩ := hm
      rw [show es.length = ents.size by rw [← hes]; simp] at he
      exact clearMap_ok h hu hB hb he
    case h_2 ck es hr =>
      have hm : MapGRep _ _ _ _ _ := h.rep r _ hr
      obtain ⟨hB, ⟨ents, hb, hes⟩, _, _⟩ := hm
      exact clearMap_ok h hu hB hb he
  rename_i e a len cap hu
  split at he
  case h_2 => exact he.elim
  rename_i z s hz hs
  obtain ⟨⟨h1, h4⟩, hk0, hk1⟩ := he
  cases len with
  | zero =>
    have hr : (Builtin.clear_ #[t] ty #[.slice a 0 cap]).run P w = .ok (.tuple #[]) w := by
      cases a <;> simp [Builtin.clear_, run_underlying (und_slice hu)]
    simp only [Sem.run_bind, hr, Result.andThen_ok, Sem.run_pure, StepOk]
    exact ⟨_, hk0 rfl, h⟩
  | succ m =>
    have hk := hk1 (by omega)
    split at hk
    case h_2 => exact hk.elim
    rename_i b o
    split at hk
    case h_2 => exact hk.elim
    rename_i off vs room hb
    obtain ⟨⟨g1, g2⟩, hk⟩ := hk
    have hrep : RowRep W0.heap.size w b true off vs room := h.rep b _ hb
    obtain ⟨hB, ht⟩ := hrep.mine rfl
    have hzl : (zeros (cellsV z) (m + 1)).length = (m + 1) * s := by rw [zeros_length, h1]
    have hone : ∀ u ∈ zeros (cellsV z) (m + 1), u.oneCell' = true := fun u hu => by
      unfold zeros at hu
      obtain ⟨l, hl, hul⟩ := List.mem_flatten.1 hu
      rw [List.eq_of_mem_replicate hl] at hul
      exact (List.all_eq_true.1 h4) u hul
    have hst := run_storeCells_cells (P := P) b o (zeros (cellsV z) (m + 1)) 0 w
      (fun j hj => by
        have := (ht (o - off + j) (by omega)).1
        rwa [show off + (o - off + j) = o + 0 + j by omega] at this)
      (fun j hj => by
        have := (ht (o - off + j) (by omega)).2
        rwa [show off + (o - off + j) = o + 0 + j by omega] at this)
      hone
    simp only [Nat.add_zero] at hst
    have hzc : (Builtin.zeroCells z.cells (m + 1)).toList = zeros (cellsV z) (m + 1) := by
      rw [zeroCells_zeros, cells_toList]
    have hr : (Builtin.clear_ #[t] ty #[.slice (some ⟨b, o, none⟩) (m + 1) cap]).run P w = .ok (.tuple #[]) (w.setCells b o (zeros (cellsV z) (m + 1))) := by
      simp [Builtin.clear_, run_underlying (und_slice hu), run_zeroValue hz, hzc, hst]
    have hw := h.write hb (o - off) (zeros (cellsV z) (m + 1)) (by omega) (by omega)
    rw [show off + (o - off) = o by omega] at hw
    rw [show vs.length + room - (splice vs (o - off) (zeros (cellsV z) (m + 1))).length = room by rw [splice_length _ _ _ (by omega)]; omega] at hw
    simp only [Sem.run_bind, hr, Result.andThen_ok, Sem.run_pure, StepOk]
    exact ⟨_, hk, hw⟩

/-! ### A slice of bytes to its own type: its block gets a mark, and is read only from then on. -/
def eConvB (P : Program) (s d e : TypeId) (x : Value) (H : Heap) (K : Kont) : Prop :=
  (s == d) = true ∧ und P e = .int .u8 ∧ match x with
    | .slice (some ⟨b, _, none⟩) _ _ => match H b with
      | some (.row true off vs _) => K x (upd H b (.row false off vs 0))
      | _ => False
    | _ => False
theorem freeze_ne (w : World) {b i : Nat} (hi : i ≠ b) (k : Nat) : (w.freeze ⟨b, k, none⟩ 1).heap[i]? = w.heap[i]? := by
  unfold World.freeze
  rw [if_neg (by decide)]
  simp only
  rw [Array.getElem?_modify, if_neg (Ne.symm hi)]
theorem freeze_size (w : World) (b k : Nat) : (w.freeze ⟨b, k, none⟩ 1).heap.size = w.heap.size := by
  unfold World.freeze
  rw [if_neg (by decide)]
  simp
theorem freeze_cell (w : World) (b k j : Nat) : (w.freeze ⟨b, k, none⟩ 1).cell? ⟨b, j, none⟩ = w.cell? ⟨b, j, none⟩ := by
  unfold World.freeze
  rw [if_neg (by decide)]
  unfold World.cell?
  simp only
  rw [Array.getElem?_modify, if_pos rfl]
  cases w.heap[b]? with
  | none => rfl
  | some o => cases o <;> rfl
theorem eConvB_ok {P : Program} {W0 w : World} {H : Heap} {K : Kont} {s d e e0 : TypeId} {x : Value} (h : Sat W0 w H) (hs : und P s = .slice e0) (hd : und P d = .slice e) (he : eConvB P s d e x H K) :
    StepOk P W0 K ((do pure (Next.value (← convert s d x)) : Sem Next).run P w) := by
  obtain ⟨hsd, hu, he⟩ := he
  split at he
  case h_2 => exact he.elim
  rename_i b o n c
  split at he
  case h_2 => exact he.elim
  rename_i off vs room hb
  have hrep : RowRep W0.heap.size w b true off vs room := h.rep b _ hb
  obtain ⟨hB, _⟩ := hrep.mine rfl
  obtain rfl : s = d := by simpa using hsd
  obtain rfl : e0 = e := by rw [hs] at hd; cases hd; rfl
  have hdown : Sat W0 w (upd H b (.row false off vs 0)) := ⟨h.below, fun i p hp => by
    by_cases hi : i = b
    · subst hi; rw [upd_same] at hp; cases hp
      exact ⟨hrep.lt, hrep.range, fun h0 => by cases h0⟩
    · rw [upd_ne _ _ hi] at hp; exact h.rep i p hp⟩
  cases hsh : w.shape? b with
  | none =>
    have hr : (convert s s (.slice (some ⟨b, o, none⟩) n c)).run P w = .ok (.slice (some ⟨b, o, none⟩) n c) w := by
      simp [convert, run_underlying (und_slice hs), run_underlying (und_slice hd), run_underlying (und_int hu), markStringish, hsh]
    simp only [Sem.run_bind, hr, Result.andThen_ok, Sem.run_pure, StepOk]
    exact ⟨_, he, hdown⟩
  | some q =>
    obtain ⟨ty, k⟩ := q
    have hr : (convert s s (.slice (some ⟨b, o, none⟩) n c)).run P w = .ok (.slice (some ⟨b, o, none⟩) n c) (w.freeze ⟨b, k, none⟩ 1) := by
      simp [convert, run_underlying (und_slice hs), run_underlying (und_slice hd), run_underlying (und_int hu), markStringish, hsh]
    simp only [Sem.run_bind, hr, Result.andThen_ok, Sem.run_pure, StepOk]
    refine ⟨_, he, ⟨⟨?_, ?_, ?_, ?_, ?_⟩, fun i p hp => ?_⟩⟩
    · rw [← h.below.os]; unfold World.freeze; rw [if_neg (by decide)]
    · rw [← h.below.tape]; unfold World.freeze; rw [if_neg (by decide)]
    · rw [← h.below.output]; unfold World.freeze; rw [if_neg (by decide)]
    · rw [freeze_size]; exact h.below.size
    · intro i hi
      rw [freeze_ne w (by omega)]; exact h.below.block i hi
    · by_cases hi : i = b
      · subst hi
        rw [upd_same] at hp
        cases hp
        exact ⟨by rw [freeze_size]; exact hrep.lt, fun j v hv => by rw [freeze_cell]; exact hrep.range j v hv, fun h0 => by cases h0⟩
      · rw [upd_ne _ _ hi] at hp
        exact (h.rep i p hp).of_block (by rw [freeze_size]; exact Nat.le_refl _) (freeze_ne w hi k)

/-! ### copy -/
def eCopy (P : Program) (t t1 : TypeId) (v x : Value) (H : Heap) (K : Kont) : Prop :=
  match und P t, v with
  | .slice e, .slice a dn _ => match sz P e, srcOf P e t1 x H with
    | some s, some (n, ys) => (und P t1 ≠ .int .i64 ∧ ys.length = n * s ∧ ys.all (·.oneCell') = true) ∧ (match x with | .int _ _ => False | _ => True) ∧
      match a with
      | none => dn = 0 ∧ K (.int .i64 0) H
      | some ⟨b, o, none⟩ => match H b with
        | some (.row true off vs room) => (off ≤ o ∧ o - off + dn * s ≤ vs.length) ∧
            K (.int .i64 (min n dn : Nat)) (upd H b (.row true off (splice vs (o - off) (ys.take (min n dn * s))) room))
        | _ => False
      | _ => False
    | _, _ => False
  | _, _ => False

theorem eCopy_ok {P : Program} {W0 w : World} {H : Heap} {K : Kont} {t t1 ty : TypeId} {v x : Value} (h : Sat W0 w H) (he : eCopy P t t1 v x H K) :
    StepOk P W0 K ((do pure (Next.value (← Builtin.copy_ #[t, t1] ty #[v, x])) : Sem Next).run P w) := by
  unfold eCopy at he
  split at he
  case h_2 => exact he.elim
  rename_i e a dn dc hu
  split at he
  case h_2 => exact he.elim
  rename_i s n ys hs hsrc
  obtain ⟨⟨_, h3, h4⟩, hni, he⟩ := he
  have hlen : (Builtin.lenOf x).run P w = .ok n w ∧ ∀ m, m ≤ n → (Builtin.firstCells s m x).run P w = .ok (ys.take (m * s)).toArray w := by
    unfold srcOf at hsrc
    split at hsrc
    case h_2 => cases hsrc
    rename_i s' z hs' hz
    rw [hs] at hs'
    cases hs'
    split at hsrc
    · simp only [Option.some.injEq, Prod.mk.injEq] at hsrc
      obtain ⟨rfl, rfl⟩ := hsrc
      exact ⟨by simp [Builtin.lenOf], fun m hm => by simp [Builtin.firstCells]⟩
    · rename_i e1 b o m c hu1
      cases hr : rdN H b o (m * s) with
      | none => rw [hr] at hsrc; cases hsrc
      | some xs =>
        rw [hr] at hsrc
        simp only [Option.map_some, Option.some.injEq, Prod.mk.injEq] at hsrc
        obtain ⟨rfl, rfl⟩ := hsrc
        obtain ⟨hrg, hl⟩ := rdN_range h hr
        refine ⟨by simp [Builtin.lenOf], fun k hk => ?_⟩
        have hks : k * s ≤ m * s := Nat.mul_le_mul_right s hk
        exact run_firstCells_some w s k ⟨b, o, none⟩ m c _ (by simp; omega) (fun j v hv => by
          rw [Addr.add_mid]
          rw [List.getElem?_take] at hv
          split at hv
          · exact hrg j v hv
          · cases hv)
    · rename_i e1 b o y c hu1
      simp only [Option.some.injEq, Prod.mk.injEq] at hsrc
      obtain ⟨rfl, rfl⟩ := hsrc
      refine ⟨by simp [Builtin.lenOf], fun m hm => ?_⟩
      obtain rfl : m = 0 := by omega
      simp [Builtin.firstCells, loadCells, loadCellsFrom]
    · rename_i str hu1
      split at hsrc
      · rename_i h1
        simp only [Option.some.injEq, Prod.mk.injEq] at hsrc
        obtain ⟨rfl, rfl⟩ := hsrc
        refine ⟨by simp [Builtin.lenOf], fun m hm => ?_⟩
        simp only [Builtin.firstCells, Sem.run_pure, h1, Nat.mul_one]
        congr 1
        apply Array.ext'
        simp only [Array.toList_map, ByteArray.data_extract, Array.toList_extract, List.extract, Nat.sub_zero, List.drop_zero, List.map_take]
        rfl
      · cases hsrc
    · exact hni.elim
    · cases hsrc
  obtain ⟨hlen, hfirst⟩ := hlen
  cases a with
  | none =>
    obtain ⟨rfl, hk⟩ := he
    have hf := hfirst 0 (by omega)
    simp only [Nat.zero_mul, List.take_zero] at hf
    have hr : (Builtin.copy_ #[t, t1] ty #[.slice none 0 dc, x]).run P w = .ok (.int .i64 0) w := by
      simp [Builtin.copy_, run_underlying (und_slice hu), run_sizeOf hs, hlen, hf, goInt]
    simp only [Sem.run_bind, hr, Result.andThen_ok, Sem.run_pure, StepOk]
    exact ⟨_, hk, h⟩
  | some a =>
    obtain ⟨b, o, sp⟩ := a
    cases sp with
    | some sp => exact he.elim
    | none =>
      simp only at he
      split at he
      case h_2 => exact he.elim
      rename_i off vs room hb
      obtain ⟨⟨g1, g2⟩, hk⟩ := he
      have hf := hfirst (min n dn) (by omega)
      have hrep : RowRep W0.heap.size w b true off vs room := h.rep b _ hb
      obtain ⟨hB, ht⟩ := hrep.mine rfl
      have hm : min n dn * s ≤ dn * s := Nat.mul_le_mul_right s (by omega)
      have hst := run_storeCells_cells (P := P) b o (ys.take (min n dn * s)) 0 w
        (fun j hj => by
          simp only [List.length_take] at hj
          have := (ht (o - off + j) (by omega)).1
          rwa [show off + (o - off + j) = o + 0 + j by omega] at this)
        (fun j hj => by
          simp only [List.length_take] at hj
          have := (ht (o - off + j) (by omega)).2
          rwa [show off + (o - off + j) = o + 0 + j by omega] at this)
        (fun u hu => (List.all_eq_true.1 h4) u (List.mem_of_mem_take hu))
      simp only [Nat.add_zero] at hst
      have hr : (Builtin.copy_ #[t, t1] ty #[.slice (some ⟨b, o, none⟩) dn dc, x]).run P w = .ok (.int .i64 (min n dn : Nat)) (w.setCells b o (ys.take (min n dn * s))) := by
        simp [Builtin.copy_, run_underlying (und_slice hu), run_sizeOf hs, hlen, hf, hst, goInt]
      have hw := h.write hb (o - off) (ys.take (min n dn * s)) (by omega) (by simp only [List.length_take]; omega)
      rw [show off + (o - off) = o by omega] at hw
      rw [show vs.length + room - (splice vs (o - off) (ys.take (min n dn * s))).length = room by rw [splice_length _ _ _ (by simp only [List.length_take]; omega)]; omega] at hw
      simp only [Sem.run_bind, hr, Result.andThen_ok, Sem.run_pure, StepOk]
      exact ⟨_, hk, hw⟩

end Go.Proofs.YtfpighmafofoeaaDoor.GL
