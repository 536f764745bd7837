/- Layer 20: the reference's book in memory; at, Get.; Layer 20: the reference's Out, Loads, Cassettes, Get, Open.; Layer 20: the reference's Open.; Layer 20: what the reference does to its list is what the plain book does.; Layer 20: the reference's book changed.; Layer 20: a terminal of the reference gets another set. -/
import Derived.Test.YtfpighmafofoeaaGreatDoorBqY
namespace Go.Proofs.YtfpighmafofoeaaGreatDoor.GL
open Go Go.RowKit
open St (Txn txnL txnV zeroT RightT OkT stepF Rec recV RightR pairV)
open Ca (S4 flat setV OkS giveE giveT loadE loadT notesV)
set_option maxRecDepth 10000
set_option pp.deepTerms.threshold 8
set_option pp.maxSteps 3000
set_option linter.unusedSimpArgs false
set_option linter.unusedVariables false

/-- A terminal of the reference: its set lies in a block of its own. -/
abbrev Tp := Tm × Nat
def tpL (x : Tp) : List Value := [.pointer (some ⟨x.2, 0, none⟩), .bool x.1.out, .int .i64 x.1.ld]
theorem tp3 (x : Tp) : (tpL x).length = 3 := rfl
theorem tp1 (x : Tp) : (tpL x).all (·.oneCell') = true := rfl
structure RefR (R : Heap) (q : Nat) (tv lv : Value) (W : List Tp) (L : List Txn) : Prop where
  row : R q = some (.row true 0 [tv, lv] 0)
  lst : LstR R lv 11 L.length (rowsC txnL L)
  trm : LstR R tv 3 W.length (rowsC tpL W)
  set : ∀ x ∈ W, R x.2 = some (.row true 0 (flat x.1.s) 0)
  nd : (W.map (·.2)).Nodup
  nq : ∀ x ∈ W, x.2 ≠ q
  nt : ∀ x ∈ W, blkV tv ≠ some x.2
  nl : ∀ x ∈ W, blkV lv ≠ some x.2
  tq : blkV tv ≠ some q
  lq : blkV lv ≠ some q
  tl : ∀ b, blkV tv = some b → blkV lv ≠ some b
theorem RefR.le {R H : Heap} {q : Nat} {tv lv : Value} {W : List Tp} {L : List Txn} (h : RefR R q tv lv W L) (hl : Heap.le R H) : RefR H q tv lv W L :=
  ⟨hl _ _ h.row, h.lst.le hl, h.trm.le hl, fun x hx => hl _ _ (h.set x hx), h.nd, h.nq, h.nt, h.nl, h.tq, h.lq, h.tl⟩
def ltK (k : KZ) (t : Txn) : Bool := decide (KZ.lt (kyT t) k)
/-- Where a key stands, or would stand. -/
def atZ (k : KZ) (L : List Txn) : Nat := (L.takeWhile (ltK k)).length
def isAt (k : KZ) (L : List Txn) : Bool := match L[atZ k L]? with | some t => decide (kyT t = k) | none => false
theorem atZ_le (k : KZ) (L : List Txn) : atZ k L ≤ L.length := (List.takeWhile_sublist _).length_le
theorem atZ_of {k : KZ} : ∀ {L : List Txn} {i : Nat}, (L.take i).all (ltK k) = true → i ≤ L.length → (∀ t, L[i]? = some t → ltK k t = false) → atZ k L = i
  | [], i, _, h2, _ => by simp at h2; subst h2; rfl
  | t :: l, 0, _, _, h3 => by
    have := h3 t rfl
    simp [atZ, List.takeWhile_cons, this]
  | t :: l, i + 1, h1, h2, h3 => by
    simp only [List.take_succ_cons, List.all_cons, Bool.and_eq_true] at h1
    have ih := atZ_of (k := k) (L := l) (i := i) h1.2 (by simpa using h2) (fun x hx => h3 x (by simpa using hx))
    unfold atZ at ih ⊢
    rw [List.takeWhile_cons, if_pos h1.1, List.length_cons, ih]
theorem kz_eq (x y : KZ) : decide (x = y) = (decide (x.t = y.t) && decide (x.s = y.s)) := by
  obtain ⟨a, b⟩ := x
  obtain ⟨c, d⟩ := y
  simp [Bool.decide_and]
def atInv (H : Heap) (q b3 n : Nat) (k : KZ) (L : List Txn) (st : St) : Prop :=
  ∃ i, i ≤ n ∧ st.env 0 = .pointer (some ⟨q, 0, none⟩) ∧ st.env 3 = .pointer (some ⟨b3, 0, none⟩) ∧ st.env 6 = .int .i64 i ∧ Heap.le H st.heap ∧ st.heap b3 = some (.row true 0 [.int .u16 k.t, .int .u32 k.s] 0) ∧ (L.take i).all (ltK k) = true
theorem at_c (H : Heap) (q : Nat) (tv lv : Value) (W : List Tp) (L : List Txn) (hB : RefR H q tv lv W L) (hn : L.length ≤ 1000) (k : KZ) :
    ECalls Tryz.prog 31 #[.pointer (some ⟨q, 0, none⟩), encK k] H fun v H' => v = .tuple #[.int .i64 (atZ k L), .bool (isAt k L)] ∧ Heap.le H H' := by
  refine ecalls_of_ewp (args := [_, _]) Tryz.func31 rfl rfl rfl (by simp [Tryz.ntmps31]) (by kernel_rfl) ?_
  obtain ⟨a, c, rfl, hs, _⟩ := hB.lst.sl (Heap.le_refl H)
  obtain ⟨n, hnn⟩ : ∃ n, L.length = n := ⟨_, rfl⟩
  have hrow := hB.row
  rw [hnn] at hs hn hrow
  clear hB
  unfold encK
  simp (disch := first | omega | assumption | decide | (simp <;> omega) | fail) [facts, ]
  refine fresh_intro fun b3 hb3 => ?_
  simp (disch := first | omega | assumption | decide | (simp <;> omega) | fail) [facts, ]
  refine w_loop (atInv H q b3 n k L) (fun st => n - (intOf (st.env 6)).toNat) ?_ ?_
  · exact ⟨0, Nat.zero_le _, by simp, by simp, by simp, le_upd _ hb3, upd_same _ _ _, by simp⟩
  rintro ⟨env, G⟩ ⟨i, hi, e0, e3, e6, hle, r3, hall⟩
  simp only at e0 e3 e6 hle r3
  have hrG := hle _ _ hrow
  by_cases hlt : i < n
  · have hltI : (i : Int) < (n : Int) := by omega
    obtain ⟨t, ht⟩ : ∃ t, L[i]? = some t := ⟨_, List.getElem?_eq_getElem (by omega)⟩
    obtain ⟨ab, ao, rfl⟩ := hs.lit (by omega)
    have rk : rdNU (G ab) (ao + i * 11) 2 = some [.int .u16 (kyT t).t, .int .u32 (kyT t).s] := (hs.le hle).el txn11 ht (j := 0) (r := 2) (by decide) (by decide)
    have hls := St.less_c (kyT t) k G
    simp only [encK] at hls
    simp (disch := first | omega | assumption | decide | (simp <;> omega) | fail) [facts, ]
    refine w_plan (P := Tryz.prog) (by simp [facts]) (opsP [0,1,2,3,4,5,6,7,8,9,10,12,16,11,13,14,15,17,18] .done) ?_ ?_
    · decide +kernel
    simp (disch := first | omega | assumption | decide | (simp <;> omega) | fail) [facts, e0, e3, e6, hrG, hltI, rk, r3]
    refine hls.mono ?_
    rintro v G2 ⟨rfl, hle2⟩
    have hle3 := Heap.le_trans hle hle2
    have r3' := hle2 _ _ r3
    by_cases hl : KZ.lt (kyT t) k
    · simp (disch := first | omega | assumption | decide | (simp <;> omega) | fail) [facts, hl, e6]
      refine ⟨_, Heap.le_refl _, ⟨i + 1, by omega, by simp [e0], by simp [e3], by simp, hle3, r3', all_step ht hall (by unfold ltK; simpa using hl)⟩, by simp [intOf, e6]; omega⟩
    · have hat : atZ k L = i := atZ_of hall (by omega) (fun x hx => by rw [ht] at hx; cases hx; unfold ltK; simpa using hl)
      have hrG2 := hle2 _ _ hrG
      have rk2 : rdNU (G2 ab) (ao + i * 11) 2 = some [.int .u16 (kyT t).t, .int .u32 (kyT t).s] := (hs.le hle3).el txn11 ht (j := 0) (r := 2) (by decide) (by decide)
      have hat2 : isAt k L = (decide ((kyT t).t = k.t) && decide ((kyT t).s = k.s)) := by
        unfold isAt
        rw [hat, ht]
        exact kz_eq _ _
      rw [hat, hat2]
      simp (disch := first | omega | assumption | decide | (simp <;> omega) | fail) [facts, hl]
      refine w_plan (P := Tryz.prog) (by simp [facts]) (opsP [0,1,2,3,4,5,6,7,8,9,10,11,12,13,14,15,16,17,18,19,20,21] .done) ?_ ?_
      · decide +kernel
      simp (disch := first | omega | assumption | decide | (simp <;> omega) | fail) [facts, e0, e3, e6, hrG2, hltI, rk2, r3']
      exact ⟨_, Heap.le_refl _, hle3⟩
  · have hin : i = n := by omega
    subst hin
    have hat : atZ k L = i := atZ_of hall (by omega) (fun x hx => by rw [List.getElem?_eq_none (by omega)] at hx; cases hx)
    have hat2 : isAt k L = false := by
      unfold isAt
      rw [hat, List.getElem?_eq_none (by omega)]
    rw [hat, hat2]
    simp (disch := first | omega | assumption | decide | (simp <;> omega) | fail) [facts, ]
    refine w_plan (P := Tryz.prog) (by simp [facts]) (opsP [0,1,2,3,4,5,6,7,8,9,10,12,16,11,13,14,15,17,18] .done) ?_ ?_
    · decide +kernel
    simp (disch := first | omega | assumption | decide | (simp <;> omega) | fail) [facts, e0, e3, e6, hrG, r3]
    refine w_plan (P := Tryz.prog) (by simp [facts]) (opsP [0,1,2,3,4,5,6,7,8,9,10,11,12,13,14,15,16,17,18,19,20,21] .done) ?_ ?_
    · decide +kernel
    simp (disch := first | omega | assumption | decide | (simp <;> omega) | fail) [facts, e0, e3, e6, hrG, r3]
    exact ⟨_, Heap.le_refl _, hle⟩
/-- What stands there is what is looked up. -/
theorem isAt_get {k : KZ} : ∀ {L : List Txn}, Sorted L → (if isAt k L = true then L[atZ k L]? else none) = getK k L
  | [], _ => by simp [isAt, getK, idxK]
  | t :: l, h => by
    have hh : (kyT t :: l.map kyT).Pairwise KZ.lt := h
    obtain ⟨h1, h2⟩ := List.pairwise_cons.1 hh
    have ih := isAt_get (k := k) (L := l) h2
    by_cases hlt : KZ.lt (kyT t) k
    · have e1 : atZ k (t :: l) = atZ k l + 1 := by simp [atZ, List.takeWhile_cons, ltK, hlt]
      have e2 : isAt k (t :: l) = isAt k l := by unfold isAt; rw [e1]; simp
      have hne : ¬ kyT t = k := fun e => by rw [e] at hlt; exact KZ.lt_irr _ hlt
      have e3 : getK k (t :: l) = getK k l := by
        unfold getK
        simp only [idxK, hne, if_false]
        cases idxK k l with
        | none => rfl
        | some j => simp
      rw [e1, e2, e3, ← ih]; simp
    · have e1 : atZ k (t :: l) = 0 := by simp [atZ, List.takeWhile_cons, ltK, hlt]
      have e2 : isAt k (t :: l) = decide (kyT t = k) := by unfold isAt; rw [e1]; simp
      rw [e1, e2]
      by_cases he : kyT t = k
      · simp [he, getK, idxK]
      · rw [if_neg (by simpa using he)]
        cases hg : getK k (t :: l) with
        | none => rfl
        | some u =>
          obtain ⟨hu1, hu2⟩ := getK_some hg
          rcases List.mem_cons.1 hu1 with rfl | hu
          · exact absurd hu2 he
          · have := h1 (kyT u) (List.mem_map_of_mem hu)
            rw [hu2] at this
            exact absurd this hlt
end Go.Proofs.YtfpighmafofoeaaGreatDoor.GL

namespace Go.Proofs.YtfpighmafofoeaaGreatDoor.GL
open Go Go.RowKit
open St (Txn txnL txnV zeroT RightT OkT stepF Rec recV RightR pairV)
open Ca (S4 flat setV OkS giveE giveT loadE loadT notesV)
set_option maxRecDepth 10000
set_option pp.deepTerms.threshold 8
set_option pp.maxSteps 3000
set_option linter.unusedSimpArgs false
set_option linter.unusedVariables false

def tmsOf (W : List Tp) : List Tm := W.map (·.1)
theorem tms_at (W : List Tp) (i : Nat) : (tmsOf W)[i]? = (W[i]?).map (·.1) := List.getElem?_map ..
end Go.Proofs.YtfpighmafofoeaaGreatDoor.GL

namespace Go.Proofs.YtfpighmafofoeaaGreatDoor.GL
open Go Go.RowKit
open St (Txn txnL txnV zeroT RightT OkT stepF Rec recV RightR pairV)
open Ca (S4 flat setV OkS giveE giveT loadE loadT notesV)
set_option maxRecDepth 10000
set_option pp.deepTerms.threshold 8
set_option pp.maxSteps 3000
set_option linter.unusedSimpArgs false
set_option linter.unusedVariables false

def roInv (H : Heap) (q z n : Nat) (L : List Txn) (st : St) : Prop :=
  ∃ k, k ≤ n ∧ st.env 0 = .pointer (some ⟨q, 0, none⟩) ∧ st.env 1 = .int .u16 z ∧ st.env 6 = .int .i64 k ∧ ∃ R v, Own H (fun _ => none) st.heap R ∧ st.env 5 = v ∧ LstR R v 11 ((L.take k).filter (keepB z)).length (rowsC txnL ((L.take k).filter (keepB z)))
end Go.Proofs.YtfpighmafofoeaaGreatDoor.GL

namespace Go.Proofs.YtfpighmafofoeaaGreatDoor.GL
open Go Go.RowKit
open St (Txn txnL txnV zeroT RightT OkT stepF Rec recV RightR pairV)
open Ca (S4 flat setV OkS giveE giveT loadE loadT notesV)
set_option maxRecDepth 10000
set_option pp.deepTerms.threshold 8
set_option pp.maxSteps 3000
set_option linter.unusedSimpArgs false
set_option linter.unusedVariables false

theorem insL_atZ (u : Txn) : ∀ {L : List Txn}, Sorted L → insL u L = if isAt (kyT u) L = true then L.set (atZ (kyT u) L) u else L.take (atZ (kyT u) L) ++ u :: L.drop (atZ (kyT u) L)
  | [], _ => by simp [insL, isAt, atZ]
  | t :: l, h => by
    have hh : (kyT t :: l.map kyT).Pairwise KZ.lt := h
    obtain ⟨h1, h2⟩ := List.pairwise_cons.1 hh
    have ih := insL_atZ u (L := l) h2
    by_cases hlt : KZ.lt (kyT t) (kyT u)
    · have e1 : atZ (kyT u) (t :: l) = atZ (kyT u) l + 1 := by simp [atZ, List.takeWhile_cons, ltK, hlt]
      have e2 : isAt (kyT u) (t :: l) = isAt (kyT u) l := by unfold isAt; rw [e1]; simp
      have hne : ¬ kyT t = kyT u := fun e => by rw [e] at hlt; exact KZ.lt_irr _ hlt
      unfold insL
      rw [if_neg hne, if_neg (KZ.asym hlt), ih, e1, e2]
      by_cases hi : isAt (kyT u) l = true
      · rw [if_pos hi, if_pos hi]; rfl
      · rw [if_neg hi, if_neg hi]; rfl
    · have e1 : atZ (kyT u) (t :: l) = 0 := by simp [atZ, List.takeWhile_cons, ltK, hlt]
      have e2 : isAt (kyT u) (t :: l) = decide (kyT t = kyT u) := by unfold isAt; rw [e1]; simp
      rw [e1, e2]
      unfold insL
      by_cases he : kyT t = kyT u
      · rw [if_pos he, if_pos (by simpa using he)]; rfl
      · have hgt : KZ.lt (kyT u) (kyT t) := Decidable.byContradiction fun h3 => he (KZ.total h3 hlt)
        have hd : ¬ decide (kyT t = kyT u) = true := by simpa using he
        rw [if_neg he, if_pos hgt, if_neg hd]; rfl
theorem isAt_some {k : KZ} {L : List Txn} (hL : Sorted L) : isAt k L = (getK k L).isSome := by
  have h := isAt_get (k := k) hL
  cases hi : isAt k L with
  | true =>
    rw [if_pos hi] at h
    unfold isAt at hi
    cases hx : L[atZ k L]? with
    | none => rw [hx] at hi; cases hi
    | some t => rw [← h, hx]; rfl
  | false =>
    rw [hi] at h
    simp only [Bool.false_eq_true, if_false] at h
    rw [← h]; rfl
end Go.Proofs.YtfpighmafofoeaaGreatDoor.GL

namespace Go.Proofs.YtfpighmafofoeaaGreatDoor.GL
open Go Go.RowKit
open St (Txn txnL txnV zeroT RightT OkT stepF Rec recV RightR pairV)
open Ca (S4 flat setV OkS giveE giveT loadE loadT notesV)
set_option maxRecDepth 10000
set_option pp.deepTerms.threshold 8
set_option pp.maxSteps 3000
set_option linter.unusedSimpArgs false
set_option linter.unusedVariables false

/-- A terminal's row turns: its set is the same. -/
theorem rterms {R : Heap} {q tb o c : Nat} {lv : Value} {W : List Tp} {L : List Txn} (h : RefR R q (.slice (some ⟨tb, o, none⟩) W.length c) lv W L) {i : Nat} {x : Tp} (hx : W[i]? = some x) (y : Tp) (h2 : y.2 = x.2) (hs : y.1.s = x.1.s) :
    ∃ tail room, R tb = some (.row true o (rowsC tpL W ++ tail) room) ∧ RefR (upd R tb (.row true o (rowsC tpL (W.set i y) ++ tail) room)) q (.slice (some ⟨tb, o, none⟩) W.length c) lv (W.set i y) L := by
  have hi : i < W.length := (List.getElem?_eq_some_iff.1 hx).1
  have hxm := List.mem_of_getElem? hx
  have htq : tb ≠ q := fun e => h.tq (by rw [e]; rfl)
  have hmem : ∀ z ∈ W.set i y, z.2 ∈ W.map (·.2) ∧ (z ∈ W ∨ z = y) := fun z hz => by
    rcases List.mem_or_eq_of_mem_set hz with hz | rfl
    · exact ⟨List.mem_map_of_mem (f := fun z : Tp => z.2) hz, .inl hz⟩
    · exact ⟨by rw [h2]; exact List.mem_map_of_mem (f := fun z : Tp => z.2) hxm, .inr rfl⟩
  have hof : ∀ {P : Nat → Prop}, (∀ z ∈ W, P z.2) → ∀ z ∈ W.set i y, P z.2 := fun {P} hP z hz => by
    rcases (hmem z hz).2 with hz | rfl
    · exact hP z hz
    · rw [h2]; exact hP x hxm
  have hmap : (W.set i y).map (·.2) = W.map (·.2) := by
    apply List.ext_getElem?
    intro j
    rw [List.getElem?_map, List.getElem?_map, List.getElem?_set]
    by_cases hj : i = j
    · subst hj
      rw [if_pos rfl, if_pos hi, hx, Option.map_some, Option.map_some, h2]
    · simp [hj]
  rcases h.trm with ⟨hv, _⟩ | ⟨b', o', cap', tail, room, hv, hrow, hlc, hcap, hfit⟩
  · cases hv
  cases hv
  refine ⟨tail, room, hrow, ?_⟩
  have hne : ∀ z ∈ W, z.2 ≠ tb := fun z hz e => h.nt z hz (by rw [e]; rfl)
  refine ⟨by rw [upd_ne _ _ htq.symm]; exact h.row, h.lst.up (fun j p hj hp => by rw [upd_ne _ _ (fun e => h.tl tb rfl (by rw [hj, e]))]; exact hp), ?_, ?_, by rw [hmap]; exact h.nd, hof (P := fun b => b ≠ q) h.nq, hof (P := fun b => blkV (.slice (some ⟨tb, o, none⟩) W.length c) ≠ some b) h.nt, hof (P := fun b => blkV lv ≠ some b) h.nl, h.tq, h.lq, h.tl⟩
  · refine .inr ⟨tb, o, c, tail, room, by rw [List.length_set], upd_same _ _ _, by rw [rowsC_len tp3], by rw [List.length_set]; exact hcap, by rw [List.length_set]; exact hfit⟩
  · intro z hz
    rcases (hmem z hz).2 with hz | rfl
    · rw [upd_ne _ _ (hne z hz)]; exact h.set z hz
    · rw [h2, upd_ne _ _ (hne x hxm), hs]; exact h.set x hxm
theorem rows_same {α : Type} {f : α → List Value} {W : List α} {i : Nat} {x y : α} (hx : W[i]? = some x) (hf : f y = f x) : rowsC f (W.set i y) = rowsC f W := by
  unfold rowsC
  congr 1
  apply List.ext_getElem?
  intro j
  have hi : i < W.length := (List.getElem?_eq_some_iff.1 hx).1
  rw [List.getElem?_map, List.getElem?_map, List.getElem?_set]
  by_cases hj : i = j
  · subst hj
    rw [if_pos rfl, if_pos hi, hx, Option.map_some, Option.map_some, hf]
  · simp [hj]
/-- A terminal's set turns, in its own block. -/
theorem rset {R : Heap} {q : Nat} {tv lv : Value} {W : List Tp} {L : List Txn} (h : RefR R q tv lv W L) {i : Nat} {x : Tp} (hx : W[i]? = some x) (s' : S4) : RefR (upd R x.2 (.row true 0 (flat s') 0)) q tv lv (W.set i ({ x.1 with s := s' }, x.2)) L := by
  have hi : i < W.length := (List.getElem?_eq_some_iff.1 hx).1
  have hxm := List.mem_of_getElem? hx
  have hof : ∀ {P : Nat → Prop}, (∀ z ∈ W, P z.2) → ∀ z ∈ W.set i ({ x.1 with s := s' }, x.2), P z.2 := fun {P} hP z hz => by
    rcases List.mem_or_eq_of_mem_set hz with hz | rfl
    · exact hP z hz
    · exact hP x hxm
  have hmap : (W.set i ({ x.1 with s := s' }, x.2)).map (·.2) = W.map (·.2) := by
    apply List.ext_getElem?
    intro j
    rw [List.getElem?_map, List.getElem?_map, List.getElem?_set]
    by_cases hj : i = j
    · subst hj
      rw [if_pos rfl, if_pos hi, hx, Option.map_some, Option.map_some]
    · simp [hj]
  refine ⟨by rw [upd_ne _ _ (h.nq x hxm).symm]; exact h.row, h.lst.up (fun j p hj hp => by rw [upd_ne _ _ (fun e => h.nl x hxm (by rw [hj, e]))]; exact hp), ?_, ?_, by rw [hmap]; exact h.nd, hof (P := fun b => b ≠ q) h.nq, hof (P := fun b => blkV tv ≠ some b) h.nt, hof (P := fun b => blkV lv ≠ some b) h.nl, h.tq, h.lq, h.tl⟩
  · rw [List.length_set, rows_same (f := tpL) (y := ({ x.1 with s := s' }, x.2)) hx rfl]
    exact h.trm.up (fun j p hj hp => by rw [upd_ne _ _ (fun e => h.nt x hxm (by rw [hj, e]))]; exact hp)
  · intro z hz
    obtain ⟨j, hj, hjz⟩ := List.getElem_of_mem hz
    have hjW : j < W.length := by simpa using hj
    rw [List.getElem_set] at hjz
    by_cases hij : i = j
    · rw [if_pos hij] at hjz
      subst hjz
      exact upd_same _ _ _
    · rw [if_neg hij] at hjz
      have hne : z.2 ≠ x.2 := fun e => by
        have h1 : (W.map (·.2))[j]? = some x.2 := by rw [List.getElem?_map, List.getElem?_eq_getElem hjW, hjz, Option.map_some, e]
        have h2 : (W.map (·.2))[i]? = some x.2 := by rw [List.getElem?_map, hx, Option.map_some]
        have hjm : j < (W.map (·.2)).length := by simpa using hjW
        exact hij ((List.getElem?_inj (by simpa using hi) h.nd).1 (h2.trans h1.symm))
      rw [upd_ne _ _ hne]
      exact h.set z (by rw [← hjz]; exact List.getElem_mem hjW)
end Go.Proofs.YtfpighmafofoeaaGreatDoor.GL

namespace Go.Proofs.YtfpighmafofoeaaGreatDoor.GL
open Go Go.RowKit
open St (Txn txnL txnV zeroT RightT OkT stepF Rec recV RightR pairV)
open Ca (S4 flat setV OkS giveE giveT loadE loadT notesV)
set_option maxRecDepth 10000
set_option pp.deepTerms.threshold 8
set_option pp.maxSteps 3000
set_option linter.unusedSimpArgs false
set_option linter.unusedVariables false

theorem nodup_set {l : List Nat} (h : l.Nodup) {x : Nat} (hx : x ∉ l) (i : Nat) : (l.set i x).Nodup := by
  unfold List.Nodup at *
  rw [List.pairwise_iff_getElem] at *
  intro a b ha hb hab
  have ha' : a < l.length := by simpa using ha
  have hb' : b < l.length := by simpa using hb
  rw [List.getElem_set, List.getElem_set]
  by_cases h1 : i = a
  · have h2 : ¬ i = b := by omega
    rw [if_pos h1, if_neg h2]
    exact fun e => hx (by rw [e]; exact List.getElem_mem hb')
  · rw [if_neg h1]
    by_cases h2 : i = b
    · rw [if_pos h2]
      exact fun e => hx (by rw [← e]; exact List.getElem_mem ha')
    · rw [if_neg h2]
      exact h a b ha' hb' hab
theorem rnew {R : Heap} {q tb o c : Nat} {lv : Value} {W : List Tp} {L : List Txn} (h : RefR R q (.slice (some ⟨tb, o, none⟩) W.length c) lv W L) {i : Nat} (hi : i < W.length) (y : Tm) (p' : Nat) (hp : R p' = none) :
    ∃ tail room, R tb = some (.row true o (rowsC tpL W ++ tail) room) ∧ RefR (upd (upd R tb (.row true o (rowsC tpL (W.set i (y, p')) ++ tail) room)) p' (.row true 0 (flat y.s) 0)) q (.slice (some ⟨tb, o, none⟩) W.length c) lv (W.set i (y, p')) L := by
  have htq : tb ≠ q := fun e => h.tq (by rw [e]; rfl)
  have hpW : p' ∉ W.map (·.2) := fun hm => by
    obtain ⟨z, hz, e⟩ := List.mem_map.1 hm
    have := h.set z hz
    rw [e, hp] at this; cases this
  have hpq : q ≠ p' := fun e => by have := h.row; rw [e, hp] at this; cases this
  have hmap : (W.set i (y, p')).map (·.2) = (W.map (·.2)).set i p' := by rw [List.map_set]
  rcases h.trm with ⟨hv, _⟩ | ⟨b', o', cap', tail, room, hv, hrow, hlc, hcap, hfit⟩
  · cases hv
  cases hv
  have hpt : tb ≠ p' := fun e => by rw [e, hp] at hrow; cases hrow
  have hpl : blkV lv ≠ some p' := fun e => by
    rcases h.lst with ⟨hv, _⟩ | ⟨b2, o2, c2, t2, r2, hv, hr2, _⟩
    · rw [hv] at e; cases e
    · rw [hv] at e
      have : b2 = p' := by simpa [blkV] using e
      rw [this, hp] at hr2; cases hr2
  have hof : ∀ {P : Nat → Prop}, (∀ z ∈ W, P z.2) → P p' → ∀ z ∈ W.set i (y, p'), P z.2 := fun {P} hP h1 z hz => by
    rcases List.mem_or_eq_of_mem_set hz with hz | rfl
    · exact hP z hz
    · exact h1
  have hne : ∀ z ∈ W, z.2 ≠ tb := fun z hz e => h.nt z hz (by rw [e]; rfl)
  have hnp : ∀ z ∈ W, z.2 ≠ p' := fun z hz e => hpW (by rw [← e]; exact List.mem_map_of_mem (f := fun z : Tp => z.2) hz)
  refine ⟨tail, room, hrow, ?_⟩
  refine ⟨by rw [upd_ne _ _ hpq, upd_ne _ _ htq.symm]; exact h.row, h.lst.up (fun j p hj hq2 => by rw [upd_ne _ _ (fun e => hpl (by rw [hj, e])), upd_ne _ _ (fun e => h.tl tb rfl (by rw [hj, e]))]; exact hq2), ?_, ?_, by rw [hmap]; exact nodup_set h.nd hpW i, hof (P := fun b => b ≠ q) h.nq hpq.symm, hof (P := fun b => blkV (.slice (some ⟨tb, o, none⟩) W.length c) ≠ some b) h.nt (fun e => hpt (by simpa [blkV] using e)), hof (P := fun b => blkV lv ≠ some b) h.nl hpl, h.tq, h.lq, h.tl⟩
  · refine .inr ⟨tb, o, c, tail, room, by rw [List.length_set], by rw [upd_ne _ _ hpt]; exact upd_same _ _ _, by rw [rowsC_len tp3], by rw [List.length_set]; exact hcap, by rw [List.length_set]; exact hfit⟩
  · intro z hz
    rcases List.mem_or_eq_of_mem_set hz with hz | rfl
    · rw [upd_ne _ _ (hnp z hz), upd_ne _ _ (hne z hz)]; exact h.set z hz
    · exact upd_same _ _ _
/-- A transaction turns in its place. -/
theorem rlset {R : Heap} {q lb o c : Nat} {tv : Value} {W : List Tp} {L : List Txn} (h : RefR R q tv (.slice (some ⟨lb, o, none⟩) L.length c) W L) {i : Nat} (hi : i < L.length) (u : Txn) :
    ∃ tail room, R lb = some (.row true o (rowsC txnL L ++ tail) room) ∧ splice (rowsC txnL L ++ tail) (i * 11) (txnL u) = rowsC txnL (L.set i u) ++ tail ∧ i * 11 + 11 ≤ (rowsC txnL L ++ tail).length ∧
      RefR (upd R lb (.row true o (rowsC txnL (L.set i u) ++ tail) room)) q tv (.slice (some ⟨lb, o, none⟩) L.length c) W (L.set i u) := by
  have hlX := rowsC_len txn11 L
  have hlq : lb ≠ q := fun e => h.lq (by rw [e]; rfl)
  rcases h.lst with ⟨hv, _⟩ | ⟨b', o', cap', tail, room, hv, hrow, hlc, hcap, hfit⟩
  · cases hv
  cases hv
  have hk : i * 11 + 11 ≤ (rowsC txnL L).length := by rw [hlX]; omega
  refine ⟨tail, room, hrow, ?_, by rw [List.length_append]; omega, ?_⟩
  · rw [← rowsC_set txn11 L i u hi]
    unfold splice
    rw [List.take_append_of_le_length (by omega), List.drop_append_of_le_length (by rw [txn11]; exact hk)]
    simp only [List.append_assoc]
  · refine ⟨by rw [upd_ne _ _ hlq.symm]; exact h.row, ?_, h.trm.up (fun j p hj hq2 => by rw [upd_ne _ _ (fun e => h.tl j hj (by rw [e]; rfl))]; exact hq2), fun z hz => by rw [upd_ne _ _ (fun e => h.nl z hz (by rw [e]; rfl))]; exact h.set z hz, h.nd, h.nq, h.nt, h.nl, h.tq, h.lq, h.tl⟩
    exact .inr ⟨lb, o, c, tail, room, by rw [List.length_set], upd_same _ _ _, by rw [rowsC_len txn11], by rw [List.length_set]; exact hcap, by rw [List.length_set]; exact hfit⟩
end Go.Proofs.YtfpighmafofoeaaGreatDoor.GL
