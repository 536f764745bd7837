/- Layer 20: what a record does to a plain book.; Layer 20: a transaction's record in the book.; Layer 20: Do. -/
import Derived.Test.YtfpighmafofoeaaGreatDoorBqX
namespace Go.Proofs.YtfpighmafofoeaaGreatDoor.GL
open Go Go.RowKit
open St (Txn txnL txnV zeroT RightT OkT stepF Rec recV RightR pairV fromL revT owesT noT)
open Ca (S4 flat setV OkS giveE giveT loadE loadT)
set_option maxRecDepth 10000
set_option pp.deepTerms.threshold 8
set_option pp.maxSteps 3000
set_option linter.unusedSimpArgs false
set_option linter.unusedVariables false

def kyR (r : Rec) : KZ := ⟨r.term, r.stan⟩
/-- A transaction goes on only by records of its own key, and stays one that may be. -/
theorem step_ok {t : Txn} {r : Rec} (ht : RightT t) (hr : RightR r) (hk : t = zeroT ∨ kyT t = kyR r) (he : (stepF t r).2 = 0) : OkT (stepF t r).1 ∧ kyT (stepF t r).1 = kyR r := by
  have hz : t = zeroT → r.kind ≠ 1 → t.state ∉ fromL r.kind := by
    rintro rfl h1
    have := hr.kind
    unfold fromL
    simp only [zeroT, h1, if_false]
    repeat' split
    all_goals simp
  obtain ⟨⟨k1, k7⟩, hrr⟩ := hr
  have hlen := RightR.len ⟨⟨k1, k7⟩, hrr⟩
  have ham := RightR.am ⟨⟨k1, k7⟩, hrr⟩
  have hpan : ∀ c ∈ r.pan, St.digitB c := by
    simp only [RZ.right, Rec.rz, Bool.and_eq_true] at hrr
    have h2 : allD (mkS r.pan) = true := hrr.1.1.1.1.1.2
    unfold allD at h2
    rw [mkS_list, List.all_eq_true] at h2
    intro c hc
    have := h2 c hc
    unfold isD at this
    simpa [St.digitB] using this
  have hfew : St.fewIn r.n0 ∧ St.fewIn r.n1 ∧ St.fewIn r.n2 ∧ St.fewIn r.n3 := by
    simp only [RZ.right, Rec.rz, Bool.and_eq_true] at hrr
    have h2 := hrr.1.1.2
    simp only [NZ.ok, NZ.l, List.all_cons, List.all_nil, Bool.and_true, Bool.and_eq_true, inC, decide_eq_true_eq] at h2
    unfold St.fewIn
    exact h2
  unfold stepF at he ⊢
  by_cases hin : t.state ∈ fromL r.kind
  case neg => rw [if_neg hin] at he; cases he
  rw [if_pos hin] at he ⊢
  by_cases h1 : r.kind = 1
  · rw [if_pos h1] at he ⊢
    by_cases hp : r.pan = []
    · rw [if_pos hp] at he; cases he
    rw [if_neg hp] at he ⊢
    by_cases ha : r.amount = 0
    · rw [if_pos ha] at he; cases he
    rw [if_neg ha]
    refine ⟨⟨?_, hlen, hpan, by simp only; omega, ham.2, ?_, .inl ⟨.inl rfl, ⟨rfl, rfl, rfl, rfl⟩, rfl, rfl⟩⟩, rfl⟩
    · cases hq : r.pan with
      | nil => exact absurd hq hp
      | cons _ _ => simp
    · unfold St.fewIn; simp
  have hok : OkT t ∧ kyT t = kyR r := by
    rcases hk with h | h
    · exact absurd hin (hz h h1)
    · rcases ht with rfl | h2
      · exact absurd hin (hz rfl h1)
      · exact ⟨h2, h⟩
  obtain ⟨ok, hkey⟩ := hok
  obtain ⟨p1, p2, p3, a1, a2, few, hst⟩ := ok
  rw [if_neg h1] at he ⊢
  by_cases h2 : r.kind = 2
  · rw [if_pos h2]
    rw [h2] at hin
    have hs : t.state = 1 := by simpa [fromL] using hin
    rw [hs] at hst
    have := hst.resolve_right (by omega)
    exact ⟨⟨p1, p2, p3, a1, a2, few, .inl ⟨.inr (.inl rfl), this.2⟩⟩, hkey⟩
  rw [if_neg h2] at he ⊢
  by_cases h3 : r.kind = 3
  · rw [if_pos h3]
    rw [h3] at hin
    have hs : t.state = 1 := by simpa [fromL] using hin
    rw [hs] at hst
    have := hst.resolve_right (by omega)
    exact ⟨⟨p1, p2, p3, a1, a2, few, .inl ⟨.inr (.inr rfl), this.2⟩⟩, hkey⟩
  rw [if_neg h3] at he ⊢
  by_cases h4 : r.kind = 4
  · rw [if_pos h4]
    refine ⟨⟨p1, p2, p3, a1, a2, few, .inr (.inr (.inl ⟨rfl, ?_⟩))⟩, hkey⟩
    unfold owesT revT
    simp only
    omega
  rw [if_neg h4] at he ⊢
  by_cases h5 : r.kind = 5
  · rw [if_pos h5]
    rw [h5] at hin
    have hs : t.state = 2 := by simpa [fromL] using hin
    rw [hs] at hst
    have := hst.resolve_right (by omega)
    exact ⟨⟨p1, p2, p3, a1, a2, hfew, .inr (.inl ⟨rfl, this.2.2⟩)⟩, hkey⟩
  rw [if_neg h5] at he ⊢
  by_cases h6 : r.kind = 6
  · rw [if_pos h6] at he ⊢
    by_cases hlt : t.amount < r.amount
    · rw [if_pos hlt] at he; cases he
    rw [if_neg hlt]
    by_cases hz0 : t.amount - r.amount = 0
    · rw [if_pos hz0]
      refine ⟨⟨p1, p2, p3, a1, a2, few, .inr (.inr (.inr ⟨rfl, .inl ⟨hz0, ?_⟩⟩))⟩, hkey⟩
      simp only [revT]; omega
    · rw [if_neg hz0]
      refine ⟨⟨p1, p2, p3, a1, a2, few, .inr (.inr (.inl ⟨rfl, ?_⟩))⟩, hkey⟩
      unfold owesT revT
      simp only
      omega
  · rw [if_neg h6]
    have hs : t.state = 4 := by
      have h7 : r.kind = 7 := by omega
      rw [h7] at hin
      simpa [fromL] using hin
    rw [hs] at hst
    have hw : owesT t := by
      rcases hst with ⟨h, _⟩ | ⟨h, _⟩ | ⟨_, h⟩ | ⟨h, _⟩
      · omega
      · omega
      · exact h
      · omega
    exact ⟨⟨p1, p2, p3, a1, a2, few, .inr (.inr (.inr ⟨rfl, .inr hw⟩))⟩, hkey⟩
/-- In order: put in, or put in place of what has its key. -/
def insL (u : Txn) : List Txn → List Txn
  | [] => [u]
  | t :: l => if kyT t = kyT u then u :: l else if KZ.lt (kyT u) (kyT t) then u :: t :: l else t :: insL u l
theorem insL_keys (u : Txn) : ∀ (L : List Txn) (k : KZ), k ∈ (insL u L).map kyT ↔ k = kyT u ∨ k ∈ L.map kyT
  | [], k => by simp [insL]
  | t :: l, k => by
    unfold insL
    by_cases h1 : kyT t = kyT u
    · simp [h1]
    · rw [if_neg h1]
      by_cases h2 : KZ.lt (kyT u) (kyT t)
      · rw [if_pos h2]; simp
      · rw [if_neg h2]
        simp only [List.map_cons, List.mem_cons, insL_keys u l k]
        constructor
        · rintro (h | h | h)
          · exact .inr (.inl h)
          · exact .inl h
          · exact .inr (.inr h)
        · rintro (h | h | h)
          · exact .inr (.inl h)
          · exact .inl h
          · exact .inr (.inr h)
theorem KZ.trans {a b c : KZ} (h1 : KZ.lt a b) (h2 : KZ.lt b c) : KZ.lt a c := by unfold KZ.lt at *; omega
theorem insL_sorted (u : Txn) : ∀ {L : List Txn}, Sorted L → Sorted (insL u L)
  | [], _ => by simp [insL, Sorted]
  | t :: l, h => by
    have hh : (kyT t :: l.map kyT).Pairwise KZ.lt := h
    obtain ⟨h1, h2⟩ := List.pairwise_cons.1 hh
    unfold insL
    by_cases e1 : kyT t = kyT u
    · rw [if_pos e1]
      show (kyT u :: l.map kyT).Pairwise KZ.lt
      rw [← e1]; exact hh
    · rw [if_neg e1]
      by_cases e2 : KZ.lt (kyT u) (kyT t)
      · rw [if_pos e2]
        show (kyT u :: kyT t :: l.map kyT).Pairwise KZ.lt
        refine List.pairwise_cons.2 ⟨?_, hh⟩
        intro k hk
        rcases List.mem_cons.1 hk with rfl | hk
        · exact e2
        · exact KZ.trans e2 (h1 k hk)
      · rw [if_neg e2]
        show (kyT t :: (insL u l).map kyT).Pairwise KZ.lt
        refine List.pairwise_cons.2 ⟨?_, insL_sorted u h2⟩
        intro k hk
        rcases (insL_keys u l k).1 hk with rfl | hk
        · exact Decidable.byContradiction fun h3 => e1 (KZ.total e2 h3)
        · exact h1 k hk
theorem insL_new (u : Txn) : ∀ {L : List Txn}, (∀ t ∈ L, kyT t ≠ kyT u) → (insL u L).Perm (u :: L)
  | [], _ => List.Perm.refl _
  | t :: l, h => by
    unfold insL
    rw [if_neg (h t (by simp))]
    split
    · exact List.Perm.refl _
    · exact ((insL_new u fun x hx => h x (by simp [hx])).cons t).trans (List.Perm.swap u t l)
theorem insL_old (u : Txn) : ∀ {L : List Txn} {i : Nat}, Sorted L → idxK (kyT u) L = some i → insL u L = L.set i u
  | [], i, _, h => by cases h
  | t :: l, i, hs, h => by
    have hh : (kyT t :: l.map kyT).Pairwise KZ.lt := hs
    obtain ⟨h1, h2⟩ := List.pairwise_cons.1 hh
    unfold idxK at h
    unfold insL
    by_cases e1 : kyT t = kyT u
    · rw [if_pos e1] at h ⊢; cases h; rfl
    · rw [if_neg e1] at h ⊢
      cases hj : idxK (kyT u) l with
      | none => rw [hj] at h; cases h
      | some j =>
        rw [hj] at h; cases h
        obtain ⟨x, hx, hxk⟩ := idxK_some hj
        have hlt := h1 (kyT u) (by rw [← hxk]; exact List.mem_map_of_mem (List.mem_of_getElem? hx))
        rw [if_neg (KZ.asym hlt), insL_old u h2 hj]; rfl
theorem perm_set : ∀ {M : List Txn} {i : Nat} {x u : Txn}, M[i]? = some x → ∃ M', M.Perm (x :: M') ∧ (M.set i u).Perm (u :: M')
  | [], i, x, u, h => by simp at h
  | y :: l, 0, x, u, h => by
    simp at h; subst h
    exact ⟨l, List.Perm.refl _, List.Perm.refl _⟩
  | y :: l, i + 1, x, u, h => by
    obtain ⟨M', h1, h2⟩ := perm_set (M := l) (i := i) (x := x) (u := u) (by simpa using h)
    exact ⟨y :: M', (h1.cons y).trans (List.Perm.swap x y M'), (h2.cons y).trans (List.Perm.swap u y M')⟩
theorem put_ins {M L : List Txn} (hp : M.Perm L) (hL : Sorted L) (u : Txn) : (putM u M).Perm (insL u L) := by
  have hnL := hL.nodup
  have hnM : (M.map kyT).Nodup := (hp.map kyT).nodup_iff.2 hnL
  unfold putM
  cases hi : idxK (kyT u) M with
  | none =>
    have hno := idxK_none hi
    have h2 := insL_new u (L := L) fun t ht => hno t (hp.symm.subset ht)
    exact (List.perm_append_singleton u M).trans ((hp.cons u).trans h2.symm)
  | some i =>
    obtain ⟨x, hx, hxk⟩ := idxK_some hi
    have hxL : x ∈ L := hp.subset (List.mem_of_getElem? hx)
    cases hj : idxK (kyT u) L with
    | none => exact absurd hxk (idxK_none hj x hxL)
    | some j =>
      obtain ⟨y, hy, hyk⟩ := idxK_some hj
      have hg1 := getK_mem hnL hxL hxk
      have hg2 := getK_mem hnL (List.mem_of_getElem? hy) hyk
      rw [hg1] at hg2
      have hxy : x = y := Option.some.inj hg2
      subst hxy
      rw [insL_old u hL hj]
      obtain ⟨M1, a1, a2⟩ := perm_set (u := u) hx
      obtain ⟨L1, b1, b2⟩ := perm_set (u := u) hy
      have : M1.Perm L1 := List.Perm.cons_inv (a1.symm.trans (hp.trans b1))
      exact a2.trans ((this.cons u).trans b2.symm)
theorem insL_len_old {L : List Txn} (hL : Sorted L) {u t : Txn} (h : getK (kyT u) L = some t) : (insL u L).length = L.length := by
  unfold getK at h
  cases hi : idxK (kyT u) L with
  | none => rw [hi] at h; cases h
  | some i => rw [insL_old u hL hi, List.length_set]
theorem insL_len_new {L : List Txn} {u : Txn} (h : getK (kyT u) L = none) : (insL u L).length = L.length + 1 := by
  rw [(insL_new u (getK_none h)).length_eq]; rfl
theorem insL_mem {u t : Txn} : ∀ {L : List Txn}, t ∈ insL u L → t = u ∨ t ∈ L
  | [], h => by simpa [insL] using h
  | x :: l, h => by
    unfold insL at h
    split at h
    · rcases List.mem_cons.1 h with h | h
      · exact .inl h
      · exact .inr (by simp [h])
    · split at h
      · rcases List.mem_cons.1 h with h | h
        · exact .inl h
        · exact .inr h
      · rcases List.mem_cons.1 h with h | h
        · exact .inr (by simp [h])
        · rcases insL_mem h with h | h
          · exact .inl h
          · exact .inr (by simp [h])
/-- A transaction's record. -/
def stepB (b : Bz) (x : Tm) (r : Rec) : Bz × Int :=
  let q := stepF ((getK (kyR r) b.L).getD zeroT) r
  if q.2 ≠ 0 then (b, q.2)
  else if (getK (kyR r) b.L).isSome = false ∧ 400 ≤ b.L.length then (b, 21)
  else if r.kind = 6 then
    if giveE x.s r.n0 r.n1 r.n2 r.n3 r.x0 r.x1 r.x2 r.x3 ≠ 0 then (b, giveE x.s r.n0 r.n1 r.n2 r.n3 r.x0 r.x1 r.x2 r.x3)
    else (⟨b.T.set r.term.toNat { x with s := giveT x.s r.n0 r.n1 r.n2 r.n3 r.x0 r.x1 r.x2 r.x3 }, insL q.1 b.L⟩, 0)
  else (⟨b.T, insL q.1 b.L⟩, 0)
def doB (b : Bz) (r : Rec) : Bz × Int :=
  if r.rz.right = false then (b, 27) else
  match b.T[r.term.toNat]? with
  | none => (b, 32)
  | some x =>
    if r.kind = 9 then (⟨b.T.set r.term.toNat { x with out := true }, b.L⟩, 0)
    else if r.kind = 8 then
      if giveE (loadT x.s r.x4 r.x5 r.x6 r.x7) r.n0 r.n1 r.n2 r.n3 r.x0 r.x1 r.x2 r.x3 ≠ 0 then (b, giveE (loadT x.s r.x4 r.x5 r.x6 r.x7) r.n0 r.n1 r.n2 r.n3 r.x0 r.x1 r.x2 r.x3)
      else (⟨b.T.set r.term.toNat ⟨giveT (loadT x.s r.x4 r.x5 r.x6 r.x7) r.n0 r.n1 r.n2 r.n3 r.x0 r.x1 r.x2 r.x3, false, r.amount⟩, b.L⟩, 0)
    else stepB b x r
/-- A book that may be. -/
structure BOk (b : Bz) : Prop where
  few : b.T.length ≤ 8
  sets : ∀ x ∈ b.T, OkS x.s
  ord : Sorted b.L
  ok : ∀ t ∈ b.L, OkT t
  len : b.L.length ≤ 400
theorem doB_ok {b : Bz} (h : BOk b) (r : Rec) (hb : 0 ≤ r.term) : BOk (doB b r).1 := by
  unfold doB
  by_cases hr : r.rz.right = false
  · rw [if_pos hr]; exact h
  rw [if_neg hr]
  cases hx : b.T[r.term.toNat]? with
  | none => exact h
  | some x =>
    have hxm := List.mem_of_getElem? hx
    have hset : ∀ y : Tm, OkS y.s → ∀ z ∈ b.T.set r.term.toNat y, OkS z.s := fun y hy z hz => by
      rcases List.mem_or_eq_of_mem_set hz with hz | hz
      · exact h.sets z hz
      · rw [hz]; exact hy
    simp only
    by_cases h9 : r.kind = 9
    · rw [if_pos h9]
      exact ⟨by simpa using h.few, hset _ (h.sets x hxm), h.ord, h.ok, h.len⟩
    rw [if_neg h9]
    by_cases h8 : r.kind = 8
    · rw [if_pos h8]
      split
      · exact h
      · exact ⟨by simpa using h.few, hset _ (Ca.ok_give (Ca.ok_loadT (h.sets x hxm) _ _ _ _) _ _ _ _ _ _ _ _), h.ord, h.ok, h.len⟩
    rw [if_neg h8]
    have hR : RightR r := by
      refine ⟨?_, by simpa using hr⟩
      have : r.rz.right = true := by simpa using hr
      simp only [RZ.right, Rec.rz, Bool.and_eq_true] at this
      have a1 := of_decide_eq_true this.1.1.1.1.1.1.1.1
      have a2 := of_decide_eq_true this.1.1.1.1.1.1.1.2
      omega
    unfold stepB
    simp only
    cases hg : getK (kyR r) b.L with
    | none =>
      simp only [Option.getD_none, Option.isSome_none]
      by_cases he : (stepF zeroT r).2 = 0
      case neg => rw [if_pos he]; exact h
      obtain ⟨ho, hk⟩ := step_ok (.inl rfl) hR (.inl rfl) he
      rw [if_neg (by simpa using he)]
      by_cases hfull : 400 ≤ b.L.length
      · rw [if_pos ⟨trivial, hfull⟩]; exact h
      rw [if_neg (fun hh => hfull hh.2)]
      have hgk : getK (kyT (stepF zeroT r).1) b.L = none := by rw [hk]; exact hg
      have hL : Sorted (insL (stepF zeroT r).1 b.L) := insL_sorted _ h.ord
      have hO : ∀ t ∈ insL (stepF zeroT r).1 b.L, OkT t := fun t ht => by
        rcases insL_mem ht with rfl | ht
        · exact ho
        · exact h.ok t ht
      have hl : (insL (stepF zeroT r).1 b.L).length ≤ 400 := by rw [insL_len_new hgk]; omega
      split
      · split
        · exact h
        · exact ⟨by simpa using h.few, hset _ (Ca.ok_give (h.sets x hxm) _ _ _ _ _ _ _ _), hL, hO, hl⟩
      · exact ⟨h.few, h.sets, hL, hO, hl⟩
    | some w =>
      obtain ⟨hwm, hwk⟩ := getK_some hg
      simp only [Option.getD_some, Option.isSome_some]
      by_cases he : (stepF w r).2 = 0
      case neg => rw [if_pos he]; exact h
      obtain ⟨ho, hk⟩ := step_ok (.inr (h.ok w hwm)) hR (.inr hwk) he
      rw [if_neg (by simpa using he), if_neg (fun hh => by cases hh.1)]
      have hgk : getK (kyT (stepF w r).1) b.L = some w := by rw [hk]; exact hg
      have hL : Sorted (insL (stepF w r).1 b.L) := insL_sorted _ h.ord
      have hO : ∀ t ∈ insL (stepF w r).1 b.L, OkT t := fun t ht => by
        rcases insL_mem ht with rfl | ht
        · exact ho
        · exact h.ok t ht
      have hl : (insL (stepF w r).1 b.L).length ≤ 400 := by rw [insL_len_old h.ord hgk]; exact h.len
      split
      · split
        · exact h
        · exact ⟨by simpa using h.few, hset _ (Ca.ok_give (h.sets x hxm) _ _ _ _ _ _ _ _), hL, hO, hl⟩
      · exact ⟨h.few, h.sets, hL, hO, hl⟩
end Go.Proofs.YtfpighmafofoeaaGreatDoor.GL

namespace Go.Proofs.YtfpighmafofoeaaGreatDoor.GL
open Go Go.RowKit
open St (Txn txnL txnV zeroT RightT OkT stepF Rec recV RightR pairV)
open Ca (S4 flat setV OkS giveE giveT loadE loadT notesV)
set_option maxRecDepth 10000
set_option pp.deepTerms.threshold 8
set_option pp.maxSteps 3000
set_option linter.unusedSimpArgs false
set_option linter.unusedVariables false

def recL (r : Rec) : List Value := [.int .i64 r.kind, .int .u16 r.term, .int .u32 r.stan, .string (mkS r.pan), .int .i64 r.amount, .int .i64 r.n0, .int .i64 r.n1, .int .i64 r.n2, .int .i64 r.n3, .int .i64 r.x0, .int .i64 r.x1, .int .i64 r.x2, .int .i64 r.x3, .int .i64 r.x4, .int .i64 r.x5, .int .i64 r.x6, .int .i64 r.x7]
theorem own_dele {H0 R G R1 G' : Heap} {b : Nat} (a : Own H0 R G R1) (hb : H0 b = none) (hr : R1 b = none) (hl : Heap.le (dele G b) G') : Own H0 R G' R1 := by
  refine ⟨fun i o h1 h2 => ?_, fun i o h => ?_⟩
  · obtain ⟨h3, h4⟩ := a.mv i o h1 h2
    have hi : i ≠ b := fun e => by subst e; rw [hb] at h2; cases h2
    exact ⟨h3, hl _ _ (by rw [dele_ne _ hi]; exact h4)⟩
  · have hi : i ≠ b := fun e => by subst e; rw [hr] at h; cases h
    exact hl _ _ (by rw [dele_ne _ hi]; exact a.le _ _ h)
/-- A terminal is stored in its row. -/
theorem terms_set {R : Heap} {p m : Nat} {fv : Value} {M : List Txn} {T : List Tm} {tb o c : Nat} (h : BookR R p fv (.slice (some ⟨tb, o, none⟩) T.length c) m M T) {i : Nat} (hi : i < T.length) (y : Tm) :
    ∃ tail room, R tb = some (.row true o (rowsC Tm.cells T ++ tail) room) ∧ splice (rowsC Tm.cells T ++ tail) (i * 18) y.cells = rowsC Tm.cells (T.set i y) ++ tail ∧ i * 18 + 18 ≤ (rowsC Tm.cells T ++ tail).length ∧
      BookR (upd R tb (.row true o (rowsC Tm.cells (T.set i y) ++ tail) room)) p fv (.slice (some ⟨tb, o, none⟩) T.length c) m M (T.set i y) := by
  have hlX := rowsC_len tm18 T
  have htp : tb ≠ p := fun e => h.tp (by rw [e]; rfl)
  have htm : tb ≠ m := fun e => h.tm (by rw [e]; rfl)
  rcases h.lst with ⟨hv, _⟩ | ⟨b', o', cap', tail, room, hv, hrow, hlc, hcap, hfit⟩
  · cases hv
  cases hv
  have hk : i * 18 + 18 ≤ (rowsC Tm.cells T).length := by rw [hlX]; omega
  refine ⟨tail, room, hrow, ?_, by rw [List.length_append]; omega, ⟨?_, ?_, ?_, h.pm, h.tp, h.tm⟩⟩
  · rw [← rowsC_set tm18 T i y hi]
    unfold splice
    rw [List.take_append_of_le_length (by omega), List.drop_append_of_le_length (by rw [tm18]; exact hk)]
    simp only [List.append_assoc]
  · rw [upd_ne _ _ htp.symm]; exact h.row
  · rw [upd_ne _ _ htm.symm]; exact h.map
  · refine .inr ⟨tb, o, c, tail, room, by rw [List.length_set], upd_same _ _ _, by rw [rowsC_len tm18], by rw [List.length_set]; exact hcap, by rw [List.length_set]; exact hfit⟩
theorem lenMapK {P : Program} {k e : TypeId} {r : Nat} {es : List (Value × Value)} {G : Heap} (h : G r = some (.map es)) : qLenU P (.map k e) (.map (some r)) G = some (.int .i64 es.length) := by
  unfold qLenU; simp [h]
theorem map_set {R : Heap} {p m : Nat} {fv tv : Value} {M : List Txn} {T : List Tm} (h : BookR R p fv tv m M T) (u : Txn) : BookR (upd R m (.map ((putM u M).map entV))) p fv tv m (putM u M) T :=
  ⟨by rw [upd_ne _ _ h.pm]; exact h.row, upd_same _ _ _, h.lst.up (fun i o hi ho => by rw [upd_ne _ _ (fun e => h.tm (by rw [hi, e]))]; exact ho), h.pm, h.tp, h.tm⟩
def zRow : GObj := .row true 0 [.int .u16 0, .int .u32 0, .string (mkS []), .int .i64 0, .int .i64 0, .int .i64 0, .int .i64 0, .int .i64 0, .int .i64 0, .int .i64 0, .int .i64 0] 0
set_option maxHeartbeats 400000 in
theorem bstep_c (H R : Heap) (p : Nat) (fv tv : Value) (m : Nat) (M L : List Txn) (T : List Tm) (hR : Heap.le R H) (hB : BookR R p fv tv m M T) (hp : M.Perm L) (hok : BOk ⟨T, L⟩) (r : Rec) (hr : RightR r) (x : Tm) (hx : T[r.term.toNat]? = some x) (h0 : 0 ≤ r.term) :
    ECalls Tryz.prog 27 #[.pointer (some ⟨p, 0, none⟩), recV r, .agg x.cells.toArray] H fun v H' => v = .int .i64 (stepB ⟨T, L⟩ x r).2 ∧ ∃ R' M', Own H R H' R' ∧ BookR R' p fv tv m M' (stepB ⟨T, L⟩ x r).1.T ∧ M'.Perm (stepB ⟨T, L⟩ x r).1.L := by
  refine ecalls_of_ewp (args := [_, _, _]) Tryz.func27 rfl rfl rfl (by simp [Tryz.ntmps27]) (by kernel_rfl) ?_
  have e1 : recV r = .agg (recL r).toArray := rfl
  rw [e1]
  obtain ⟨rl, hrl⟩ : ∃ rl, rl = recL r := ⟨_, rfl⟩
  obtain ⟨xl, hxl⟩ : ∃ xl, xl = x.cells := ⟨_, rfl⟩
  rw [← hrl, ← hxl]
  have rl17 : rl.length = 17 := by rw [hrl]; rfl
  have xl18 : xl.length = 18 := by rw [hxl]; rfl
  simp (disch := first | omega | assumption | decide | (simp <;> omega) | fail) [facts, ]
  refine fresh_intro fun b4 hb4 => ?_
  simp (disch := first | omega | assumption | decide | (simp <;> omega) | fail) [facts, ]
  refine fresh_intro fun b5 hb5 => ?_
  have q45 : b4 ≠ b5 := ne_of_fresh hb5 (upd_same _ _ _)
  have hb5' : H b5 = none := le_of_none (le_upd _ hb4) hb5
  have r4 := upd_other (o := .row true 0 xl 0) hb5 (upd_same H b4 (.row true 0 rl 0))
  have r5 := upd_same (upd H b4 (.row true 0 rl 0)) b5 (.row true 0 xl 0)
  have ow : Own H R (upd (upd H b4 (.row true 0 rl 0)) b5 (.row true 0 xl 0)) R := (Own.refl hR).grow (Heap.le_trans (le_upd _ hb4) (le_upd _ hb5))
  have hHG := Heap.le_trans (le_upd (.row true 0 rl 0) hb4) (le_upd (.row true 0 xl 0) hb5)
  generalize upd (upd H b4 _) b5 _ = G at *
  have hrp := ow.le _ _ hB.row
  have hmp := ow.le _ _ hB.map
  obtain ⟨wo, hwo⟩ : ∃ wo, wo = getK (kyR r) M := ⟨_, rfl⟩
  obtain ⟨w, hw⟩ : ∃ w, w = wo.getD zeroT := ⟨_, rfl⟩
  have fk : List.take 2 rl.tail = [.int .u16 r.term, .int .u32 r.stan] := by rw [hrl]; rfl
  have hq := lookK hmp (kyR r)
  rw [← hwo, ← hw] at hq
  simp only [encK, kyR, txnV] at hq
  have tl := txn11 w
  have tone := txn1 w
  have hspl : splice [.int .u16 0, .int .u32 0, .string (mkS []), .int .i64 0, .int .i64 0, .int .i64 0, .int .i64 0, .int .i64 0, .int .i64 0, .int .i64 0, .int .i64 0] 0 (txnL w) = txnL w := splice_all rfl
  obtain ⟨I, hI⟩ : ∃ I : St → Prop, I = (fun s => s.env 0 = .pointer (some ⟨p, 0, none⟩) ∧ s.env 4 = .pointer (some ⟨b4, 0, none⟩) ∧ s.env 5 = .pointer (some ⟨b5, 0, none⟩) ∧ s.env 6 = .int .i64 0 ∧ s.env 8 = .bool wo.isSome ∧ ∃ b7, s.env 7 = .pointer (some ⟨b7, 0, none⟩) ∧ H b7 = none ∧ Own H R s.heap R ∧ s.heap b4 = some (.row true 0 rl 0) ∧ s.heap b5 = some (.row true 0 xl 0) ∧ s.heap b7 = some (.row true 0 (txnL w) 0)) := ⟨_, rfl⟩
  simp (disch := first | omega | assumption | decide | (simp <;> omega) | fail) [facts, ]
  refine w_cut I ?_ ?_
  · refine w_plan (P := Tryz.prog) (by simp [facts]) (opsP [0,1,2,4] (.both (opsP [3] (.both (opsP [5] (.both (opsP [6,7,8,9,10,11,12] .done) (opsP [10,6,7,8,9,11,12] .done))) (opsP [10,5,6,7,8,9,11,12] .done))) (.both (opsP [5] (.both (opsP [3] (.both (opsP [6,7,8,9,10,11,12] .done) (opsP [10,6,7,8,9,11,12] .done))) (opsP [10,3,6,7,8,9,11,12] .done))) (opsP [10] (.both (opsP [3,5,6,7,8,9,11,12] .done) (opsP [5,3,6,7,8,9,11,12] .done)))))) ?_ ?_
    · decide +kernel
    simp (disch := first | omega | assumption | decide | (simp <;> omega) | fail) [facts, hrp, r4, fk, hq]
    try (repeat' apply And.intro)
    all_goals
      refine fresh_intro fun b7 hb7 => ?_
      have rr := upd_other (o := .row true 0 [.int .u16 0, .int .u32 0, .string (mkS []), .int .i64 0, .int .i64 0, .int .i64 0, .int .i64 0, .int .i64 0, .int .i64 0, .int .i64 0, .int .i64 0] 0) hb7 hrp
      have rm := upd_other (o := .row true 0 [.int .u16 0, .int .u32 0, .string (mkS []), .int .i64 0, .int .i64 0, .int .i64 0, .int .i64 0, .int .i64 0, .int .i64 0, .int .i64 0, .int .i64 0] 0) hb7 hmp
      have rb4 := upd_other (o := .row true 0 [.int .u16 0, .int .u32 0, .string (mkS []), .int .i64 0, .int .i64 0, .int .i64 0, .int .i64 0, .int .i64 0, .int .i64 0, .int .i64 0, .int .i64 0] 0) hb7 r4
      have hq7 := lookK rm (kyR r)
      rw [← hwo, ← hw] at hq7
      simp only [encK, kyR, txnV] at hq7
      have hb7' : H b7 = none := le_of_none hHG hb7
      have q47 : b4 ≠ b7 := ne_of_fresh hb7 r4
      have q57 : b5 ≠ b7 := ne_of_fresh hb7 r5
      simp (disch := first | omega | assumption | decide | (simp <;> omega) | fail) [facts, rr, rb4, hq7, fk, upd_upd, hspl]
      subst hI
      have w1 := upd_other (o := .row true 0 (txnL w) 0) hb7 r4
      have w2 := upd_other (o := .row true 0 (txnL w) 0) hb7 r5
      have w3 := ow.grow (le_upd (.row true 0 (txnL w) 0) hb7)
      first
        | exact ⟨hb7', w3, w1, w2⟩
        | exact ⟨by simp, by simp, by simp, by simp, by simp, ⟨b7, by simp, hb7', w3, w1, w2, upd_same _ _ _⟩⟩
        | exact ⟨⟨by simp, by simp, by simp, by simp, by simp, ⟨b7, by simp, hb7', w3, w1, w2, upd_same _ _ _⟩⟩, ⟨by simp, by simp, by simp, by simp, by simp, ⟨b7, by simp, hb7', w3, w1, w2, upd_same _ _ _⟩⟩⟩
  rintro ⟨env, G2⟩ hII
  subst hI
  obtain ⟨e0, e4, e5, e6, e8, b7, e7, hb7, ow, r4, r5, r7⟩ := hII
  simp only at e0 e4 e5 e6 e8 e7 ow r4 r5 r7
  have k11 : List.take 11 (txnL w) = txnL w := rfl
  have k17 : List.take 17 rl = rl := List.take_of_length_le (by omega)
  have k18 : List.take 18 xl = xl := List.take_of_length_le (by omega)
  have hb5R : R b5 = none := le_of_none hR hb5'
  have hb4R : R b4 = none := le_of_none hR hb4
  have hb7R : R b7 = none := le_of_none hR hb7
  have hxx : flat x.s ++ [.bool x.out, .int .i64 x.ld] = xl := by rw [hxl]; rfl
  have g0 : rl[0]? = some (.int .i64 r.kind) := by rw [hrl]; rfl
  have g00 : rl.head? = some (.int .i64 r.kind) := by rw [hrl]; rfl
  have g1 : rl[1]? = some (.int .u16 r.term) := by rw [hrl]; rfl
  have gn : List.take 4 (List.drop 5 rl) = [.int .i64 r.n0, .int .i64 r.n1, .int .i64 r.n2, .int .i64 r.n3] := by rw [hrl]; rfl
  have gx : List.take 4 (List.drop 9 rl) = [.int .i64 r.x0, .int .i64 r.x1, .int .i64 r.x2, .int .i64 r.x3] := by rw [hrl]; rfl
  have hgL : wo = getK (kyR r) L := by rw [hwo]; exact getK_perm hp hok.ord.nodup _
  have hwt : RightT w ∧ (w = zeroT ∨ kyT w = kyR r) := by
    rw [hw, hgL]
    cases hg : getK (kyR r) L with
    | none => exact ⟨.inl rfl, .inl rfl⟩
    | some t =>
      obtain ⟨h1, h2⟩ := getK_some hg
      exact ⟨.inr (hok.ok t h1), .inr h2⟩
  have hstep := fun G => St.step_c w r G hwt.1 hr (hwt.2.imp id fun h => by
    have h1 : (kyT w).t = (kyR r).t := by rw [h]
    have h2 : (kyT w).s = (kyR r).s := by rw [h]
    exact ⟨h1.symm, h2.symm⟩)
  obtain ⟨q, hqs⟩ : ∃ q, q = stepF w r := ⟨_, rfl⟩
  have hsB : stepB ⟨T, L⟩ x r = if q.2 ≠ 0 then (⟨T, L⟩, q.2) else if wo.isSome = false ∧ 400 ≤ L.length then (⟨T, L⟩, 21) else if r.kind = 6 then
      (if giveE x.s r.n0 r.n1 r.n2 r.n3 r.x0 r.x1 r.x2 r.x3 ≠ 0 then (⟨T, L⟩, giveE x.s r.n0 r.n1 r.n2 r.n3 r.x0 r.x1 r.x2 r.x3) else (⟨T.set r.term.toNat { x with s := giveT x.s r.n0 r.n1 r.n2 r.n3 r.x0 r.x1 r.x2 r.x3 }, insL q.1 L⟩, 0)) else (⟨T, insL q.1 L⟩, 0) := by
    rw [hqs, hw, hgL]; rfl
  generalize stepB ⟨T, L⟩ x r = res at hsB ⊢
  rw [← hqs] at hstep
  have q1l := txn11 q.1
  have q1o := txn1 q.1
  simp only [e1, pairV, txnV] at hstep
  rw [← hrl] at hstep
  have hspq : splice [.int .u16 0, .int .u32 0, .string (mkS []), .int .i64 0, .int .i64 0, .int .i64 0, .int .i64 0, .int .i64 0, .int .i64 0, .int .i64 0, .int .i64 0] 0 (txnL q.1) = txnL q.1 := splice_all rfl
  simp (disch := first | omega | assumption | decide | (simp <;> omega) | fail) [facts, e7, e4, r7, r4, k11, k17]
  refine (hstep G2).mono ?_
  rintro v G3 ⟨rfl, hle3⟩
  replace ow := ow.grow hle3
  replace r4 := hle3 _ _ r4
  replace r5 := hle3 _ _ r5
  simp (disch := first | omega | assumption | decide | (simp <;> omega) | fail) [facts, ]
  refine fresh_intro fun b9 hb9 => ?_
  have q95 : b9 ≠ b5 := (ne_of_fresh hb9 r5).symm
  simp (disch := first | omega | assumption | decide | (simp <;> omega) | fail) [facts, upd_upd, hspq]
  have r9 := upd_same G3 b9 (.row true 0 (txnL q.1) 0)
  replace r4 := upd_other (o := .row true 0 (txnL q.1) 0) hb9 r4
  replace r5 := upd_other (o := .row true 0 (txnL q.1) 0) hb9 r5
  have hb9' : R b9 = none := le_of_none ow.le hb9
  replace ow := ow.grow (le_upd (.row true 0 (txnL q.1) 0) hb9)
  generalize upd G3 b9 _ = G4 at *
  obtain ⟨i, hi⟩ : ∃ i : Nat, r.term = (i : Int) := ⟨r.term.toNat, by omega⟩
  have hiN : r.term.toNat = i := by omega
  rw [hiN] at hx hsB
  rw [hi] at g1
  obtain ⟨_, g0b⟩ := List.getElem?_eq_some_iff.1 g0
  obtain ⟨_, g1b⟩ := List.getElem?_eq_some_iff.1 g1
  have hiT : i < T.length := (List.getElem?_eq_some_iff.1 hx).1
  have hiI : (i : Int) < (T.length : Int) := by omega
  have j11 : List.take 11 (txnL q.1) = txnL q.1 := rfl
  obtain ⟨a, c, rfl, hsT⟩ := terms_at hB.lst
  obtain ⟨tb, to, rfl⟩ := hsT.lit (by omega)
  by_cases he : q.2 = 0
  case neg =>
    rw [if_pos he] at hsB
    subst hsB
    simp (disch := first | omega | assumption | decide | (simp <;> omega) | fail) [facts, he]
    exact ⟨_, Heap.le_refl _, R, ow, M, hB, hp⟩
  rw [if_neg (not_not_intro he)] at hsB
  obtain ⟨hqo, hqk⟩ := step_ok hwt.1 hr hwt.2 (by rw [← hqs]; exact he)
  rw [← hqs] at hqo hqk
  have hkey : encK (kyT q.1) = .agg #[.int .u16 r.term, .int .u32 r.stan] := by rw [hqk]; rfl
  have hMl : M.length = L.length := hp.length_eq
  cases hws : wo.isSome with
  | false =>
    rw [hws] at hsB e8
    by_cases hful : 400 ≤ L.length
    case pos =>
      have hpG := ow.le _ _ hB.row
      have hmG := ow.le _ _ hB.map
      have hfI : (400 : Int) ≤ (L.length : Int) := by omega
      have hlm := lenMapK (P := Tryz.prog) (k := 37) (e := 67) hmG
      rw [List.length_map, hMl] at hlm
      rw [if_pos ⟨rfl, hful⟩] at hsB
      subst hsB
      simp (disch := first | omega | assumption | decide | (simp <;> omega) | fail) [facts, he, e8, e0, hpG, hlm, hfI]
      exact ⟨_, Heap.le_refl _, R, ow, M, hB, hp⟩
    have hfI : ¬ (400 : Int) ≤ (L.length : Int) := by omega
    have hpG0 := ow.le _ _ hB.row
    have hlm := lenMapK (P := Tryz.prog) (k := 37) (e := 67) (ow.le _ _ hB.map)
    rw [List.length_map, hMl] at hlm
    rw [if_neg (fun h => hful h.2)] at hsB
    simp (disch := first | omega | assumption | decide | (simp <;> omega) | fail) [facts, he, e8, e0, hpG0, hlm, hfI]
    by_cases h6 : r.kind = 6
    case neg =>
      rw [if_neg h6] at hsB
      subst hsB
      simp (disch := first | omega | assumption | decide | (simp <;> omega) | fail) [facts, e0, e4, r4, g0, g0b, h6]
      refine w_plan (P := Tryz.prog) (by simp [facts]) (opsP [0,1,2,3,4,5,6,7] .done) ?_ ?_
      · decide +kernel
      have hmG := ow.le _ _ hB.map
      have hpG := ow.le _ _ hB.row
      have hst := fun K hK => setK hmG q.1 (K := K) hK
      simp only [hkey, txnV] at hst
      simp (disch := first | omega | assumption | decide | (simp <;> omega) | fail) [facts, e0, e4, r4, r9, hpG, fk, j11]
      refine hst _ ?_
      simp (disch := first | omega | assumption | decide | (simp <;> omega) | fail) [facts, ]
      exact ⟨_, Heap.le_refl _, _, ow.set hB.map _, _, map_set hB q.1, put_ins hp hok.ord q.1⟩
    rw [if_pos h6] at hsB
    have hga := Ca.giveA_c x.s b5 r.n0 r.n1 r.n2 r.n3 r.x0 r.x1 r.x2 r.x3 x.out x.ld G4 (by rw [hxx]; exact r5) (hok.sets x (List.mem_of_getElem? hx))
    simp only [notesV] at hga
    simp (disch := first | omega | assumption | decide | (simp <;> omega) | fail) [facts, e0, e4, e5, r4, g0, g0b, h6, gn, gx]
    refine hga.mono ?_
    rintro v G5 ⟨rfl, hle5, r5'⟩
    replace ow := own_dele ow hb5' hb5R hle5
    replace r4 := hle5 _ _ (Ca.dele_get q45 r4)
    replace r9 := hle5 _ _ (Ca.dele_get q95 r9)
    by_cases hge : giveE x.s r.n0 r.n1 r.n2 r.n3 r.x0 r.x1 r.x2 r.x3 = 0
    case neg =>
      rw [if_pos hge] at hsB
      subst hsB
      simp (disch := first | omega | assumption | decide | (simp <;> omega) | fail) [facts, hge]
      exact ⟨_, Heap.le_refl _, R, ow, M, hB, hp⟩
    rw [if_neg (not_not_intro hge)] at hsB
    subst hsB
    simp (disch := first | omega | assumption | decide | (simp <;> omega) | fail) [facts, hge]
    obtain ⟨y, hy⟩ : ∃ y : Tm, y = { x with s := giveT x.s r.n0 r.n1 r.n2 r.n3 r.x0 r.x1 r.x2 r.x3 } := ⟨_, rfl⟩
    obtain ⟨yl, hyl⟩ : ∃ yl, yl = y.cells := ⟨_, rfl⟩
    have y18 : yl.length = 18 := by rw [hyl]; rfl
    have y1 : yl.all (·.oneCell') = true := by rw [hyl]; rfl
    have yk : List.take 18 yl = yl := List.take_of_length_le (by omega)
    have r5y : G5 b5 = some (.row true 0 yl 0) := by rw [r5', hyl, hy]; rfl
    obtain ⟨tail, room, hrow, hspl2, hfit2, hB2⟩ := terms_set hB hiT y
    rw [← hyl] at hspl2
    have hrowG := ow.le _ _ hrow
    have hpG := ow.le _ _ hB.row
    refine w_plan (P := Tryz.prog) (by simp [facts]) (opsP [0,1,2,3,4,5,6,7,8,9] .done) ?_ ?_
    · decide +kernel
    simp (disch := first | omega | assumption | decide | (simp <;> omega) | fail) [facts, e0, e4, e5, r4, r5y, hpG, g1, g1b, hiI, hrowG, yk, hspl2]
    have ow2 := ow.set hrow (.row true to (rowsC Tm.cells (T.set i y) ++ tail) room)
    have n4 : b4 ≠ tb := fun e => by subst e; rw [hb4R] at hrow; cases hrow
    have n9 : b9 ≠ tb := fun e => by subst e; rw [hb9'] at hrow; cases hrow
    have r4' : upd G5 tb (.row true to (rowsC Tm.cells (T.set i y) ++ tail) room) b4 = some (.row true 0 rl 0) := by rw [upd_ne _ _ n4]; exact r4
    have r9' : upd G5 tb (.row true to (rowsC Tm.cells (T.set i y) ++ tail) room) b9 = some (.row true 0 (txnL q.1) 0) := by rw [upd_ne _ _ n9]; exact r9
    clear r4 r9
    generalize upd G5 tb _ = G6 at *
    generalize upd R tb _ = R2 at *
    refine w_plan (P := Tryz.prog) (by simp [facts]) (opsP [0,1,2,3,4,5,6,7] .done) ?_ ?_
    · decide +kernel
    have hmG2 := ow2.le _ _ hB2.map
    have hpG2 := ow2.le _ _ hB2.row
    have hst := fun K hK => setK hmG2 q.1 (K := K) hK
    simp only [hkey, txnV] at hst
    simp (disch := first | omega | assumption | decide | (simp <;> omega) | fail) [facts, e0, e4, r4', r9', hpG2, fk, j11]
    refine hst _ ?_
    simp (disch := first | omega | assumption | decide | (simp <;> omega) | fail) [facts, ]
    refine ⟨_, Heap.le_refl _, _, ow2.set hB2.map _, _, ?_, put_ins hp hok.ord q.1⟩
    rw [← hy]
    exact map_set hB2 q.1
  | true =>
    rw [hws] at hsB e8
    rw [if_neg (fun h => by cases h.1)] at hsB
    simp (disch := first | omega | assumption | decide | (simp <;> omega) | fail) [facts, he, e8]
    by_cases h6 : r.kind = 6
    case neg =>
      rw [if_neg h6] at hsB
      subst hsB
      simp (disch := first | omega | assumption | decide | (simp <;> omega) | fail) [facts, e0, e4, r4, g0, g0b, h6]
      refine w_plan (P := Tryz.prog) (by simp [facts]) (opsP [0,1,2,3,4,5,6,7] .done) ?_ ?_
      · decide +kernel
      have hmG := ow.le _ _ hB.map
      have hpG := ow.le _ _ hB.row
      have hst := fun K hK => setK hmG q.1 (K := K) hK
      simp only [hkey, txnV] at hst
      simp (disch := first | omega | assumption | decide | (simp <;> omega) | fail) [facts, e0, e4, r4, r9, hpG, fk, j11]
      refine hst _ ?_
      simp (disch := first | omega | assumption | decide | (simp <;> omega) | fail) [facts, ]
      exact ⟨_, Heap.le_refl _, _, ow.set hB.map _, _, map_set hB q.1, put_ins hp hok.ord q.1⟩
    rw [if_pos h6] at hsB
    have hga := Ca.giveA_c x.s b5 r.n0 r.n1 r.n2 r.n3 r.x0 r.x1 r.x2 r.x3 x.out x.ld G4 (by rw [hxx]; exact r5) (hok.sets x (List.mem_of_getElem? hx))
    simp only [notesV] at hga
    simp (disch := first | omega | assumption | decide | (simp <;> omega) | fail) [facts, e0, e4, e5, r4, g0, g0b, h6, gn, gx]
    refine hga.mono ?_
    rintro v G5 ⟨rfl, hle5, r5'⟩
    replace ow := own_dele ow hb5' hb5R hle5
    replace r4 := hle5 _ _ (Ca.dele_get q45 r4)
    replace r9 := hle5 _ _ (Ca.dele_get q95 r9)
    by_cases hge : giveE x.s r.n0 r.n1 r.n2 r.n3 r.x0 r.x1 r.x2 r.x3 = 0
    case neg =>
      rw [if_pos hge] at hsB
      subst hsB
      simp (disch := first | omega | assumption | decide | (simp <;> omega) | fail) [facts, hge]
      exact ⟨_, Heap.le_refl _, R, ow, M, hB, hp⟩
    rw [if_neg (not_not_intro hge)] at hsB
    subst hsB
    simp (disch := first | omega | assumption | decide | (simp <;> omega) | fail) [facts, hge]
    obtain ⟨y, hy⟩ : ∃ y : Tm, y = { x with s := giveT x.s r.n0 r.n1 r.n2 r.n3 r.x0 r.x1 r.x2 r.x3 } := ⟨_, rfl⟩
    obtain ⟨yl, hyl⟩ : ∃ yl, yl = y.cells := ⟨_, rfl⟩
    have y18 : yl.length = 18 := by rw [hyl]; rfl
    have y1 : yl.all (·.oneCell') = true := by rw [hyl]; rfl
    have yk : List.take 18 yl = yl := List.take_of_length_le (by omega)
    have r5y : G5 b5 = some (.row true 0 yl 0) := by rw [r5', hyl, hy]; rfl
    obtain ⟨tail, room, hrow, hspl2, hfit2, hB2⟩ := terms_set hB hiT y
    rw [← hyl] at hspl2
    have hrowG := ow.le _ _ hrow
    have hpG := ow.le _ _ hB.row
    refine w_plan (P := Tryz.prog) (by simp [facts]) (opsP [0,1,2,3,4,5,6,7,8,9] .done) ?_ ?_
    · decide +kernel
    simp (disch := first | omega | assumption | decide | (simp <;> omega) | fail) [facts, e0, e4, e5, r4, r5y, hpG, g1, g1b, hiI, hrowG, yk, hspl2]
    have ow2 := ow.set hrow (.row true to (rowsC Tm.cells (T.set i y) ++ tail) room)
    have n4 : b4 ≠ tb := fun e => by subst e; rw [hb4R] at hrow; cases hrow
    have n9 : b9 ≠ tb := fun e => by subst e; rw [hb9'] at hrow; cases hrow
    have r4' : upd G5 tb (.row true to (rowsC Tm.cells (T.set i y) ++ tail) room) b4 = some (.row true 0 rl 0) := by rw [upd_ne _ _ n4]; exact r4
    have r9' : upd G5 tb (.row true to (rowsC Tm.cells (T.set i y) ++ tail) room) b9 = some (.row true 0 (txnL q.1) 0) := by rw [upd_ne _ _ n9]; exact r9
    clear r4 r9
    generalize upd G5 tb _ = G6 at *
    generalize upd R tb _ = R2 at *
    refine w_plan (P := Tryz.prog) (by simp [facts]) (opsP [0,1,2,3,4,5,6,7] .done) ?_ ?_
    · decide +kernel
    have hmG2 := ow2.le _ _ hB2.map
    have hpG2 := ow2.le _ _ hB2.row
    have hst := fun K hK => setK hmG2 q.1 (K := K) hK
    simp only [hkey, txnV] at hst
    simp (disch := first | omega | assumption | decide | (simp <;> omega) | fail) [facts, e0, e4, r4', r9', hpG2, fk, j11]
    refine hst _ ?_
    simp (disch := first | omega | assumption | decide | (simp <;> omega) | fail) [facts, ]
    refine ⟨_, Heap.le_refl _, _, ow2.set hB2.map _, _, ?_, put_ins hp hok.ord q.1⟩
    rw [← hy]
    exact map_set hB2 q.1
end Go.Proofs.YtfpighmafofoeaaGreatDoor.GL

namespace Go.Proofs.YtfpighmafofoeaaGreatDoor.GL
open Go Go.RowKit
open St (Txn txnL txnV zeroT RightT OkT stepF Rec recV RightR pairV)
open Ca (S4 flat setV OkS giveE giveT loadE loadT notesV)
set_option maxRecDepth 10000
set_option pp.deepTerms.threshold 8
set_option pp.maxSteps 3000
set_option linter.unusedSimpArgs false
set_option linter.unusedVariables false

set_option maxHeartbeats 400000 in
theorem bdo_c (H R : Heap) (p : Nat) (fv tv : Value) (m : Nat) (M L : List Txn) (T : List Tm) (hR : Heap.le R H) (hB : BookR R p fv tv m M T) (hp : M.Perm L) (hok : BOk ⟨T, L⟩) (r : Rec) (h0 : 0 ≤ r.term) (h1 : r.term ≤ 65535) (hpl : r.pan.length ≤ 100000) :
    ECalls Tryz.prog 9 #[.pointer (some ⟨p, 0, none⟩), recV r] H fun v H' => v = .int .i64 (doB ⟨T, L⟩ r).2 ∧ ∃ R' M', Own H R H' R' ∧ BookR R' p fv tv m M' (doB ⟨T, L⟩ r).1.T ∧ M'.Perm (doB ⟨T, L⟩ r).1.L := by
  refine ecalls_of_ewp (args := [_, _]) Tryz.func9 rfl rfl rfl (by simp [Tryz.ntmps9]) (by kernel_rfl) ?_
  have e1 : recV r = .agg (recL r).toArray := rfl
  have cR := fun G => GL.right_c r.rz G (by show (mkS r.pan).size ≤ _; rw [mkS_sz]; omega)
  have cR' : ∀ G, ECalls Tryz.prog 24 #[.agg (recL r).toArray] G fun v H' => v = .bool r.rz.right ∧ Heap.le G H' := cR
  clear cR
  rw [e1]
  obtain ⟨rl, hrl⟩ : ∃ rl, rl = recL r := ⟨_, rfl⟩
  rw [← hrl] at cR' ⊢
  have rl17 : rl.length = 17 := by rw [hrl]; rfl
  have k17 : List.take 17 rl = rl := List.take_of_length_le (by omega)
  obtain ⟨i, hi⟩ : ∃ i : Nat, r.term = (i : Int) := ⟨r.term.toNat, by omega⟩
  have hiN : r.term.toNat = i := by omega
  have g0 : rl[0]? = some (.int .i64 r.kind) := by rw [hrl]; rfl
  have g1 : rl[1]? = some (.int .u16 i) := by rw [hrl, ← hi]; rfl
  have g4 : rl[4]? = some (.int .i64 r.amount) := by rw [hrl]; rfl
  obtain ⟨_, g0b⟩ := List.getElem?_eq_some_iff.1 g0
  obtain ⟨_, g1b⟩ := List.getElem?_eq_some_iff.1 g1
  obtain ⟨_, g4b⟩ := List.getElem?_eq_some_iff.1 g4
  have gn : List.take 4 (List.drop 5 rl) = [.int .i64 r.n0, .int .i64 r.n1, .int .i64 r.n2, .int .i64 r.n3] := by rw [hrl]; rfl
  have gx : List.take 4 (List.drop 9 rl) = [.int .i64 r.x0, .int .i64 r.x1, .int .i64 r.x2, .int .i64 r.x3] := by rw [hrl]; rfl
  have gl : List.take 4 (List.drop 13 rl) = [.int .i64 r.x4, .int .i64 r.x5, .int .i64 r.x6, .int .i64 r.x7] := by rw [hrl]; rfl
  have hdB : doB ⟨T, L⟩ r = if r.rz.right = false then (⟨T, L⟩, 27) else match T[i]? with
    | none => (⟨T, L⟩, 32)
    | some x => if r.kind = 9 then (⟨T.set i { x with out := true }, L⟩, 0) else if r.kind = 8 then
        (if giveE (loadT x.s r.x4 r.x5 r.x6 r.x7) r.n0 r.n1 r.n2 r.n3 r.x0 r.x1 r.x2 r.x3 ≠ 0 then (⟨T, L⟩, giveE (loadT x.s r.x4 r.x5 r.x6 r.x7) r.n0 r.n1 r.n2 r.n3 r.x0 r.x1 r.x2 r.x3)
        else (⟨T.set i ⟨giveT (loadT x.s r.x4 r.x5 r.x6 r.x7) r.n0 r.n1 r.n2 r.n3 r.x0 r.x1 r.x2 r.x3, false, r.amount⟩, L⟩, 0)) else stepB ⟨T, L⟩ x r := by
    rw [← hiN]; rfl
  generalize doB ⟨T, L⟩ r = res at hdB ⊢
  obtain ⟨a, c, rfl, hsT⟩ := terms_at hB.lst
  simp (disch := first | omega | assumption | decide | (simp <;> omega) | fail) [facts, ]
  refine fresh_intro fun b3 hb3 => ?_
  have r3 := upd_same H b3 (.row true 0 rl 0)
  have ow : Own H R (upd H b3 (.row true 0 rl 0)) R := (Own.refl hR).grow (le_upd _ hb3)
  have hb3R : R b3 = none := le_of_none hR hb3
  have hHG := le_upd (.row true 0 rl 0) hb3
  generalize upd H b3 _ = G at *
  simp (disch := first | omega | assumption | decide | (simp <;> omega) | fail) [facts, r3, k17]
  refine (cR' G).mono ?_
  rintro v G1 ⟨rfl, hle1⟩
  replace ow := ow.grow hle1
  replace r3 := hle1 _ _ r3
  have hpG := ow.le _ _ hB.row
  cases hrr : r.rz.right with
  | false =>
    rw [if_pos hrr] at hdB
    subst hdB
    simp (disch := first | omega | assumption | decide | (simp <;> omega) | fail) [facts, ]
    exact ⟨_, Heap.le_refl _, R, ow, M, hB, hp⟩
  | true =>
  rw [if_neg (by rw [hrr]; decide)] at hdB
  simp (disch := first | omega | assumption | decide | (simp <;> omega) | fail) [facts, ]
  by_cases hiT : i < T.length
  case neg =>
    rw [List.getElem?_eq_none (by omega)] at hdB
    simp only at hdB
    subst hdB
    have hiI : (T.length : Int) ≤ (i : Int) := by omega
    refine w_plan (P := Tryz.prog) (by simp [facts]) (opsP [0,1,2,3,4,5,6,7,8,9,10] .done) ?_ ?_
    · decide +kernel
    simp (disch := first | omega | assumption | decide | (simp <;> omega) | fail) [facts, r3, g1, g1b, hpG, hiI]
    exact ⟨_, Heap.le_refl _, R, ow, M, hB, hp⟩
  have hiI : ¬ (T.length : Int) ≤ (i : Int) := by omega
  have hiI2 : (i : Int) < (T.length : Int) := by omega
  refine w_plan (P := Tryz.prog) (by simp [facts]) (opsP [0,1,2,3,4,5,6,7,8,9,10] .done) ?_ ?_
  · decide +kernel
  simp (disch := first | omega | assumption | decide | (simp <;> omega) | fail) [facts, r3, g1, g1b, hpG, hiI]
  obtain ⟨x, hx⟩ : ∃ x, T[i]? = some x := ⟨_, List.getElem?_eq_getElem hiT⟩
  rw [hx] at hdB
  simp only at hdB
  obtain ⟨tb, to, rfl⟩ := hsT.lit (by omega)
  have g00 : List.take 2 rl.tail = [.int .u16 r.term, .int .u32 r.stan] := by rw [hrl]; rfl
  have rx : rdNU (G1 tb) (to + i * 18) 18 = some x.cells := (hsT.le ow.le).el tm18 hx (j := 0) (r := 18) (by decide) (by decide)
  obtain ⟨xl, hxl⟩ : ∃ xl, xl = x.cells := ⟨_, rfl⟩
  have xl18 : xl.length = 18 := by rw [hxl]; rfl
  have x1 : xl.all (·.oneCell') = true := by rw [hxl]; rfl
  have kx : List.take 18 xl = xl := List.take_of_length_le (by omega)
  have hxx : flat x.s ++ [.bool x.out, .int .i64 x.ld] = xl := by rw [hxl]; rfl
  rw [← hxl] at rx
  have hzs : splice [.int .i64 0, .int .i64 0, .int .i64 0, .int .i64 0, .int .i64 0, .int .i64 0, .int .i64 0, .int .i64 0, .int .i64 0, .int .i64 0, .int .i64 0, .int .i64 0, .int .i64 0, .int .i64 0, .int .i64 0, .int .i64 0, .bool false, .int .i64 0] 0 xl = xl := splice_all (by rw [xl18]; rfl)
  obtain ⟨tail0, room0, hrow0, _, _, _⟩ := terms_set hB hiT x
  obtain ⟨I, hI⟩ : ∃ I : St → Prop, I = (fun s => s.env 0 = .pointer (some ⟨p, 0, none⟩) ∧ s.env 3 = .pointer (some ⟨b3, 0, none⟩) ∧ s.env 4 = .int .i64 0 ∧ ∃ b5, s.env 5 = .pointer (some ⟨b5, 0, none⟩) ∧ H b5 = none ∧ Own H R s.heap R ∧ s.heap b3 = some (.row true 0 rl 0) ∧ s.heap b5 = some (.row true 0 xl 0)) := ⟨_, rfl⟩
  refine w_cut I ?_ ?_
  · refine w_plan (P := Tryz.prog) (by simp [facts]) (opsP [0,1,2,4,5] (.both (opsP [3] (.both (opsP [6,7] (.both (opsP [8,9,10] .done) (opsP [9,8,10] .done))) (opsP [9,6,7,8,10] .done))) (.both (opsP [6] (.both (opsP [3,7] (.both (opsP [8,9,10] .done) (opsP [9,8,10] .done))) (opsP [9,3,7,8,10] .done))) (opsP [9] (.both (opsP [3,6,7,8,10] .done) (opsP [6,3,7,8,10] .done)))))) ?_ ?_
    · decide +kernel
    simp (disch := first | omega | assumption | decide | (simp <;> omega) | fail) [facts, r3, g1, g1b, hpG, hiI2, rx]
    try (repeat' apply And.intro)
    all_goals
      refine fresh_intro fun b5 hb5 => ?_
      have hb5' : H b5 = none := le_of_none (Heap.le_trans hHG hle1) hb5
      have qt5 : tb ≠ b5 := ne_of_fresh hb5 (ow.le _ _ hrow0)
      have qp5 : p ≠ b5 := ne_of_fresh hb5 hpG
      have q35 : b3 ≠ b5 := ne_of_fresh hb5 r3
      simp (disch := first | omega | assumption | decide | (simp <;> omega) | fail) [facts, upd_ne, r3, g1, g1b, hpG, hiI2, rx, kx, hzs, upd_upd]
      subst hI
      have w1 := upd_other (o := .row true 0 xl 0) hb5 r3
      have w3 := ow.grow (le_upd (.row true 0 xl 0) hb5)
      first
        | exact ⟨by simp, by simp, by simp, ⟨b5, by simp, hb5', w3, w1, upd_same _ _ _⟩⟩
        | exact ⟨⟨by simp, by simp, by simp, ⟨b5, by simp, hb5', w3, w1, upd_same _ _ _⟩⟩, ⟨by simp, by simp, by simp, ⟨b5, by simp, hb5', w3, w1, upd_same _ _ _⟩⟩⟩
  rintro ⟨env, G2⟩ hII
  subst hI
  obtain ⟨e0, e3, e4, b5, e5, hb5, ow, r3, r5⟩ := hII
  simp only at e0 e3 e4 e5 ow r3 r5
  have hb5R : R b5 = none := le_of_none hR hb5
  have q35 : b3 ≠ b5 := fun e => by
    subst e
    rw [r3] at r5
    have : rl = xl := by simpa using r5
    rw [this] at rl17
    omega
  have hrR : r.kind ≠ 8 → r.kind ≠ 9 → RightR r := fun h8 h9 => by
    refine ⟨?_, hrr⟩
    have := hrr
    simp only [RZ.right, Rec.rz, Bool.and_eq_true] at this
    have a1 := of_decide_eq_true this.1.1.1.1.1.1.1.1
    have a2 := of_decide_eq_true this.1.1.1.1.1.1.1.2
    omega
  by_cases h9 : r.kind = 9
  case pos =>
    rw [if_pos h9] at hdB
    subst hdB
    have hs16 : xl.set 16 (.bool true) = ({ x with out := true } : Tm).cells := by rw [hxl]; rfl
    have hl16 : 16 < xl.length := by omega
    simp (disch := first | omega | assumption | decide | (simp <;> omega) | fail) [facts, e3, e5, r3, r5, g0, g0b, h9, hs16]
    obtain ⟨y, hy⟩ : ∃ y : Tm, y = { x with out := true } := ⟨_, rfl⟩
    obtain ⟨yl, hyl⟩ : ∃ yl, yl = y.cells := ⟨_, rfl⟩
    rw [← hy, ← hyl]
    have owy := own_dele (G' := upd G2 b5 (.row true 0 yl 0)) ow hb5 hb5R (fun b o h => by
      have hne : b ≠ b5 := fun e => by subst e; rw [Ca.dele_none] at h; cases h
      rw [dele_ne _ hne] at h
      rw [upd_ne _ _ hne]; exact h)
    have r3y : upd G2 b5 (.row true 0 yl 0) b3 = some (.row true 0 rl 0) := by rw [upd_ne _ _ q35]; exact r3
    have r5y := upd_same G2 b5 (.row true 0 yl 0)
    generalize upd G2 b5 _ = G3 at *
    have y18 : yl.length = 18 := by rw [hyl]; rfl
    have y1 : yl.all (·.oneCell') = true := by rw [hyl]; rfl
    have yk : List.take 18 yl = yl := List.take_of_length_le (by omega)
    obtain ⟨tail, room, hrow, hspl2, hfit2, hB2⟩ := terms_set hB hiT y
    rw [← hyl] at hspl2
    have hrowG := owy.le _ _ hrow
    have hpG := owy.le _ _ hB.row
    refine w_plan (P := Tryz.prog) (by simp [facts]) (opsP [0,1,2,3,4,5,6,7,8,9] .done) ?_ ?_
    · decide +kernel
    simp (disch := first | omega | assumption | decide | (simp <;> omega) | fail) [facts, e0, e3, e5, r3y, r5y, hpG, g1, g1b, hiI2, hrowG, yk, hspl2]
    refine ⟨_, Heap.le_refl _, _, owy.set hrow _, M, ?_, hp⟩
    exact hB2
  rw [if_neg h9] at hdB
  by_cases h8 : r.kind = 8
  case neg =>
    rw [if_neg h8] at hdB
    subst hdB
    have hst := bstep_c G2 R p fv (.slice (some ⟨tb, to, none⟩) T.length c) m M L T ow.le hB hp hok r (hrR h8 h9) x (by rw [hiN]; exact hx) h0
    rw [e1, ← hrl, ← hxl] at hst
    simp (disch := first | omega | assumption | decide | (simp <;> omega) | fail) [facts, e0, e3, e5, r3, r5, g0, g0b, h9, h8, k17, kx]
    refine hst.mono ?_
    rintro v G3 ⟨rfl, R3, M3, ow3, hB3, hp3⟩
    simp (disch := first | omega | assumption | decide | (simp <;> omega) | fail) [facts, ]
    exact ⟨_, Heap.le_refl _, R3, ow.trans ow3, M3, hB3, hp3⟩
  rw [if_pos h8] at hdB
  have hld := Ca.loadA_c x.s b5 r.x4 r.x5 r.x6 r.x7 x.out x.ld G2 (by rw [hxx]; exact r5)
  simp only [notesV] at hld
  simp (disch := first | omega | assumption | decide | (simp <;> omega) | fail) [facts, e3, e5, r3, r5, g0, g0b, h9, h8, gl]
  refine hld.mono ?_
  rintro v G3 ⟨rfl, hle3, r5'⟩
  replace ow := own_dele ow hb5 hb5R hle3
  replace r3 := hle3 _ _ (Ca.dele_get q35 r3)
  have hgv := Ca.giveA_c (loadT x.s r.x4 r.x5 r.x6 r.x7) b5 r.n0 r.n1 r.n2 r.n3 r.x0 r.x1 r.x2 r.x3 x.out x.ld G3 r5' (Ca.ok_loadT (hok.sets x (List.mem_of_getElem? hx)) _ _ _ _)
  simp only [notesV] at hgv
  simp (disch := first | omega | assumption | decide | (simp <;> omega) | fail) [facts, e3, e5, r3, gn, gx]
  refine hgv.mono ?_
  rintro v G4 ⟨rfl, hle4, r5'⟩
  replace ow := own_dele ow hb5 hb5R hle4
  replace r3 := hle4 _ _ (Ca.dele_get q35 r3)
  by_cases hge : giveE (loadT x.s r.x4 r.x5 r.x6 r.x7) r.n0 r.n1 r.n2 r.n3 r.x0 r.x1 r.x2 r.x3 = 0
  case neg =>
    rw [if_pos hge] at hdB
    subst hdB
    simp (disch := first | omega | assumption | decide | (simp <;> omega) | fail) [facts, hge]
    exact ⟨_, Heap.le_refl _, R, ow, M, hB, hp⟩
  rw [if_neg (not_not_intro hge)] at hdB
  subst hdB
  obtain ⟨y, hy⟩ : ∃ y : Tm, y = ⟨giveT (loadT x.s r.x4 r.x5 r.x6 r.x7) r.n0 r.n1 r.n2 r.n3 r.x0 r.x1 r.x2 r.x3, false, r.amount⟩ := ⟨_, rfl⟩
  obtain ⟨yl, hyl⟩ : ∃ yl, yl = y.cells := ⟨_, rfl⟩
  obtain ⟨zl, hzl⟩ : ∃ zl, zl = flat (giveT (loadT x.s r.x4 r.x5 r.x6 r.x7) r.n0 r.n1 r.n2 r.n3 r.x0 r.x1 r.x2 r.x3) ++ [.bool x.out, .int .i64 x.ld] := ⟨_, rfl⟩
  rw [← hzl] at r5'
  have z18 : zl.length = 18 := by rw [hzl]; rfl
  have zs : (zl.set 17 (.int .i64 r.amount)).set 16 (.bool false) = yl := by rw [hzl, hyl, hy]; rfl
  simp (disch := first | omega | assumption | decide | (simp <;> omega) | fail) [facts, hge, e3, e5, r3, r5', g4, g4b, upd_upd, zs, upd_ne]
  rw [← hy]
  have owy := own_dele (G' := upd G4 b5 (.row true 0 yl 0)) ow hb5 hb5R (fun b o h => by
    have hne : b ≠ b5 := fun e => by subst e; rw [Ca.dele_none] at h; cases h
    rw [dele_ne _ hne] at h
    rw [upd_ne _ _ hne]; exact h)
  have r3y : upd G4 b5 (.row true 0 yl 0) b3 = some (.row true 0 rl 0) := by rw [upd_ne _ _ q35]; exact r3
  have r5y := upd_same G4 b5 (.row true 0 yl 0)
  generalize upd G4 b5 _ = G5 at *
  have y18 : yl.length = 18 := by rw [hyl]; rfl
  have y1 : yl.all (·.oneCell') = true := by rw [hyl]; rfl
  have yk : List.take 18 yl = yl := List.take_of_length_le (by omega)
  obtain ⟨tail, room, hrow, hspl2, hfit2, hB2⟩ := terms_set hB hiT y
  rw [← hyl] at hspl2
  have hrowG := owy.le _ _ hrow
  have hpG := owy.le _ _ hB.row
  refine w_plan (P := Tryz.prog) (by simp [facts]) (opsP [0,1,2,3,4,5,6,7,8,9] .done) ?_ ?_
  · decide +kernel
  simp (disch := first | omega | assumption | decide | (simp <;> omega) | fail) [facts, e0, e3, e5, r3y, r5y, hpG, g1, g1b, hiI2, hrowG, yk, hspl2]
  refine ⟨_, Heap.le_refl _, _, owy.set hrow _, M, ?_, hp⟩
  exact hB2
end Go.Proofs.YtfpighmafofoeaaGreatDoor.GL
