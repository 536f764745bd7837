/- Layer 20: one terminal's part of a book. -/
import Derived.Test.YthaggpicjpkjiaaGreatBlH
namespace Go.Proofs.YthaggpicjpkjiaaGreat.GL
open Go Go.RowKit
open St (Txn txnL txnV zeroT RightT OkT Rec recV stepF fromL revT RightR)
open Ca (S4 flat setV OkS CassOk newS giveE giveT loadE loadT)
set_option maxRecDepth 10000
set_option pp.deepTerms.threshold 8
set_option pp.maxSteps 3000
set_option linter.unusedSimpArgs false
set_option linter.unusedVariables false

def ofOne (t : Txn) : Bool := decide (t.term = 1)
theorem ofOne_key {t u : Txn} (h : kyT t = kyT u) : ofOne t = ofOne u := by
  have : t.term = u.term := congrArg KZ.t h
  unfold ofOne; rw [this]
theorem insL_cons (u t : Txn) (l : List Txn) : insL u (t :: l) = if kyT t = kyT u then u :: l else if KZ.lt (kyT u) (kyT t) then u :: t :: l else t :: insL u l := rfl
theorem insL_out {u : Txn} (hu : ofOne u = false) : ∀ L : List Txn, (insL u L).filter ofOne = L.filter ofOne
  | [] => by simp [insL, hu]
  | t :: l => by
    unfold insL
    by_cases h1 : kyT t = kyT u
    · rw [if_pos h1, List.filter_cons, hu, List.filter_cons, ofOne_key h1, hu]; simp
    · rw [if_neg h1]
      by_cases h2 : KZ.lt (kyT u) (kyT t)
      · rw [if_pos h2, List.filter_cons, hu]; rfl
      · rw [if_neg h2, List.filter_cons, List.filter_cons, insL_out hu l]
theorem insL_before {u : Txn} : ∀ {L : List Txn}, (∀ t ∈ L, KZ.lt (kyT u) (kyT t)) → insL u L = u :: L
  | [], _ => rfl
  | t :: l, h => by
    have h1 := h t (by simp)
    unfold insL
    rw [if_neg (fun e => by rw [e] at h1; exact KZ.lt_irr _ h1), if_pos h1]
theorem insL_in {u : Txn} (hu : ofOne u = true) : ∀ {L : List Txn}, Sorted L → (insL u L).filter ofOne = insL u (L.filter ofOne)
  | [], _ => by simp [insL, hu]
  | t :: l, h => by
    have hh : (kyT t :: l.map kyT).Pairwise KZ.lt := h
    obtain ⟨h1, h2⟩ := List.pairwise_cons.1 hh
    have ih := insL_in hu (L := l) h2
    by_cases e1 : kyT t = kyT u
    · have ht : ofOne t = true := by rw [ofOne_key e1, hu]
      have ea : insL u (t :: l) = u :: l := by rw [insL_cons, if_pos e1]
      have eb : insL u (t :: l.filter ofOne) = u :: l.filter ofOne := by rw [insL_cons, if_pos e1]
      rw [ea, List.filter_cons, hu, List.filter_cons, ht]
      simp only [if_true]
      rw [eb]
    · by_cases e2 : KZ.lt (kyT u) (kyT t)
      · have ea : insL u (t :: l) = u :: t :: l := by rw [insL_cons, if_neg e1, if_pos e2]
        rw [ea, List.filter_cons, hu]
        simp only [if_true]
        refine (insL_before fun x hx => ?_).symm
        rcases List.mem_cons.1 (List.mem_filter.1 hx).1 with rfl | hx
        · exact e2
        · exact KZ.trans e2 (h1 _ (List.mem_map_of_mem hx))
      · have ea : insL u (t :: l) = t :: insL u l := by rw [insL_cons, if_neg e1, if_neg e2]
        rw [ea, List.filter_cons, List.filter_cons, ih]
        cases ht : ofOne t with
        | false => rfl
        | true =>
          simp only [if_true]
          have eb : insL u (t :: l.filter ofOne) = t :: insL u (l.filter ofOne) := by
            rw [insL_cons, if_neg e1, if_neg e2]
          rw [eb]
theorem getK_filter {k : KZ} (hk : k.t = 1) : ∀ L : List Txn, getK k (L.filter ofOne) = getK k L
  | [] => rfl
  | t :: l => by
    rw [getK_cons, List.filter_cons]
    by_cases h : kyT t = k
    · have ht : ofOne t = true := by
        have : t.term = 1 := by rw [← hk, ← h]; rfl
        unfold ofOne; rw [this]; rfl
      rw [ht, if_pos h]
      simp only [if_true]
      rw [getK_cons, if_pos h]
    · rw [if_neg h]
      cases ht : ofOne t with
      | false => simpa using getK_filter hk l
      | true =>
        simp only [if_true]
        rw [getK_cons, if_neg h, getK_filter hk l]
/-- b is the part of a that is terminal 1's. -/
structure PartB (a b : Bz) : Prop where
  t : a.T[1]? = b.T[1]?
  ln : a.T.length = b.T.length
  l : b.L = a.L.filter ofOne
theorem stepB_part {a b : Bz} (h : PartB a b) (ha : a.L.length < 400) (hb : b.L.length < 400) (hs : Sorted a.L) {x : Tm} {r : Rec} (hr : r.term = 1) (hk : ∀ t, (stepF ((getK (kyR r) a.L).getD zeroT) r).2 = 0 → t = (stepF ((getK (kyR r) a.L).getD zeroT) r).1 → kyT t = kyR r) : PartB (stepB a x r).1 (stepB b x r).1 := by
  have hg : getK (kyR r) b.L = getK (kyR r) a.L := by rw [h.l]; exact getK_filter (by show r.term = 1; exact hr) a.L
  unfold stepB
  simp only
  rw [hg]
  obtain ⟨q, hq⟩ : ∃ q, q = stepF ((getK (kyR r) a.L).getD zeroT) r := ⟨_, rfl⟩
  rw [← hq] at hk ⊢
  by_cases he : q.2 = 0
  case neg => rw [if_pos he, if_pos he]; exact h
  have hna : ¬ ((getK (kyR r) a.L).isSome = false ∧ 400 ≤ a.L.length) := fun hh => by have := hh.2; omega
  have hnb : ¬ ((getK (kyR r) a.L).isSome = false ∧ 400 ≤ b.L.length) := fun hh => by have := hh.2; omega
  rw [if_neg (not_not_intro he), if_neg (not_not_intro he), if_neg hna, if_neg hnb]
  have hu : ofOne q.1 = true := by
    have := congrArg KZ.t (hk q.1 he rfl)
    have h1 : q.1.term = 1 := this.trans hr
    unfold ofOne; rw [h1]; rfl
  have hl : insL q.1 b.L = (insL q.1 a.L).filter ofOne := by rw [h.l, insL_in hu hs]
  have hset : ∀ y : Tm, (a.T.set r.term.toNat y)[1]? = (b.T.set r.term.toNat y)[1]? := fun y => by
    rw [hr]
    show (a.T.set 1 y)[1]? = (b.T.set 1 y)[1]?
    by_cases hlt : 1 < a.T.length
    · rw [List.getElem?_set_self hlt, List.getElem?_set_self (by rw [← h.ln]; exact hlt)]
    · rw [List.getElem?_eq_none (by simpa using hlt), List.getElem?_eq_none (by rw [List.length_set, ← h.ln]; omega)]
  by_cases h6 : r.kind = 6
  · rw [if_pos h6, if_pos h6]
    split
    · exact h
    · exact ⟨hset _, by simpa using h.ln, hl⟩
  · rw [if_neg h6, if_neg h6]
    exact ⟨h.t, h.ln, hl⟩
theorem right_R {r : Rec} (hr : r.rz.right = true) (h8 : r.kind ≠ 8) (h9 : r.kind ≠ 9) : RightR r := by
  refine ⟨?_, hr⟩
  have := hr
  simp only [RZ.right, Rec.rz, Bool.and_eq_true] at this
  have a1 := of_decide_eq_true this.1.1.1.1.1.1.1.1
  have a2 := of_decide_eq_true this.1.1.1.1.1.1.1.2
  omega
theorem step_key {b : Bz} (hok : BOk b) {r : Rec} (hr : RightR r) (he : (stepF ((getK (kyR r) b.L).getD zeroT) r).2 = 0) : kyT (stepF ((getK (kyR r) b.L).getD zeroT) r).1 = kyR r := by
  cases hg : getK (kyR r) b.L with
  | none => rw [hg] at he; exact (step_ok (.inl rfl) hr (.inl rfl) he).2
  | some t =>
    obtain ⟨h1, h2⟩ := getK_some hg
    rw [hg] at he
    exact (step_ok (.inr (hok.ok t h1)) hr (.inr h2) he).2
theorem part_in {a b : Bz} (h : PartB a b) (hok : BOk a) (ha : a.L.length < 400) (hb : b.L.length < 400) {r : Rec} (hr : r.term = 1) : PartB (doB a r).1 (doB b r).1 := by
  unfold doB
  by_cases hrr : r.rz.right = false
  · rw [if_pos hrr, if_pos hrr]; exact h
  rw [if_neg hrr, if_neg hrr]
  have hn : r.term.toNat = 1 := by rw [hr]; rfl
  rw [hn, ← h.t]
  cases hx : a.T[1]? with
  | none => exact h
  | some x =>
    have hlt : 1 < a.T.length := (List.getElem?_eq_some_iff.1 hx).1
    have hset : ∀ y : Tm, (a.T.set 1 y)[1]? = (b.T.set 1 y)[1]? := fun y => by rw [List.getElem?_set_self hlt, List.getElem?_set_self (by rw [← h.ln]; exact hlt)]
    simp only
    by_cases h9 : r.kind = 9
    · rw [if_pos h9, if_pos h9]
      exact ⟨hset _, by simpa using h.ln, h.l⟩
    rw [if_neg h9, if_neg h9]
    by_cases h8 : r.kind = 8
    · rw [if_pos h8, if_pos h8]
      split
      · exact h
      · exact ⟨hset _, by simpa using h.ln, h.l⟩
    rw [if_neg h8, if_neg h8]
    have hR := right_R (by simpa using hrr) h8 h9
    exact stepB_part h ha hb hok.ord hr fun t he ht => by rw [ht]; exact step_key hok hR he
theorem part_out {a b : Bz} (h : PartB a b) (hok : BOk a) {r : Rec} (hr : r.term ≠ 1) (h0 : 0 ≤ r.term) : PartB (doB a r).1 b := by
  unfold doB
  by_cases hrr : r.rz.right = false
  · rw [if_pos hrr]; exact h
  rw [if_neg hrr]
  have hn : r.term.toNat ≠ 1 := by omega
  have hset : ∀ y : Tm, (a.T.set r.term.toNat y)[1]? = b.T[1]? := fun y => by rw [List.getElem?_set_ne hn]; exact h.t
  cases hx : a.T[r.term.toNat]? with
  | none => exact h
  | some x =>
    simp only
    by_cases h9 : r.kind = 9
    · rw [if_pos h9]
      exact ⟨hset _, by simpa using h.ln, h.l⟩
    rw [if_neg h9]
    by_cases h8 : r.kind = 8
    · rw [if_pos h8]
      split
      · exact h
      · exact ⟨hset _, by simpa using h.ln, h.l⟩
    rw [if_neg h8]
    have hR := right_R (by simpa using hrr) h8 h9
    have hkey := fun he => step_key hok hR (r := r) he
    unfold stepB
    simp only
    obtain ⟨q, hq⟩ : ∃ q, q = stepF ((getK (kyR r) a.L).getD zeroT) r := ⟨_, rfl⟩
    rw [← hq] at hkey ⊢
    by_cases he : q.2 = 0
    case neg => rw [if_pos he]; exact h
    rw [if_neg (not_not_intro he)]
    split
    · exact h
    have hu : ofOne q.1 = false := by
      have := congrArg KZ.t (hkey he)
      have h1 : q.1.term = r.term := this
      unfold ofOne; rw [h1]; simpa using hr
    have hl : b.L = (insL q.1 a.L).filter ofOne := by rw [insL_out hu]; exact h.l
    split
    · split
      · exact h
      · exact ⟨hset _, by simpa using h.ln, hl⟩
    · exact ⟨h.t, h.ln, hl⟩
/-- A record makes one transaction at most. -/
theorem insL_len_le (u : Txn) : ∀ L : List Txn, (insL u L).length ≤ L.length + 1
  | [] => by simp [insL]
  | t :: l => by
    unfold insL
    split
    · simp
    · split
      · simp
      · have := insL_len_le u l
        simp only [List.length_cons]
        omega
theorem doB_len (b : Bz) (r : Rec) : (doB b r).1.L.length ≤ b.L.length + 1 := by
  unfold doB
  split
  · simp
  · split
    · simp
    · split
      · simp
      · split
        · split <;> simp
        · unfold stepB
          simp only
          split
          · simp
          · split
            · simp
            · split
              · split
                · simp
                · exact insL_len_le _ _
              · exact insL_len_le _ _
theorem part_open {a b : Bz} (h : PartB a b) : b.L.filter (keepB 1) = a.L.filter (keepB 1) := by
  rw [h.l, List.filter_filter]
  congr 1
  funext t
  unfold keepB ofOne
  by_cases h1 : t.term = 1 <;> simp [h1]
theorem part_none {a b : Bz} (h : PartB a b) {z : Nat} (hz : z ≠ 1) : b.L.filter (keepB z) = [] := by
  rw [h.l, List.filter_filter, List.filter_eq_nil_iff]
  intro t _
  unfold keepB ofOne
  by_cases h1 : t.term = 1
  · have : ¬ (1 : Int) = (z : Int) := by omega
    simp [h1, this]
  · simp [h1]
end Go.Proofs.YthaggpicjpkjiaaGreat.GL
