/- Layer 20: BookFull. -/
import Derived.Test.YthaggpicjpkjiaaGreatBlC
namespace Go.Proofs.YthaggpicjpkjiaaGreat.GL
open Go Go.RowKit
open St (Txn txnL txnV zeroT RightT OkT Rec recV stepF fromL)
open Ca (S4 flat setV OkS CassOk newS)
set_option maxRecDepth 10000
set_option pp.deepTerms.threshold 8
set_option pp.maxSteps 3000
set_option linter.unusedSimpArgs false
set_option linter.unusedVariables false

def rb (s : Nat) : Rec := ⟨1, 0, s, [53, 49], 600, 0, 0, 0, 0, 0, 0, 0, 0, 0, 0, 0, 0⟩
def ra (s : Nat) : Rec := ⟨2, 0, s, [], 0, 0, 0, 0, 0, 0, 0, 0, 0, 0, 0, 0, 0⟩
def bt (s : Nat) : Txn := ⟨0, s, [53, 49], 600, 1, 0, 0, 0, 0, 0, 0⟩
def fullL (i : Nat) : List Txn := (List.range i).map fun j => bt (j + 1)
theorem fullL_len (i : Nat) : (fullL i).length = i := by simp [fullL]
theorem fullL_mem {i : Nat} {t : Txn} : t ∈ fullL i ↔ ∃ s, 1 ≤ s ∧ s ≤ i ∧ t = bt s := by
  unfold fullL
  rw [List.mem_map]
  constructor
  · rintro ⟨j, hj, rfl⟩
    have := List.mem_range.1 hj
    exact ⟨j + 1, by omega, by omega, rfl⟩
  · rintro ⟨s, h1, h2, rfl⟩
    exact ⟨s - 1, List.mem_range.2 (by omega), by rw [show s - 1 + 1 = s by omega]⟩
theorem bt_key (s : Nat) : kyT (bt s) = ⟨0, s⟩ := rfl
theorem getK_no {k : KZ} {M : List Txn} (h : ∀ t ∈ M, kyT t ≠ k) : getK k M = none := by
  cases hg : getK k M with
  | none => rfl
  | some t =>
    obtain ⟨h1, h2⟩ := getK_some hg
    exact absurd h2 (h t h1)
theorem insL_end {u : Txn} : ∀ {L : List Txn}, (∀ t ∈ L, KZ.lt (kyT t) (kyT u)) → insL u L = L ++ [u]
  | [], _ => rfl
  | t :: l, h => by
    have h1 := h t (by simp)
    unfold insL
    rw [if_neg (fun e => by rw [e] at h1; exact KZ.lt_irr _ h1), if_neg (KZ.asym h1), insL_end fun x hx => h x (by simp [hx])]
    rfl
theorem rb_right (s : Nat) : (rb s).rz.right = true := by kernel_rfl
theorem ra_right (s : Nat) : (ra s).rz.right = true := by kernel_rfl
theorem rb_step (s : Nat) : stepF zeroT (rb s) = (bt s, 0) := by simp [stepF, fromL, rb, bt, zeroT]
theorem ra_step (s : Nat) : (stepF (bt s) (ra s)).2 = 0 := by simp [stepF, fromL, ra, bt]
theorem ra_key (s : Nat) : kyT (stepF (bt s) (ra s)).1 = ⟨0, s⟩ := by simp [stepF, fromL, ra, bt, kyT]
theorem ra_zero (s : Nat) : (stepF zeroT (ra s)).2 = 30 := by simp [stepF, fromL, ra, zeroT]
theorem full_do {T : List Tm} (hT : T.length = 1) (i : Nat) : doB ⟨T, fullL (min i 400)⟩ (rb (i + 1)) = (⟨T, fullL (min (i + 1) 400)⟩, if i < 400 then 0 else 21) := by
  obtain ⟨x, hx⟩ : ∃ x, T[0]? = some x := ⟨_, List.getElem?_eq_getElem (by omega)⟩
  unfold doB
  rw [rb_right, if_neg (by decide)]
  have h1 : T[(rb (i + 1)).term.toNat]? = some x := hx
  simp only [h1]
  rw [if_neg (by show ¬ (1 : Int) = 9; decide), if_neg (by show ¬ (1 : Int) = 8; decide)]
  unfold stepB
  have hg : getK (kyR (rb (i + 1))) (fullL (min i 400)) = none := getK_no fun t ht => by
    obtain ⟨s, h1, h2, rfl⟩ := fullL_mem.1 ht
    rw [bt_key]
    intro e
    have := congrArg KZ.s e
    simp [kyR, rb] at this
    omega
  simp only [hg, Option.getD_none, rb_step, Option.isSome_none, fullL_len]
  rw [if_neg (by simp)]
  by_cases hi : i < 400
  · rw [if_neg (by omega), if_neg (by show ¬ (1 : Int) = 6; decide), if_pos hi, Nat.min_eq_left (by omega), Nat.min_eq_left (by omega), insL_end fun t ht => ?_]
    · congr 2
      unfold fullL
      rw [List.range_succ, List.map_append]; rfl
    · obtain ⟨s, h1, h2, rfl⟩ := fullL_mem.1 ht
      have hlt : (s : Int) < ((i + 1 : Nat) : Int) := by omega
      exact .inr ⟨rfl, hlt⟩
  · rw [if_pos ⟨trivial, by omega⟩, if_neg hi, Nat.min_eq_right (by omega), Nat.min_eq_right (by omega)]
theorem full_ap {T : List Tm} (hT : T.length = 1) (i s : Nat) (h1 : 1 ≤ s) (h2 : s ≤ i) (hi : i ≤ 400) (hok : BOk ⟨T, fullL i⟩) : ∃ L', doB ⟨T, fullL i⟩ (ra s) = (⟨T, L'⟩, 0) ∧ (∀ t ∈ L', (kyT t).s ≤ i) := by
  obtain ⟨x, hx⟩ : ∃ x, T[0]? = some x := ⟨_, List.getElem?_eq_getElem (by omega)⟩
  have hg : getK (kyR (ra s)) (fullL i) = some (bt s) := getK_mem hok.ord.nodup (fullL_mem.2 ⟨s, h1, h2, rfl⟩) rfl
  refine ⟨insL (stepF (bt s) (ra s)).1 (fullL i), ?_, fun t ht => ?_⟩
  · unfold doB
    rw [ra_right, if_neg (by decide)]
    have h1 : T[(ra s).term.toNat]? = some x := hx
    simp only [h1]
    rw [if_neg (by show ¬ (2 : Int) = 9; decide), if_neg (by show ¬ (2 : Int) = 8; decide)]
    unfold stepB
    simp only [hg, Option.getD_some, Option.isSome_some, ra_step]
    rw [if_neg (by simp), if_neg (by simp), if_neg (by show ¬ (2 : Int) = 6; decide)]
  · have := (insL_keys (stepF (bt s) (ra s)).1 (fullL i) (kyT t)).1 (List.mem_map_of_mem ht)
    rw [ra_key] at this
    rcases this with e | e
    · rw [e]; show (s : Int) ≤ i; omega
    · obtain ⟨t', ht', e⟩ := List.mem_map.1 e
      obtain ⟨s', a1, a2, rfl⟩ := fullL_mem.1 ht'
      rw [← e]
      show (s' : Int) ≤ i
      omega
theorem full_no {T : List Tm} (hT : T.length = 1) {L' : List Txn} (h : ∀ t ∈ L', (kyT t).s ≤ 400) : doB ⟨T, L'⟩ (ra 9999) = (⟨T, L'⟩, 30) := by
  obtain ⟨x, hx⟩ : ∃ x, T[0]? = some x := ⟨_, List.getElem?_eq_getElem (by omega)⟩
  have hg : getK (kyR (ra 9999)) L' = none := getK_no fun t ht e => by
    have := h t ht
    rw [e] at this
    exact absurd this (by decide)
  unfold doB
  rw [ra_right, if_neg (by decide)]
  have h1 : T[(ra 9999).term.toNat]? = some x := hx
  simp only [h1]
  rw [if_neg (by show ¬ (2 : Int) = 9; decide), if_neg (by show ¬ (2 : Int) = 8; decide)]
  unfold stepB
  simp only [hg, Option.getD_none, ra_zero]
  rw [if_pos (by decide)]
end Go.Proofs.YthaggpicjpkjiaaGreat.GL
