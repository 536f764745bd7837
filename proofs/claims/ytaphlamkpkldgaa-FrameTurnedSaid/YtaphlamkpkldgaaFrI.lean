/- Layer 4: reading numbers of bytes; a reader. -/
import Derived.Test.YtaphlamkpkldgaaFrH
namespace Go.Proofs.Ytaphlamkpkldgaa.GL
open Go Go.RowKit
set_option maxRecDepth 10000
set_option pp.deepTerms.threshold 8
set_option pp.maxSteps 3000
set_option linter.unusedSimpArgs false
set_option linter.unusedVariables false

/-- The number of bytes; nought, if it doesn't fit. -/
def numN (bs : List UInt8) : Nat := (numB bs).getD 0
theorem numGo_small : ∀ (bs : List UInt8) (v : Nat), (v + 1) * 256 ^ bs.length ≤ 2 ^ 64 → ∃ w, numGo bs v = some w ∧ w < (v + 1) * 256 ^ bs.length
  | [], v, h => ⟨v, rfl, by simp⟩
  | c :: r, v, h => by
    rw [List.length_cons, Nat.pow_succ, Nat.mul_comm (256 ^ r.length) 256, ← Nat.mul_assoc] at h ⊢
    have h1 : 0 < 256 ^ r.length := Nat.pow_pos (by decide)
    have hc := c.toNat_lt
    have h2 : (v + 1) * 256 ≤ (v + 1) * 256 * 256 ^ r.length := Nat.le_mul_of_pos_right _ h1
    have h3 : (v * 256 + c.toNat + 1) * 256 ^ r.length ≤ (v + 1) * 256 * 256 ^ r.length := Nat.mul_le_mul_right _ (by omega)
    obtain ⟨w, hw, hlt⟩ := numGo_small r (v * 256 + c.toNat) (by omega)
    refine ⟨w, ?_, by omega⟩
    simp only [numGo]
    rw [if_neg (by omega)]
    exact hw
theorem numB_small {bs : List UInt8} (h : bs.length ≤ 8) : numB bs = some (numN bs) ∧ numN bs < 256 ^ bs.length := by
  obtain ⟨w, hw, hlt⟩ := numGo_small bs 0 (by
    rw [Nat.zero_add, Nat.one_mul]
    exact Nat.le_trans (Nat.pow_le_pow_right (by decide) h) (by decide))
  rw [Nat.zero_add, Nat.one_mul] at hlt
  have e : numB bs = some w := hw
  have e2 : numN bs = w := by unfold numN; rw [e]; rfl
  rw [e2]; exact ⟨e, hlt⟩
theorem numN_lt {bs : List UInt8} {m : Nat} (h : bs.length ≤ m) (hm : m ≤ 8) : numN bs < 256 ^ m :=
  Nat.lt_of_lt_of_le (numB_small (by omega)).2 (Nat.pow_le_pow_right (by decide) h)
theorem numN_lt64 (bs : List UInt8) : numN bs < 2 ^ 64 := by
  unfold numN
  cases h : numB bs with
  | none => decide
  | some w => exact numGo_lt bs 0 w (by decide) h
theorem numN_one (c : UInt8) : numN [c] = c.toNat := by simp [numN, numB, numGo]
theorem num1_c (a : Option Addr) (n c : Nat) (bs : List UInt8) (H : Heap) (h : SlA H a n 1 (bs.map u8V)) (hn : n ≤ 140737488351232) :
    ECalls Try.prog 29 #[.slice a n c] H fun r H' => (∃ t : Bool, r = .tuple #[.int .u64 (numN bs : Nat), .bool t]) ∧ H' = H := by
  refine (number_c a n c bs H h hn).mono ?_
  rintro v H' ⟨rfl, rfl⟩
  refine ⟨?_, rfl⟩
  unfold numN numV
  cases numB bs with
  | none => exact ⟨false, rfl⟩
  | some w => exact ⟨true, rfl⟩
theorem num_c (a : Option Addr) (n c : Nat) (bs : List UInt8) (H : Heap) (h : SlA H a n 1 (bs.map u8V)) (hn : n ≤ 7) :
    ECalls Try.prog 30 #[.slice a n c] H fun r H' => r = .int .i64 (numN bs : Nat) ∧ H' = H := by
  refine ecalls_of_ewp (args := [_]) Try.func30 rfl rfl rfl (by simp [Try.ntmps30]) (by kernel_rfl) ?_
  have hl : bs.length = n := by simpa using h.len
  have hb := numN_lt (bs := bs) (m := 7) (by omega) (by decide)
  have hs := (numB_small (bs := bs) (by omega)).1
  simp (disch := first | omega | assumption | decide | (simp <;> omega) | fail) [facts, ]
  refine (numberR_c a n c bs H h (by omega)).mono ?_
  rintro v H' ⟨rfl, rfl⟩
  rw [hs]
  simp (disch := first | omega | assumption | decide | (simp <;> omega) | fail) [facts, numV]
/-- A part of a slice of bytes. -/
theorem SlA.mid {H : Heap} {a : Option Addr} {n c l h : Nat} {bs : List UInt8} (hs : SlA H a n 1 (bs.map u8V)) (h1 : l ≤ h) (h2 : h ≤ n) (h3 : n ≤ c) : SlA H (if c = l then a else a.map (fun x => x.add l)) (h - l) 1 (((bs.drop l).take (h - l)).map u8V) := by
  by_cases h0 : c = l
  · have e : h - l = 0 := by omega
    rw [if_pos h0, e]
    have := hs.take (m := 0) (Nat.zero_le _)
    simpa using this
  · rw [if_neg h0]
    have h4 := hs.drop (m := l) (by omega)
    have h5 := h4.take (m := h - l) (by omega)
    simp only [Nat.mul_one] at h5
    rw [List.map_take, List.map_drop]
    exact h5
theorem SlA.tl {H : Heap} {a : Option Addr} {n c l : Nat} {bs : List UInt8} (hs : SlA H a n 1 (bs.map u8V)) (h1 : l ≤ n) (h3 : n ≤ c) : SlA H (if c = l then a else a.map (fun x => x.add l)) (n - l) 1 ((bs.drop l).map u8V) := by
  have hl : bs.length = n := by simpa using hs.len
  have := hs.mid (l := l) (h := n) h1 (Nat.le_refl _) h3
  rw [List.take_of_length_le (by rw [List.length_drop]; omega)] at this
  exact this
theorem SlA.hd {H : Heap} {a : Option Addr} {n h : Nat} {bs : List UInt8} (hs : SlA H a n 1 (bs.map u8V)) (h2 : h ≤ n) : SlA H a h 1 ((bs.take h).map u8V) := by
  have := hs.take h2
  rw [Nat.mul_one] at this
  rw [List.map_take]; exact this
/-- A reader at p of what stands in D. -/
structure RdS (D H : Heap) (p : Nat) (bs : List UInt8) : Prop where
  le : Heap.le D H
  np : D p = none
  row : ∃ a c, H p = some (.row true 0 [.slice a bs.length c] 0) ∧ SlA D a bs.length 1 (bs.map u8V) ∧ bs.length ≤ c
def Keep (p : Nat) (H H' : Heap) : Prop := ∀ i x, i ≠ p → H i = some x → H' i = some x
theorem Keep.refl (p : Nat) (H : Heap) : Keep p H H := fun _ _ _ h => h
theorem Keep.trans {p : Nat} {A B C : Heap} (h : Keep p A B) (k : Keep p B C) : Keep p A C := fun i x hi e => k i x hi (h i x hi e)
theorem Keep.upd {p : Nat} {H : Heap} (o : GObj) : Keep p H (upd H p o) := fun i x hi e => by rw [upd_ne _ _ hi]; exact e
theorem Keep.le {p : Nat} {H H' : Heap} (h : Heap.le H H') : Keep p H H' := fun i x _ e => h i x e
theorem RdS.grow {D H H' : Heap} {p : Nat} {bs : List UInt8} (h : RdS D H p bs) (hl : Heap.le H H') : RdS D H' p bs := by
  obtain ⟨a, c, h1, h2, h3⟩ := h.row
  exact ⟨Heap.le_trans h.le hl, h.np, a, c, hl _ _ h1, h2, h3⟩
theorem RdS.set {D H : Heap} {p q : Nat} {bs : List UInt8} (h : RdS D H p bs) (hq : D q = none) (hqp : q ≠ p) (o : GObj) : RdS D (upd H q o) p bs := by
  obtain ⟨a, c, h1, h2, h3⟩ := h.row
  refine ⟨fun i x e => ?_, h.np, a, c, by rw [upd_ne _ _ hqp.symm]; exact h1, h2, h3⟩
  have : i ≠ q := fun e' => by subst e'; rw [hq] at e; cases e
  rw [upd_ne _ _ this]; exact h.le _ _ e
theorem rnum_c (D H : Heap) (p k : Nat) (bs : List UInt8) (h : RdS D H p bs) (hk : k ≤ bs.length) (hb : bs.length ≤ 100000) :
    ECalls Try.prog 33 #[.pointer (some ⟨p, 0, none⟩), .int .i64 k] H fun v H' => v = .int .u64 (numN (bs.take k) : Nat) ∧ RdS D H' p (bs.drop k) ∧ Keep p H H' := by
  refine ecalls_of_ewp (args := [_, _]) Try.func33 rfl rfl rfl (by simp [Try.ntmps33]) (by kernel_rfl) ?_
  obtain ⟨a, c, hr, hs, hc⟩ := h.row
  have hkc : (k : Int) ≤ (c : Int) := by omega
  have hkI : (k : Int) ≤ (bs.length : Int) := by omega
  simp (disch := first | omega | assumption | decide | (simp <;> omega) | fail) [facts, hr]
  refine (num1_c a k c (bs.take k) H ((hs.hd hk).le h.le) (by omega)).mono ?_
  rintro v H' ⟨⟨t, rfl⟩, rfl⟩
  simp (disch := first | omega | assumption | decide | (simp <;> omega) | fail) [facts, hr]
  refine ⟨_, Heap.le_refl _, ⟨fun i x e => ?_, h.np, _, c - k, by rw [upd_same, List.length_drop], ?_, by rw [List.length_drop]; omega⟩, Keep.upd _⟩
  · have : i ≠ p := fun e' => by subst e'; rw [h.np] at e; cases e
    rw [upd_ne _ _ this]; exact h.le _ _ e
  · rw [List.length_drop]; exact hs.tl hk hc
def nzAt (x : List UInt8) : NZ := ⟨numN (x.take 2), numN ((x.drop 2).take 2), numN ((x.drop 4).take 2), numN ((x.drop 6).take 2)⟩
def nzL (x : List UInt8) (k : Nat) : List Value := (List.range 4).map fun j => if j < k then .int .i64 (numN ((x.drop (2 * j)).take 2) : Nat) else .int .i64 0
theorem nzL_len (x : List UInt8) (k : Nat) : (nzL x k).length = 4 := by simp [nzL]
theorem nzL_set (x : List UInt8) (k : Nat) (hk : k < 4) : (nzL x k).set k (.int .i64 (numN ((x.drop (2 * k)).take 2) : Nat)) = nzL x (k + 1) := by
  rcases k with _ | _ | _ | _ | k <;> first | rfl | omega
theorem nzL_4 (bs : List UInt8) : nzL bs 4 = [.int .i64 (numN (bs.take 2) : Nat), .int .i64 (numN ((bs.drop 2).take 2) : Nat), .int .i64 (numN ((bs.drop 4).take 2) : Nat), .int .i64 (numN ((bs.drop 6).take 2) : Nat)] := rfl
def rnInv (D H0 : Heap) (p b2 b3 : Nat) (bs : List UInt8) (st : St) : Prop :=
  ∃ k : Nat, k ≤ 4 ∧ st.env 0 = .pointer (some ⟨p, 0, none⟩) ∧ st.env 2 = .pointer (some ⟨b2, 0, none⟩) ∧ st.env 3 = .pointer (some ⟨b3, 0, none⟩) ∧ st.env 5 = .int .i64 k ∧ RdS D st.heap p (bs.drop (2 * k)) ∧ Keep p H0 st.heap ∧ H0 b3 = none ∧ st.heap b3 = some (.row true 0 (nzL bs k) 0) ∧ H0 b2 = none ∧ b2 ≠ b3 ∧ st.heap b2 = some (.row true 0 [.int .i64 0, .int .i64 0, .int .i64 0, .int .i64 0] 0)
theorem rnotes_c (D H : Heap) (p : Nat) (bs : List UInt8) (h : RdS D H p bs) (hk : 8 ≤ bs.length) (hb : bs.length ≤ 100000) :
    ECalls Try.prog 34 #[.pointer (some ⟨p, 0, none⟩)] H fun v H' => v = .agg #[.int .i64 (numN (bs.take 2) : Nat), .int .i64 (numN ((bs.drop 2).take 2) : Nat), .int .i64 (numN ((bs.drop 4).take 2) : Nat), .int .i64 (numN ((bs.drop 6).take 2) : Nat)] ∧ RdS D H' p (bs.drop 8) ∧ Keep p H H' := by
  refine ecalls_of_ewp (args := [_]) Try.func34 rfl rfl rfl (by simp [Try.ntmps34]) (by kernel_rfl) ?_
  obtain ⟨a, c, hr, hs, hc⟩ := h.row
  simp (disch := first | omega | assumption | decide | (simp <;> omega) | fail) [facts, ]
  refine fresh_intro fun b2 hb2 => ?_
  simp (disch := first | omega | assumption | decide | (simp <;> omega) | fail) [facts, ]
  refine fresh_intro fun b3 hb3 => ?_
  have hn2 := upd_same H b2 (.row true 0 [.int .i64 0, .int .i64 0, .int .i64 0, .int .i64 0] 0)
  have h23 : b2 ≠ b3 := fun e => by subst e; rw [upd_same] at hb3; cases hb3
  have hb3' : H b3 = none := by rw [upd_ne _ _ h23.symm] at hb3; exact hb3
  simp (disch := first | omega | assumption | decide | (simp <;> omega) | fail) [facts, ]
  refine w_loop (rnInv D H p b2 b3 bs) (fun st => 4 - (intOf (st.env 5)).toNat) ?_ ?_
  · exact ⟨0, by decide, by simp, by simp, by simp, by simp, (h.grow (le_upd _ hb2)).grow (le_upd _ hb3), Keep.le (Heap.le_trans (le_upd _ hb2) (le_upd _ hb3)), hb3', upd_same _ _ _, hb2, h23, (upd_ne _ _ h23).trans hn2⟩
  rintro ⟨env, G⟩ ⟨k, hk4, e0, e2, e3, e5, hrd, hkp, n3, r3, n2, _, r2⟩
  simp only at e0 e2 e3 e5 hrd hkp r3 r2
  have hp3 : b3 ≠ p := fun e => by subst e; rw [hr] at n3; cases n3
  have hp2 : b2 ≠ p := fun e => by subst e; rw [hr] at n2; cases n2
  by_cases hlt : k < 4
  · have hltI : (k : Int) < 4 := by omega
    have cc := rnum_c D G p 2 (bs.drop (2 * k)) hrd (by rw [List.length_drop]; omega) (by rw [List.length_drop]; omega)
    have hv := numN_lt (bs := (bs.drop (2 * k)).take 2) (m := 2) (by rw [List.length_take]; omega) (by decide)
    simp (disch := first | omega | assumption | decide | (simp <;> omega) | fail) [facts, e0, e3, e5, hltI]
    refine cc.mono ?_
    rintro v G2 ⟨rfl, hrd2, hkp2⟩
    have r3' := hkp2 _ _ hp3 r3
    have r2' := hkp2 _ _ hp2 r2
    have hlen := nzL_len bs k
    have hset := nzL_set bs k hlt
    simp (disch := first | omega | assumption | decide | (simp <;> omega) | fail) [facts, e0, e3, e5, r3', hset]
    refine ⟨_, Heap.le_refl _, ⟨k + 1, by omega, by simp [e0], by simp [e2], by simp [e3], by simp, ?_, ?_, n3, upd_same _ _ _, n2, h23, (upd_ne _ _ h23).trans r2'⟩, by simp [intOf, e5]; omega⟩
    · rw [List.drop_drop] at hrd2
      rw [show 2 * (k + 1) = 2 * k + 2 by omega]
      exact hrd2.set (le_of_none h.le n3) hp3 _
    · exact fun i x hi e => (upd_ne _ _ (ne_of_fresh n3 e)).trans (hkp2 i x hi (hkp i x hi e))
  · have hk4 : k = 4 := by omega
    subst hk4
    rw [nzL_4] at r3
    simp (disch := first | omega | assumption | decide | (simp <;> omega) | fail) [facts, e0, e2, e3, e5, r3, r2]
    exact ⟨_, Heap.le_refl _, hrd.set (le_of_none h.le n2) hp2 _, fun i x hi e => (upd_ne _ _ (ne_of_fresh n2 e)).trans (hkp i x hi e)⟩
end Go.Proofs.Ytaphlamkpkldgaa.GL
